/- Layer 12: look.NewDoom. -/
import Derived.Test.YtmlnedilbneekaaGreatLookY
import Derived.Test.YtmlnedilbneekaaGreatRegT
import Derived.Deep.RegionHeld3
import Derived.Test.YtmlnedilbneekaaGreatMake
set_option linter.unusedVariables false
set_option linter.unusedSimpArgs false
namespace Go.Proofs.YtmlnedilbneekaaGreat
open Go.RowKit
attribute [local go_sem ↓] Go.wp_at_zero Go.wp_at_succ
section
variable {w0 w w' w'' : World} {z : Sb} {F G : List Nat} {S S' : Sp} {k j b : Nat} {x x' : Lk} {y : Dm} {tv wv vv lv dv : Value}
set_option maxRecDepth 100000 in
set_option maxHeartbeats 8000000 in
theorem lk_step_word1y (h : SP w0 w z F S) (hf : Fit k S) (hk : k ≤ 1099511627776) (hl : LK w0 w z F b G x) (hu : S.wu) (hx : x.Ok j) (hj : j ≤ 1099511627776) (t : Int) (l : List Int) (ht : x.turns = t :: l) (hlo : x.looked = true) (v0 : Int) (hw : x.words = [v0]) (hmet : (x.word (S.word t 1).1.1).met = true) :
 Calls Tryz.prog 32 #[PT b] w fun e w' => e = .returned (.int .i64 1) ∧ WentL w0 w w' z F G b (S.word t 1).2 ((x.word (S.word t 1).1.1).meets t).turn := by
 obtain ⟨m0,hm0,hm1⟩ : ∃ m0 : Nat,v0 = m0 ∧ m0 < 18446744073709551616 := by have := hx.wu v0 (by rw [hw]; simp); unfold isU at this; exact ⟨v0.toNat,by omega,by omega⟩
 have hvs := hx.vs
 have HSG := Lib.hid hx.sg
 have hmx : Hid (x.victims.length + 1 ≤ maxLen) := by unfold Hid maxLen; omega
 have hby : Hid ((x.victims.length + 1) * 32 ≤ 140737488355328) := by unfold Hid; omega
 have HM0 := Lib.hid (And.intro hm0 hm1)
 clear hm0 hm1 hvs hx hj
 obtain ⟨⟨tv,wv,vv,ha,hG⟩,hlow,hoff⟩ := id hl
 have hn : x.turns.length = l.length + 1 := by rw [ht]; rfl
 have hs := ha.turns
 rw [hn] at hs
 obtain ⟨g,off,c,rfl,hc,hm,hcell⟩ := hs.spot
 have HTL : Hid (g ∈ footL b (.slice (some ⟨g,off,none⟩) (l.length + 1) c) wv vv) := by unfold Hid; simp [footL,vblk,Value.ownBlock]
 have t0 : w.cell? ⟨g,off,none⟩ = some (.int .i64 t) := by
  have := hcell 0 (.int .i64 t) (by rw [ht]; rfl)
  simpa using this
 have c4 : w.cell? ⟨b,4,none⟩ = some (.slice (some ⟨g,off,none⟩) (l.length + 1) c) := (Blk.cell ha.blk 4).trans rfl
 have c0 : w.cell? ⟨b,0,none⟩ = some (PT z.p) := (Blk.cell ha.blk 0).trans rfl
 have q1 : (0 : Int) < ((l.length + 1 : Nat) : Int) := by omega
 have hd := lk_done ha
 rw [show x.turns.isEmpty = false from by rw [ht]; rfl] at hd
 have QD := Lib.hid hd
 have HN := Lib.hid hn
 have HT := Lib.hid ht
 have HH := Lib.hid h
 have HL := Lib.hid hl
 have HG := Lib.hid hG
 have HA := Lib.hid ha
 have HO := Lib.hid hoff
 have c12 : w.cell? ⟨b,12,none⟩ = some (.bool true) := by rw [← hlo]; exact (Blk.cell ha.blk 12).trans rfl
 have how := ha.words
 rw [hw] at how
 replace how : w.ownsRow 0 45 1 wv 1 [.int .u64 v0] := how
 obtain ⟨A,cc,rfl⟩ : ∃ A cc,wv = .slice A 1 cc := by
  rcases how.2 with ⟨rfl,h0⟩ | ⟨g',cap,cur,rfl,_⟩
  · cases h0
  · exact ⟨_,_,rfl⟩
 have HC := Lib.hid (show ∀ w',Keeps [] w w' → w'.cell? ⟨b,0,none⟩ = some (PT z.p) ∧ w'.cell? ⟨b,11,none⟩ = some (.slice A 1 cc) from fun w' hk => ⟨((Blk.keeps ha.blk hk (by simp)).cell 0).trans rfl,((Blk.keeps ha.blk hk (by simp)).cell 11).trans rfl⟩)
 have QS := Lib.hid (fun w' (hk : Keeps [] w w') => slots_held h hk)
 have hcl := fun w' (hk' : Keeps [] w w') => sp_word (h.calm hk') hf hk t 1
 have hvu := hu.word t 1
 obtain ⟨v,hv⟩ : ∃ v,(S.word t 1).1.1 = v := ⟨_,rfl⟩
 obtain ⟨er,her⟩ : ∃ v,(S.word t 1).1.2 = v := ⟨_,rfl⟩
 obtain ⟨S',hS'⟩ : ∃ v,(S.word t 1).2 = v := ⟨_,rfl⟩
 simp only [hv,her,hS'] at hcl hvu hmet ⊢
 obtain ⟨m1,hn0,hn1⟩ : ∃ m1 : Nat,v = m1 ∧ m1 < 18446744073709551616 := by unfold isU at hvu; exact ⟨v.toNat,by omega,by omega⟩
 have HM1 := Lib.hid (And.intro hn0 hn1)
 have HMET := Lib.hid hmet
 clear hn0 hn1 hmet
 have QC := Lib.hid (fun w' (hk' : Keeps [] w w') => (hcl w' hk').mono fun e w'' ⟨he,hw⟩ => And.intro he (hw.pre hk'))
 have hkB : Keeps [] w w := Keeps.refl _ _
 have HW := Lib.hid hw
 have HVU := Lib.hid hvu
 clear hcl hv her hS' hcell hs hn ht hd hG hlow hoff h hf hk hl hlo how hw hu hvu
 obtain ⟨i0,hi,hz0,hz1,hz2⟩ := info_parts Tryz.infoU64
 obtain ⟨j0,hj,hy0,hy1,hy2⟩ := info_parts Tryz.infoVc
 go_enter Tryz.func32,Tryz.ntmps32
 go_wp2_with fail
 refine QD.out.mono ?_
 rintro e w1 ⟨rfl,rfl⟩
 go_wp2_with fail
 clear c12 c4 t0
 go_region_held3 (fun w' => w'.cell? ⟨b,0,none⟩ = some (PT z.p) ∧ w'.cell? ⟨b,11,none⟩ = some (.slice A 1 cc)) (first | with_reducible exact HC.out _ Sq.kq | exact ⟨d0,d11⟩ | go_keep) ((first
  | (go_at_call 25; refine (QS.out _ Sq.kq).mono ?_; rintro e wc ⟨rfl,hkc⟩)
  | (go_at_call 108; refine (QC.out _ Sq.kq).mono ?_; rintro e wd ⟨rfl,hW⟩; obtain ⟨F',hs1,hk1,hn1⟩ := id hW; have hbd := HA.out.keeps hk1 (fun q hq => HO.out q (by rw [HG.out]; exact hq)); have d0 : wd.cell? ⟨b,0,none⟩ = some (PT z.p) := (hbd.blk.cell 0).trans rfl; have d11 : wd.cell? ⟨b,11,none⟩ = some (.slice A 1 cc) := (hbd.blk.cell 11).trans rfl; have HBD := Lib.hid hbd; have HWT := Lib.hid hW; clear hbd hs1 hk1 hn1 hW)))
 all_goals
  have how : wd.ownsRow 0 45 1 (.slice A 1 cc) 1 [.int .u64 v0] := by have := HBD.out.words; rw [HW.out] at this; exact this
  have HOW := Lib.hid how
  have hbl := HBD.out.blk.lt
  have hbw : b ≠ wd.heap.size := by omega
  clear how c0
  go_wp2_with (at_builtin; refine wpList_append_row rfl (.tmp 69) (.tmp 71) 187 rfl 45 i0 _ 1 8 Tryz.underlying187 hi hz0 hz1 hz2 rfl (by decide) (.slice A 1 cc) 1 _ rfl (own_keeps HOW.out ((Keeps.refl [] _).alloc _) (by simp)) _ 1 [.int .u64 v] rfl (made_row _ _ _ _ rfl) (by simp [Value.oneCell']) (by decide) (by decide) ?_; intro v1 w1 hown1 hg1 hat1; obtain ⟨g1,c1,rfl,_,_⟩ := hown1.form (by decide); have hb1 := (HBD.out.blk.alloc _).grown hg1 (fun e => own_blk_ne HOW.out HBD.out.blk (by decide) e.symm); have c11 : w1.cell? ⟨b,11,none⟩ = some (.slice A 1 cc) := (hb1.cell 11).trans rfl; have f11 := hb1.frozen 11; have H2 := Lib.hid (HBD.out.worded v _ hown1 hg1 hat1 (by rw [HW.out]; rfl)); clear hb1 hown1 hg1 hat1 hbw d0 d11)
  have H3 := Lib.hid (lk_met H2.out.1 m0 m1 (by show x.words ++ [v] = _; rw [HW.out,← HM0.out.1,← HM1.out.1]; rfl) HM0.out.2 HM1.out.2 HSG.out)
  rw [HMET.out] at H3
  refine H3.out.mono ?_
  rintro e w5 ⟨rfl,hk5⟩
  have ha5 := H2.out.1.keeps hk5 (by simp)
  have HA5 := Lib.hid ha5
  have HK5 := Lib.hid (H2.out.2.1.trans hk5 (by simp))
  clear f11 c11 hbl H3
  obtain ⟨c5,c7,c8,c13⟩ : w5.cell? ⟨b,5,none⟩ = some (.int .i64 x.head.gen) ∧ w5.cell? ⟨b,7,none⟩ = some (.int .i64 x.head.stamp) ∧ w5.cell? ⟨b,8,none⟩ = some (.int .i64 x.head.thread) ∧ w5.cell? ⟨b,13,none⟩ = some vv := ⟨(ha5.blk.cell 5).trans rfl,(ha5.blk.cell 7).trans rfl,(ha5.blk.cell 8).trans rfl,(ha5.blk.cell 13).trans rfl⟩
  have hbl := ha5.blk.lt
  have hbw : b ≠ w5.heap.size := by omega
  have HO5 := Lib.hid ha5.vs
  have HB5 := Lib.hid ha5.blk
  have at5 : atC w5 b 13 = vv := atC_eq c13
  have at6 : atC w5.drew b 13 = vv := atC_eq c13
  clear ha5 hk5
  go_wp2_with fail
  refine wp_region_noPanic ?_
  refine wp_region_L 26 (fun w' => w'.cell? ⟨b,5,none⟩ = some (.int .i64 x.head.gen) ∧ w'.cell? ⟨b,7,none⟩ = some (.int .i64 x.head.stamp) ∧ w'.cell? ⟨b,8,none⟩ = some (.int .i64 x.head.thread) ∧ w'.cell? ⟨b,13,none⟩ = some vv) (by kernel_rfl) ?_
  have hHeld := (show _ ∧ _ ∧ _ ∧ _ from ⟨(HB5.out.drew.cell 5).trans rfl,(HB5.out.drew.cell 7).trans rfl,(HB5.out.drew.cell 8).trans rfl,(HB5.out.drew.cell 13).trans rfl⟩)
  refine Sq.k (i := 0) (v := ?rv0) rfl ?ry0 hHeld ?rr0
  case ry0 => (intro w' hSw; obtain ⟨x0,x1,x2,x3⟩ := hSw; go_simp; first | done | with_reducible rfl)
  try simp only [Act.put,Sq.t,Sq.z,Sq.s]
  refine Sq.k (i := 1) (v := ?rv1) rfl ?ry1 hHeld ?rr1
  case ry1 => (intro w' hSw; obtain ⟨x0,x1,x2,x3⟩ := hSw; go_simp; first | done | with_reducible rfl)
  try simp only [Act.put,Sq.t,Sq.z,Sq.s]
  refine Sq.k (i := 2) (v := ?rv2) rfl ?ry2 hHeld ?rr2
  case ry2 => (intro w' hSw; obtain ⟨x0,x1,x2,x3⟩ := hSw; go_simp; first | done | with_reducible rfl)
  try simp only [Act.put,Sq.t,Sq.z,Sq.s]
  refine Sq.k (i := 3) (v := ?rv3) rfl ?ry3 hHeld ?rr3
  case ry3 => (intro w' hSw; obtain ⟨x0,x1,x2,x3⟩ := hSw; go_simp; first | done | with_reducible rfl)
  try simp only [Act.put,Sq.t,Sq.z,Sq.s]
  refine Sq.k (i := 4) (v := ?rv4) rfl ?ry4 hHeld ?rr4
  case ry4 => (intro w' hSw; obtain ⟨x0,x1,x2,x3⟩ := hSw; go_simp; first | done | with_reducible rfl)
  try simp only [Act.put,Sq.t,Sq.z,Sq.s]
  refine Sq.k (i := 5) (v := ?rv5) rfl ?ry5 hHeld ?rr5
  case ry5 => (intro w' hSw; obtain ⟨x0,x1,x2,x3⟩ := hSw; go_simp; first | done | with_reducible rfl)
  try simp only [Act.put,Sq.t,Sq.z,Sq.s]
  refine Sq.k (i := 6) (v := ?rv6) rfl ?ry6 hHeld ?rr6
  case ry6 => (intro w' hSw; obtain ⟨x0,x1,x2,x3⟩ := hSw; go_simp; first | done | with_reducible rfl)
  try simp only [Act.put,Sq.t,Sq.z,Sq.s]
  refine Sq.k (i := 7) (v := ?rv7) rfl ?ry7 hHeld ?rr7
  case ry7 => (intro w' hSw; obtain ⟨x0,x1,x2,x3⟩ := hSw; go_simp; first | done | with_reducible rfl)
  try simp only [Act.put,Sq.t,Sq.z,Sq.s]
  refine Sq.k (i := 8) (v := ?rv8) rfl ?ry8 hHeld ?rr8
  case ry8 => (intro w' hSw; obtain ⟨x0,x1,x2,x3⟩ := hSw; go_simp; first | done | with_reducible rfl)
  try simp only [Act.put,Sq.t,Sq.z,Sq.s]
  refine Sq.k (i := 9) (v := ?rv9) rfl ?ry9 hHeld ?rr9
  case ry9 => (intro w' hSw; obtain ⟨x0,x1,x2,x3⟩ := hSw; go_simp; first | done | with_reducible rfl)
  try simp only [Act.put,Sq.t,Sq.z,Sq.s]
  refine Sq.k (i := 10) (v := ?rv10) rfl ?ry10 hHeld ?rr10
  case ry10 => (intro w' hSw; obtain ⟨x0,x1,x2,x3⟩ := hSw; go_simp; first | done | with_reducible rfl)
  try simp only [Act.put,Sq.t,Sq.z,Sq.s]
  refine Sq.k (i := 11) (v := ?rv11) rfl ?ry11 hHeld ?rr11
  case ry11 => (intro w' hSw; obtain ⟨x0,x1,x2,x3⟩ := hSw; go_simp; first | done | with_reducible rfl)
  try simp only [Act.put,Sq.t,Sq.z,Sq.s]
  refine Sq.k (i := 12) (v := ?rv12) rfl ?ry12 hHeld ?rr12
  case ry12 => (intro w' hSw; obtain ⟨x0,x1,x2,x3⟩ := hSw; go_simp; first | done | with_reducible rfl)
  try simp only [Act.put,Sq.t,Sq.z,Sq.s]
  refine Sq.k (i := 13) (v := ?rv13) rfl ?ry13 hHeld ?rr13
  case ry13 => (intro w' hSw; obtain ⟨x0,x1,x2,x3⟩ := hSw; go_simp; first | done | with_reducible rfl)
  try simp only [Act.put,Sq.t,Sq.z,Sq.s]
  refine Sq.k (i := 14) (v := ?rv14) rfl ?ry14 hHeld ?rr14
  case ry14 => (intro w' hSw; obtain ⟨x0,x1,x2,x3⟩ := hSw; go_simp; first | done | with_reducible rfl)
  try simp only [Act.put,Sq.t,Sq.z,Sq.s]
  refine Sq.k (i := 15) (v := ?rv15) rfl ?ry15 hHeld ?rr15
  case ry15 => (intro w' hSw; obtain ⟨x0,x1,x2,x3⟩ := hSw; go_simp; first | done | with_reducible rfl)
  try simp only [Act.put,Sq.t,Sq.z,Sq.s]
  refine Sq.k (i := 16) (v := ?rv16) rfl ?ry16 hHeld ?rr16
  case ry16 => (intro w' hSw; obtain ⟨x0,x1,x2,x3⟩ := hSw; go_simp; first | done | with_reducible rfl)
  try simp only [Act.put,Sq.t,Sq.z,Sq.s]
  refine Sq.k (i := 17) (v := ?rv17) rfl ?ry17 hHeld ?rr17
  case ry17 => (intro w' hSw; obtain ⟨x0,x1,x2,x3⟩ := hSw; go_simp; first | done | with_reducible rfl)
  try simp only [Act.put,Sq.t,Sq.z,Sq.s]
  refine Sq.k (i := 18) (v := ?rv18) rfl ?ry18 hHeld ?rr18
  case ry18 => (intro w' hSw; obtain ⟨x0,x1,x2,x3⟩ := hSw; go_simp; first | done | with_reducible rfl)
  try simp only [Act.put,Sq.t,Sq.z,Sq.s]
  refine Sq.k (i := 19) (v := ?rv19) rfl ?ry19 hHeld ?rr19
  case ry19 => (intro w' hSw; obtain ⟨x0,x1,x2,x3⟩ := hSw; go_simp; first | done | with_reducible rfl)
  try simp only [Act.put,Sq.t,Sq.z,Sq.s]
  refine Sq.k (i := 20) (v := ?rv20) rfl ?ry20 hHeld ?rr20
  case ry20 => (intro w' hSw; obtain ⟨x0,x1,x2,x3⟩ := hSw; go_simp; first | done | with_reducible rfl)
  try simp only [Act.put,Sq.t,Sq.z,Sq.s]
  refine Sq.k (i := 21) (v := ?rv21) rfl ?ry21 hHeld ?rr21
  case ry21 => (intro w' hSw; obtain ⟨x0,x1,x2,x3⟩ := hSw; go_simp; first | done | with_reducible rfl)
  try simp only [Act.put,Sq.t,Sq.z,Sq.s]
  refine Sq.o (i := 22) rfl fun K hK => ?_
  go_simp
  refine hK.out _ _ (fun _ => ⟨((Blk.alloc HB5.out.drew _).cell 5).trans rfl,((Blk.alloc HB5.out.drew _).cell 7).trans rfl,((Blk.alloc HB5.out.drew _).cell 8).trans rfl,((Blk.alloc HB5.out.drew _).cell 13).trans rfl⟩) ?_
  clear hK K
  try simp only [Act.put,Sq.t,Sq.z,Sq.s]
  refine Sq.o (i := 23) rfl fun K hK => ?_
  refine step_append_lies _ rfl (.tmp 87) (.tmp 105) 48 rfl 0 113 j0 _ 4 32 Tryz.underlying48 hj hy0 hy1 hy2 rfl (by decide) vv x.victims.length (vcCells x.victims) rfl (own_keeps HO5.out ((Keeps.refl [] w5).drew.alloc _) (by simp)) ⟨w5.heap.size,0,none⟩ 1 1 (Vc.cells ⟨t,x.head.gen,x.head.stamp,x.head.thread⟩) rfl rfl (by exact World.news_of_block (new_at _ _ _ (by simp))) (by simp [Vc.cells,Value.oneCell']) (by decide) hmx.out hby.out (Nat.zero_le _) _ rfl ?_
  intro g3 c3 w6 hown3 hgrow3 hat3 hlt3
  have hb6 := ((HA5.out.blk.drew).alloc _).grown hgrow3 (fun e => own_blk_ne HO5.out HA5.out.blk (by decide) e.symm)
  have d13 : w6.cell? ⟨b,13,none⟩ = some vv := (hb6.cell 13).trans rfl
  have f13 := hb6.frozen 13
  have H6 := Lib.hid (HA5.out.metted t _ hown3 hgrow3 hat3)
  have hHeld2 : _ ∧ _ ∧ _ ∧ _ := ⟨(hb6.cell 5).trans rfl,(hb6.cell 7).trans rfl,(hb6.cell 8).trans rfl,(hb6.cell 13).trans rfl⟩
  have HB6 := Lib.hid hb6
  clear hb6 hown3 hgrow3 hat3
  refine hK.out _ _ (fun _ => hHeld2) ?_
  clear hK K
  try simp only [Act.put,Sq.t,Sq.z,Sq.s]
  refine Sq.o (i := 24) rfl fun K hK => ?_
  go_simp
  refine hK.out _ _ (fun _ => hHeld2) ?_
  clear hK K
  try simp only [Act.put,Sq.t,Sq.z,Sq.s]
  refine Sq.o (i := 25) rfl fun K hK => ?_
  go_simp
  refine hK.out _ _ (fun _ => hHeld2) ?_
  clear hK K
  try simp only [Act.put,Sq.t,Sq.z,Sq.s]
  refine Sq.o (i := 26) rfl fun K hK => ?_
  go_simp
  refine hK.out _ _ (fun h => absurd rfl h) ?_
  clear hK K
  try simp only [Act.put,Sq.t,Sq.z,Sq.s]
  refine wpAnyL_done (by kernel_rfl) ?_ _
  refine NoPanic.normal ?_
  all_goals
   go_wp2_with fail
   refine (lk_turn H6.out.1 (by show x.turns ≠ []; rw [HT.out]; simp)).mono ?_
   rintro e w7 ⟨rfl,tv',ha7,hk7,hv7⟩
   have HA7 := Lib.hid ha7
   have hX : Keeps (b :: ((Value.slice A 1 cc).ownBlock.toList ++ vv.ownBlock.toList)) wd w7 := ((HK5.out.mono (fun q hq => .inl (by simp only [List.mem_cons,List.mem_append] at hq ⊢; rcases hq with h | h; exact .inl h; exact .inr (.inl h)))).trans H6.out.2.1 (fun q hq => .inl (by simp only [List.mem_cons,List.mem_append] at hq ⊢; rcases hq with h | h; exact .inl h; exact .inr (.inr h)))).trans hk7 (fun q hq => .inl (by simp only [List.mem_cons,List.not_mem_nil,or_false] at hq ⊢; exact .inl hq))
   have HK7 := Lib.hid hX
   have HV7 := Lib.hid hv7
   clear ha7 hk7 hv7 hX
   go_wp2_with fail
   go_ret
   refine ⟨rfl,WentL.of HH.out HL.out HWT.out HK7.out (fun q hq => .inl ?_) HA7.out (fun q hq => ?_)⟩
   · rw [HG.out]
     simp only [List.mem_cons,List.mem_append] at hq
     simp only [footL,List.mem_cons,List.mem_append]
     rcases hq with hq | hq | hq
     · exact .inl hq
     · exact .inr (.inr (.inl hq))
     · exact .inr (.inr (.inr hq))
   ·
    rw [HG.out]
    simp only [footL,List.mem_cons,List.mem_append] at hq ⊢
    rcases hq with hq | hq | hq | hq
    · exact .inl (.inl hq)
    · exact .inl (.inr (.inl (HV7.out q hq)))
    · simp [vblk,Value.ownBlock] at hq
    · simp [vblk,Value.ownBlock] at hq
      subst hq
      have hz5 := HK5.out.size
      rcases H6.out.2.2 with h | h
      · exact .inl (.inr (.inr (.inr h)))
      · exact .inr (by omega)
end
open Go.RowKit
attribute [local go_sem ↓] Go.wp_at_zero Go.wp_at_succ
section
variable {w0 w w' w'' : World} {z : Sb} {F G : List Nat} {S S' : Sp} {k j b : Nat} {x x' : Lk} {y : Dm} {X : List Nat} {tv wv vv lv dv : Value}
theorem lk_step (h : SP w0 w z F S) (hf : Fit k S) (hk : k ≤ 1099511627776) (hl : LK w0 w z F b G x) (hu : S.wu) (hx : x.Ok j) (hj : j ≤ 1099511627776) :
 Calls Tryz.prog 32 #[PT b] w fun e w' => e = .returned (.int .i64 (x.step S).1) ∧ WentL w0 w w' z F G b (x.step S).2.2 (x.step S).2.1 := by
 unfold Lk.step
 split
 · rename_i ht
   exact lk_step_end h hl ht
 ·
  rename_i t l ht
  split
  · rename_i hlo
    exact lk_step_look h hf hk hl t l ht hlo
  ·
   rename_i hlo
   have hlo' : x.looked = true := by simpa using hlo
   cases hw : x.words with
   | nil =>
     have hc := lk_step_word0 h hf hk hl hu t l ht hlo' hw
     simpa using hc
   | cons v0 r =>
     have hr : r = [] := by have := hx.words; rw [hw] at this; simp at this; exact this
     subst hr
     cases hm : (x.word (S.word t 1).1.1).met
     · have hc := lk_step_word1n h hf hk hl hu hx hj t l ht hlo' v0 hw hm
       simpa [hm] using hc
     · have hc := lk_step_word1y h hf hk hl hu hx hj t l ht hlo' v0 hw hm
       simpa [hm] using hc
theorem dm_step_end (h : SP w0 w z F S) (hl : DM w0 w z F b G y) (ht : y.left = []) : Calls Tryz.prog 35 #[PT b] w fun e w' => e = .returned (.int .i64 3) ∧ WentD w0 w w' z F G b S y := by
 obtain ⟨⟨lv,dv,ha,hG⟩,_,_⟩ := id hl
 have hd := dm_done ha
 rw [show y.left.isEmpty = true from by rw [ht]; rfl] at hd
 have QD := Lib.hid hd
 have HW : Hid (WentD w0 w w z F G b S y) := WentD.still h hl Sq.r
 clear h hl ht ha hG hd
 go_enter Tryz.func35,Tryz.ntmps35
 go_wp2_with fail
 refine QD.out.mono ?_
 rintro e w1 ⟨rfl,rfl⟩
 go_wp2_with fail
 go_ret
 exact ⟨rfl,HW.out⟩
theorem DmAt.cut_ (h : DmAt w z b lv dv y) (lv' : Value) (v : Vc) (l : List Vc) (hl : y.left = v :: l) (hs : SlR w 113 4 lv' l.length ((vcCells y.left).drop 4)) (hv : ∀ q,q ∈ vblk lv' → q ∈ vblk lv) :
 DmAt (w.setCell ⟨b,2,none⟩ lv') z b lv' dv ⟨y.who,l,y.doomed⟩ ∧ Keeps [b] w (w.setCell ⟨b,2,none⟩ lv') := by
 have hk : Keeps [b] w (w.setCell ⟨b,2,none⟩ lv') := (Keeps.refl [b] w).setCell (.inl (by simp)) _
 refine ⟨⟨?_,?_,own_keeps h.doomed hk ?_,fun q hq => h.dif q (hv q hq)⟩,hk⟩
 · have := h.blk.set_ 2 lv'
   simpa using this
 ·
  have e : (vcCells y.left).drop 4 = vcCells l := by rw [hl]; rfl
  rw [e] at hs
  refine hs.keeps hk (fun q hq hx => ?_)
  simp at hx
  subst hx
  have h1 := hs.ty q hq
  rw [h.blk.tyOf] at h1
  revert h1
  decide
 · intro q hq hx
   simp at hx
   subst hx
   exact own_blk_ne h.doomed h.blk (by decide) hq
theorem DmAt.told (h : DmAt w z b lv dv y) {w1 : World} {g1 c1 : Nat} (v : Vc) {W : World} (hW : Keeps [] w W) (hown : w1.ownsRow 0 113 4 (.slice (some ⟨g1,0,none⟩) (y.doomed.length + 1) c1) (y.doomed.length + 1) (vcCells y.doomed ++ v.cells)) (hg : W.grownBy w1 dv.ownBlock) (hat : dv.ownBlock = some g1 ∨ w.heap.size ≤ g1) :
 DmAt (w1.setCell ⟨b,3,none⟩ (.slice (some ⟨g1,0,none⟩) (y.doomed.length + 1) c1)) z b lv (.slice (some ⟨g1,0,none⟩) (y.doomed.length + 1) c1) ⟨y.who,y.left,y.doomed ++ [v]⟩ ∧ Keeps (b :: dv.ownBlock.toList) w (w1.setCell ⟨b,3,none⟩ (.slice (some ⟨g1,0,none⟩) (y.doomed.length + 1) c1)) ∧ (g1 ∈ vblk dv ∨ w.heap.size ≤ g1) := by
 have hb1 := (h.blk.keeps hW (by simp)).grown hg (fun e => own_blk_ne h.doomed h.blk (by decide) e.symm)
 have hkg : Keeps dv.ownBlock.toList w w1 := (hW.mono (T := dv.ownBlock.toList) (by simp)).grown hg (fun q hq => .inl (by simp [hq]))
 have hk : Keeps (b :: dv.ownBlock.toList) w (w1.setCell ⟨b,3,none⟩ (.slice (some ⟨g1,0,none⟩) (y.doomed.length + 1) c1)) := (hkg.mono (fun q hq => .inl (by simp [hq]))).setCell (.inl (by simp)) _
 refine ⟨⟨?_,h.left.keeps hk ?_,?_,?_⟩,hk,?_⟩
 · have := hb1.set_ 3 (.slice (some ⟨g1,0,none⟩) (y.doomed.length + 1) c1)
   simpa using this
 ·
  intro q hq hx
  simp at hx
  rcases hx with rfl | hx
  · have h1 := h.left.ty q hq
    rw [h.blk.tyOf] at h1
    revert h1
    decide
  · exact h.dif q hq (by simp [vblk,hx])
 ·
  have := own_keeps hown (S := [b]) ((Keeps.refl [b] w1).setCell (p := ⟨b,3,none⟩) (.inl (by simp)) (.slice (some ⟨g1,0,none⟩) (y.doomed.length + 1) c1)) (fun q hq => by
   simp
   intro e2
   subst e2
   exact own_blk_ne hown hb1 (by decide) hq)
  rw [vcCells_snoc]
  show World.ownsRow _ 0 113 4 _ (y.doomed ++ [v]).length _
  rw [show (y.doomed ++ [v]).length = y.doomed.length + 1 from by simp]
  exact this
 ·
  intro q hq hx
  simp [vblk,Value.ownBlock] at hx
  subst hx
  rcases hat with e | e
  · exact h.dif _ hq (by simp [vblk,e])
  · have := tyOf_lt (h.left.ty _ hq)
    omega
 · rcases hat with e | e
   · exact .inl (by simp [vblk,e])
   · exact .inr e
theorem WentD.pre {w1 : World} (hk : Keeps X w w1) (hX : ∀ q,q ∈ X → q ∈ G ∨ w.heap.size ≤ q) (h : WentD w0 w1 w' z F G b S' y) : WentD w0 w w' z F G b S' y := by
 obtain ⟨F',G',h1,h2,h3,h4,h5⟩ := h
 have hz := hk.size
 refine ⟨F',G',h1,h2,(hk.mono (T := G ++ F) (fun q hq => by rcases hX q hq with h | h; exact .inl (by simp [h]); exact .inr h)).trans h3 (fun q hq => .inl hq),fun q hq => ?_,fun q hq => ?_⟩
 · rcases h4 q hq with h | h
   · exact .inl h
   · exact .inr (by omega)
 · rcases h5 q hq with h | h
   · exact .inl h
   · exact .inr (by omega)
set_option maxRecDepth 100000 in
set_option maxHeartbeats 4000000 in
theorem dm_step_n (h : SP w0 w z F S) (hf : Fit k S) (hk : k ≤ 1099511627776) (hl : DM w0 w z F b G y) (v : Vc) (l : List Vc) (ht : y.left = v :: l) (hdl : y.doomed.length ≤ 1099511627776) (he : (S.doom v.slot v.gen y.who).1 ≠ 0) :
 Calls Tryz.prog 35 #[PT b] w fun e w' => e = .returned (.int .i64 1) ∧ WentD w0 w w' z F G b (S.doom v.slot v.gen y.who).2 ⟨y.who,l,y.doomed⟩ := by
 obtain ⟨⟨lv,dv,ha,hG⟩,hlow,hoff⟩ := id hl
 obtain ⟨n,hnn⟩ : ∃ n,l.length = n := ⟨_,rfl⟩
 have hn : y.left.length = n + 1 := by rw [ht,← hnn]; rfl
 have hs := ha.left
 rw [hn] at hs
 obtain ⟨g,off,c,rfl,hc,hm,hcell⟩ := hs.spot
 obtain ⟨hc1,hc2⟩ := hs.cut1
 have HC12 := Lib.hid (And.intro hc1 hc2)
 obtain ⟨t0,t1,t2,t3⟩ : w.cell? ⟨g,off,none⟩ = some (.int .i64 v.slot) ∧ w.cell? ⟨g,off + 1,none⟩ = some (.int .i64 v.gen) ∧ w.cell? ⟨g,off + 2,none⟩ = some (.int .i64 v.stamp) ∧ w.cell? ⟨g,off + 3,none⟩ = some (.int .i64 v.thread) :=
  ⟨by simpa using hcell 0 (.int .i64 v.slot) (by rw [ht]; rfl),hcell 1 (.int .i64 v.gen) (by rw [ht]; rfl),hcell 2 (.int .i64 v.stamp) (by rw [ht]; rfl),hcell 3 (.int .i64 v.thread) (by rw [ht]; rfl)⟩
 have hgb : g ≠ b := fun e => by
  have h1 := ha.left.ty g (by simp [vblk,Value.ownBlock])
  rw [e,ha.blk.tyOf] at h1
  revert h1
  decide
 have c2 : w.cell? ⟨b,2,none⟩ = some (.slice (some ⟨g,off,none⟩) (n + 1) c) := (Blk.cell ha.blk 2).trans rfl
 have f2 := ha.blk.frozen 2
 have q0 : 0 < n + 1 := by omega
 have q1 : (0 : Int) < ((n + 1 : Nat) : Int) := by omega
 have q2 : (1 : Int) ≤ ((n + 1 : Nat) : Int) := by omega
 have q3 : ((n + 1 : Nat) : Int) ≤ (c : Int) := by omega
 have hd := dm_done ha
 rw [show y.left.isEmpty = false from by rw [ht]; rfl] at hd
 have QD := Lib.hid hd
 have HN := Lib.hid (And.intro hn hnn)
 have HT := Lib.hid ht
 have HH := Lib.hid h
 have HL := Lib.hid hl
 have HG := Lib.hid hG
 have HA := Lib.hid ha
 have HO := Lib.hid hoff
 have hmx : Hid (y.doomed.length + 1 ≤ maxLen) := by unfold Hid maxLen; omega
 have hby : Hid ((y.doomed.length + 1) * 32 ≤ 140737488355328) := by unfold Hid; omega
 have hbl := ha.blk.lt
 have hgl : g < w.heap.size := tyOf_lt (ha.left.ty g (by simp [vblk,Value.ownBlock]))
 have HZ := Lib.hid (And.intro hbl hgl)
 have hb1 : b ≠ w.heap.size := by omega
 have hg1 : g ≠ w.heap.size := by omega
 have hcl := fun (wx : World) (Fx : List Nat) (hx : SP w0 wx z Fx S) => sp_doom hx hf hk v.slot v.gen y.who
 obtain ⟨er,her⟩ : ∃ q,(S.doom v.slot v.gen y.who).1 = q := ⟨_,rfl⟩
 obtain ⟨S',hS'⟩ : ∃ q,(S.doom v.slot v.gen y.who).2 = q := ⟨_,rfl⟩
 simp only [her,hS'] at hcl he ⊢
 have QL := Lib.hid hcl
 have e0 : (er == 0) = false := by simp [he]
 clear hcl her hS' he hcell hs hn hnn ht hd hG hlow hoff h hf hk hl hc1 hc2 hdl
 go_enter Tryz.func35,Tryz.ntmps35
 go_wp2_with fail
 refine QD.out.mono ?_
 rintro e w1 ⟨rfl,rfl⟩
 go_wp2
 case inl =>
  have hsl : SlR w 113 4 (.slice (some ⟨g,off,none⟩) n 0) l.length ((vcCells y.left).drop 4) := by rw [HN.out.2]; (have e := HC12.out.1 ‹c = 1›; rw [‹c = 1›] at e; exact e)
  have hct := HA.out.cut_ (.slice (some ⟨g,off,none⟩) n 0) v l HT.out hsl (fun q hq => by simpa [vblk,Value.ownBlock] using hq)
  obtain ⟨wA,hwA⟩ : ∃ q,w.setCell ⟨b,2,none⟩ (.slice (some ⟨g,off,none⟩) n 0) = q := ⟨_,rfl⟩
  have hsz : wA.heap.size = w.heap.size := by rw [← hwA]; simp [World.setCell]
  rw [hwA] at hct ⊢
  have hka : Keeps [] wA (wA.alloc (.cells #[.int .i64 v.slot,.int .i64 v.gen,.int .i64 v.stamp,.int .i64 v.thread] 113)) := by simp
  have hb2 := hct.1.keeps hka (by simp)
  have hk2 := hct.2.trans hka (by simp)
  have hp2 : Blk (wA.alloc (.cells #[.int .i64 v.slot,.int .i64 v.gen,.int .i64 v.stamp,.int .i64 v.thread] 113)) w.heap.size 113 #[.int .i64 v.slot,.int .i64 v.gen,.int .i64 v.stamp,.int .i64 v.thread] := new_at _ _ _ hsz
  obtain ⟨wB,hwB⟩ : ∃ q,wA.alloc (.cells #[.int .i64 v.slot,.int .i64 v.gen,.int .i64 v.stamp,.int .i64 v.thread] 113) = q := ⟨_,rfl⟩
  obtain ⟨p,hp⟩ : ∃ q,w.heap.size = q := ⟨_,rfl⟩
  rw [hwB] at hb2 hk2 hp2 ⊢
  rw [hp] at hp2 ⊢
  have HB2 := Lib.hid hb2
  have HK2 := Lib.hid hk2
  have HP2 := Lib.hid hp2
  have HPP := Lib.hid hp
  have hs2 : SP w0 wB z F S := HH.out.apt HL.out.apt hk2 (fun q hq => by rw [HG.out]; simp at hq; simp [footD,hq])
  have hl2 : DM w0 wB z F b G ⟨y.who,l,y.doomed⟩ := ⟨⟨_,dv,hb2,by rw [HG.out]; rfl⟩,HL.out.low,HL.out.off⟩
  have hpF : p ∉ F := fun hx => by have := HH.out.lt p hx; omega
  have HPF := Lib.hid hpF
  have HS2 := Lib.hid hs2
  have HL2 := Lib.hid hl2
  have QS := Lib.hid (fun w' (hk : Keeps [] wB w') => slots_held hs2 hk)
  have QC := Lib.hid (fun w' (hk' : Keeps [] wB w') => (QL.out w' F (hs2.calm hk')).mono fun e w'' ⟨he,hw⟩ => And.intro he (hw.pre hk'))
  have HC := Lib.hid (show ∀ w',Keeps [] wB w' → w'.cell? ⟨b,0,none⟩ = some (PT z.p) ∧ w'.cell? ⟨b,1,none⟩ = some (.int .i64 y.who) ∧ w'.cell? ⟨p,0,none⟩ = some (.int .i64 v.slot) ∧ w'.cell? ⟨p,1,none⟩ = some (.int .i64 v.gen) from fun w' hk => ⟨((Blk.keeps hb2.blk hk (by simp)).cell 0).trans rfl,((Blk.keeps hb2.blk hk (by simp)).cell 1).trans rfl,((Blk.keeps hp2 hk (by simp)).cell 0).trans rfl,((Blk.keeps hp2 hk (by simp)).cell 1).trans rfl⟩)
  have hkB : Keeps [] wB wB := Keeps.refl _ _
  clear hct hka hb2 hk2 hp2 hsz hs2 hl2 hwA hwB hsl t0 t1 t2 t3 c2 f2 hb1 hg1 hgb hp hpF hbl hgl
  go_region_held3 (fun w' => w'.cell? ⟨b,0,none⟩ = some (PT z.p) ∧ w'.cell? ⟨b,1,none⟩ = some (.int .i64 y.who) ∧ w'.cell? ⟨p,0,none⟩ = some (.int .i64 v.slot) ∧ w'.cell? ⟨p,1,none⟩ = some (.int .i64 v.gen)) (first | with_reducible exact HC.out _ Sq.kq | exact ⟨d0,d1,d2,d3⟩ | go_keep) ((first
   | (go_at_call 25; refine (QS.out _ Sq.kq).mono ?_; rintro e wc ⟨rfl,hkc⟩)
   | (go_at_call 88; refine (QC.out _ Sq.kq).mono ?_; rintro e wd ⟨rfl,hW⟩; obtain ⟨F',hs1,hk1,hn1⟩ := id hW; have hbd := HB2.out.keeps hk1 (fun q hq => HO.out q (by rw [HG.out]; exact hq)); have hpd := HP2.out.keeps hk1 HPF.out; have d0 : wd.cell? ⟨b,0,none⟩ = some (PT z.p) := (hbd.blk.cell 0).trans rfl; have d1 : wd.cell? ⟨b,1,none⟩ = some (.int .i64 y.who) := (hbd.blk.cell 1).trans rfl; have d2 : wd.cell? ⟨p,0,none⟩ = some (.int .i64 v.slot) := (hpd.cell 0).trans rfl; have d3 : wd.cell? ⟨p,1,none⟩ = some (.int .i64 v.gen) := (hpd.cell 1).trans rfl; have HBD := Lib.hid hbd; have HPD := Lib.hid hpd; have HWT := Lib.hid hW; clear hbd hpd hs1 hk1 hn1 hW)))
  all_goals
   go_wp2_with fail
   go_ret
   exact ⟨rfl,WentD.pre HK2.out (fun q hq => .inl (by rw [HG.out]; simp at hq; simp [footD,hq])) (WentD.of HS2.out HL2.out HWT.out (Keeps.refl [] wd) (by simp) HBD.out (fun q hq => .inl (by rw [HG.out]; exact hq)))⟩
 case inr =>
  have hsl : SlR w 113 4 (.slice (some ⟨g,off + 4,none⟩) n (c - 1)) l.length ((vcCells y.left).drop 4) := by rw [HN.out.2]; exact HC12.out.2 ‹¬c = 1›
  have hct := HA.out.cut_ (.slice (some ⟨g,off + 4,none⟩) n (c - 1)) v l HT.out hsl (fun q hq => by simpa [vblk,Value.ownBlock] using hq)
  obtain ⟨wA,hwA⟩ : ∃ q,w.setCell ⟨b,2,none⟩ (.slice (some ⟨g,off + 4,none⟩) n (c - 1)) = q := ⟨_,rfl⟩
  have hsz : wA.heap.size = w.heap.size := by rw [← hwA]; simp [World.setCell]
  rw [hwA] at hct ⊢
  have hka : Keeps [] wA (wA.alloc (.cells #[.int .i64 v.slot,.int .i64 v.gen,.int .i64 v.stamp,.int .i64 v.thread] 113)) := by simp
  have hb2 := hct.1.keeps hka (by simp)
  have hk2 := hct.2.trans hka (by simp)
  have hp2 : Blk (wA.alloc (.cells #[.int .i64 v.slot,.int .i64 v.gen,.int .i64 v.stamp,.int .i64 v.thread] 113)) w.heap.size 113 #[.int .i64 v.slot,.int .i64 v.gen,.int .i64 v.stamp,.int .i64 v.thread] := new_at _ _ _ hsz
  obtain ⟨wB,hwB⟩ : ∃ q,wA.alloc (.cells #[.int .i64 v.slot,.int .i64 v.gen,.int .i64 v.stamp,.int .i64 v.thread] 113) = q := ⟨_,rfl⟩
  obtain ⟨p,hp⟩ : ∃ q,w.heap.size = q := ⟨_,rfl⟩
  rw [hwB] at hb2 hk2 hp2 ⊢
  rw [hp] at hp2 ⊢
  have HB2 := Lib.hid hb2
  have HK2 := Lib.hid hk2
  have HP2 := Lib.hid hp2
  have HPP := Lib.hid hp
  have hs2 : SP w0 wB z F S := HH.out.apt HL.out.apt hk2 (fun q hq => by rw [HG.out]; simp at hq; simp [footD,hq])
  have hl2 : DM w0 wB z F b G ⟨y.who,l,y.doomed⟩ := ⟨⟨_,dv,hb2,by rw [HG.out]; rfl⟩,HL.out.low,HL.out.off⟩
  have hpF : p ∉ F := fun hx => by have := HH.out.lt p hx; omega
  have HPF := Lib.hid hpF
  have HS2 := Lib.hid hs2
  have HL2 := Lib.hid hl2
  have QS := Lib.hid (fun w' (hk : Keeps [] wB w') => slots_held hs2 hk)
  have QC := Lib.hid (fun w' (hk' : Keeps [] wB w') => (QL.out w' F (hs2.calm hk')).mono fun e w'' ⟨he,hw⟩ => And.intro he (hw.pre hk'))
  have HC := Lib.hid (show ∀ w',Keeps [] wB w' → w'.cell? ⟨b,0,none⟩ = some (PT z.p) ∧ w'.cell? ⟨b,1,none⟩ = some (.int .i64 y.who) ∧ w'.cell? ⟨p,0,none⟩ = some (.int .i64 v.slot) ∧ w'.cell? ⟨p,1,none⟩ = some (.int .i64 v.gen) from fun w' hk => ⟨((Blk.keeps hb2.blk hk (by simp)).cell 0).trans rfl,((Blk.keeps hb2.blk hk (by simp)).cell 1).trans rfl,((Blk.keeps hp2 hk (by simp)).cell 0).trans rfl,((Blk.keeps hp2 hk (by simp)).cell 1).trans rfl⟩)
  have hkB : Keeps [] wB wB := Keeps.refl _ _
  clear hct hka hb2 hk2 hp2 hsz hs2 hl2 hwA hwB hsl t0 t1 t2 t3 c2 f2 hb1 hg1 hgb hp hpF hbl hgl
  go_region_held3 (fun w' => w'.cell? ⟨b,0,none⟩ = some (PT z.p) ∧ w'.cell? ⟨b,1,none⟩ = some (.int .i64 y.who) ∧ w'.cell? ⟨p,0,none⟩ = some (.int .i64 v.slot) ∧ w'.cell? ⟨p,1,none⟩ = some (.int .i64 v.gen)) (first | with_reducible exact HC.out _ Sq.kq | exact ⟨d0,d1,d2,d3⟩ | go_keep) ((first
   | (go_at_call 25; refine (QS.out _ Sq.kq).mono ?_; rintro e wc ⟨rfl,hkc⟩)
   | (go_at_call 88; refine (QC.out _ Sq.kq).mono ?_; rintro e wd ⟨rfl,hW⟩; obtain ⟨F',hs1,hk1,hn1⟩ := id hW; have hbd := HB2.out.keeps hk1 (fun q hq => HO.out q (by rw [HG.out]; exact hq)); have hpd := HP2.out.keeps hk1 HPF.out; have d0 : wd.cell? ⟨b,0,none⟩ = some (PT z.p) := (hbd.blk.cell 0).trans rfl; have d1 : wd.cell? ⟨b,1,none⟩ = some (.int .i64 y.who) := (hbd.blk.cell 1).trans rfl; have d2 : wd.cell? ⟨p,0,none⟩ = some (.int .i64 v.slot) := (hpd.cell 0).trans rfl; have d3 : wd.cell? ⟨p,1,none⟩ = some (.int .i64 v.gen) := (hpd.cell 1).trans rfl; have HBD := Lib.hid hbd; have HPD := Lib.hid hpd; have HWT := Lib.hid hW; clear hbd hpd hs1 hk1 hn1 hW)))
  all_goals
   go_wp2_with fail
   go_ret
   exact ⟨rfl,WentD.pre HK2.out (fun q hq => .inl (by rw [HG.out]; simp at hq; simp [footD,hq])) (WentD.of HS2.out HL2.out HWT.out (Keeps.refl [] wd) (by simp) HBD.out (fun q hq => .inl (by rw [HG.out]; exact hq)))⟩
set_option maxRecDepth 100000 in
set_option maxHeartbeats 4000000 in
theorem dm_step_y (h : SP w0 w z F S) (hf : Fit k S) (hk : k ≤ 1099511627776) (hl : DM w0 w z F b G y) (v : Vc) (l : List Vc) (ht : y.left = v :: l) (hdl : y.doomed.length ≤ 1099511627776) (he : (S.doom v.slot v.gen y.who).1 = 0) :
 Calls Tryz.prog 35 #[PT b] w fun e w' => e = .returned (.int .i64 1) ∧ WentD w0 w w' z F G b (S.doom v.slot v.gen y.who).2 ⟨y.who,l,y.doomed ++ [v]⟩ := by
 obtain ⟨⟨lv,dv,ha,hG⟩,hlow,hoff⟩ := id hl
 obtain ⟨n,hnn⟩ : ∃ n,l.length = n := ⟨_,rfl⟩
 have hn : y.left.length = n + 1 := by rw [ht,← hnn]; rfl
 have hs := ha.left
 rw [hn] at hs
 obtain ⟨g,off,c,rfl,hc,hm,hcell⟩ := hs.spot
 obtain ⟨hc1,hc2⟩ := hs.cut1
 have HC12 := Lib.hid (And.intro hc1 hc2)
 obtain ⟨t0,t1,t2,t3⟩ : w.cell? ⟨g,off,none⟩ = some (.int .i64 v.slot) ∧ w.cell? ⟨g,off + 1,none⟩ = some (.int .i64 v.gen) ∧ w.cell? ⟨g,off + 2,none⟩ = some (.int .i64 v.stamp) ∧ w.cell? ⟨g,off + 3,none⟩ = some (.int .i64 v.thread) :=
  ⟨by simpa using hcell 0 (.int .i64 v.slot) (by rw [ht]; rfl),hcell 1 (.int .i64 v.gen) (by rw [ht]; rfl),hcell 2 (.int .i64 v.stamp) (by rw [ht]; rfl),hcell 3 (.int .i64 v.thread) (by rw [ht]; rfl)⟩
 have hgb : g ≠ b := fun e => by
  have h1 := ha.left.ty g (by simp [vblk,Value.ownBlock])
  rw [e,ha.blk.tyOf] at h1
  revert h1
  decide
 have c2 : w.cell? ⟨b,2,none⟩ = some (.slice (some ⟨g,off,none⟩) (n + 1) c) := (Blk.cell ha.blk 2).trans rfl
 have f2 := ha.blk.frozen 2
 have q0 : 0 < n + 1 := by omega
 have q1 : (0 : Int) < ((n + 1 : Nat) : Int) := by omega
 have q2 : (1 : Int) ≤ ((n + 1 : Nat) : Int) := by omega
 have q3 : ((n + 1 : Nat) : Int) ≤ (c : Int) := by omega
 have hd := dm_done ha
 rw [show y.left.isEmpty = false from by rw [ht]; rfl] at hd
 have QD := Lib.hid hd
 have HN := Lib.hid (And.intro hn hnn)
 have HT := Lib.hid ht
 have HH := Lib.hid h
 have HL := Lib.hid hl
 have HG := Lib.hid hG
 have HA := Lib.hid ha
 have HO := Lib.hid hoff
 have hmx : Hid (y.doomed.length + 1 ≤ maxLen) := by unfold Hid maxLen; omega
 have hby : Hid ((y.doomed.length + 1) * 32 ≤ 140737488355328) := by unfold Hid; omega
 have hbl := ha.blk.lt
 have hgl : g < w.heap.size := tyOf_lt (ha.left.ty g (by simp [vblk,Value.ownBlock]))
 have HZ := Lib.hid (And.intro hbl hgl)
 have hb1 : b ≠ w.heap.size := by omega
 have hg1 : g ≠ w.heap.size := by omega
 have hcl := fun (wx : World) (Fx : List Nat) (hx : SP w0 wx z Fx S) => sp_doom hx hf hk v.slot v.gen y.who
 obtain ⟨er,her⟩ : ∃ q,(S.doom v.slot v.gen y.who).1 = q := ⟨_,rfl⟩
 obtain ⟨S',hS'⟩ : ∃ q,(S.doom v.slot v.gen y.who).2 = q := ⟨_,rfl⟩
 simp only [her,hS'] at hcl he ⊢
 have QL := Lib.hid hcl
 have e0 : (er == 0) = true := by simp [he]
 clear hcl her hS' he hcell hs hn hnn ht hd hG hlow hoff h hf hk hl hc1 hc2 hdl
 go_enter Tryz.func35,Tryz.ntmps35
 go_wp2_with fail
 refine QD.out.mono ?_
 rintro e w1 ⟨rfl,rfl⟩
 go_wp2
 case inl =>
  have hsl : SlR w 113 4 (.slice (some ⟨g,off,none⟩) n 0) l.length ((vcCells y.left).drop 4) := by rw [HN.out.2]; (have e := HC12.out.1 ‹c = 1›; rw [‹c = 1›] at e; exact e)
  have hct := HA.out.cut_ (.slice (some ⟨g,off,none⟩) n 0) v l HT.out hsl (fun q hq => by simpa [vblk,Value.ownBlock] using hq)
  obtain ⟨wA,hwA⟩ : ∃ q,w.setCell ⟨b,2,none⟩ (.slice (some ⟨g,off,none⟩) n 0) = q := ⟨_,rfl⟩
  have hsz : wA.heap.size = w.heap.size := by rw [← hwA]; simp [World.setCell]
  rw [hwA] at hct ⊢
  have hka : Keeps [] wA (wA.alloc (.cells #[.int .i64 v.slot,.int .i64 v.gen,.int .i64 v.stamp,.int .i64 v.thread] 113)) := by simp
  have hb2 := hct.1.keeps hka (by simp)
  have hk2 := hct.2.trans hka (by simp)
  have hp2 : Blk (wA.alloc (.cells #[.int .i64 v.slot,.int .i64 v.gen,.int .i64 v.stamp,.int .i64 v.thread] 113)) w.heap.size 113 #[.int .i64 v.slot,.int .i64 v.gen,.int .i64 v.stamp,.int .i64 v.thread] := new_at _ _ _ hsz
  obtain ⟨wB,hwB⟩ : ∃ q,wA.alloc (.cells #[.int .i64 v.slot,.int .i64 v.gen,.int .i64 v.stamp,.int .i64 v.thread] 113) = q := ⟨_,rfl⟩
  obtain ⟨p,hp⟩ : ∃ q,w.heap.size = q := ⟨_,rfl⟩
  rw [hwB] at hb2 hk2 hp2 ⊢
  rw [hp] at hp2 ⊢
  have HB2 := Lib.hid hb2
  have HK2 := Lib.hid hk2
  have HP2 := Lib.hid hp2
  have HPP := Lib.hid hp
  have hs2 : SP w0 wB z F S := HH.out.apt HL.out.apt hk2 (fun q hq => by rw [HG.out]; simp at hq; simp [footD,hq])
  have hl2 : DM w0 wB z F b G ⟨y.who,l,y.doomed⟩ := ⟨⟨_,dv,hb2,by rw [HG.out]; rfl⟩,HL.out.low,HL.out.off⟩
  have hpF : p ∉ F := fun hx => by have := HH.out.lt p hx; omega
  have HPF := Lib.hid hpF
  have HS2 := Lib.hid hs2
  have HL2 := Lib.hid hl2
  have QS := Lib.hid (fun w' (hk : Keeps [] wB w') => slots_held hs2 hk)
  have QC := Lib.hid (fun w' (hk' : Keeps [] wB w') => (QL.out w' F (hs2.calm hk')).mono fun e w'' ⟨he,hw⟩ => And.intro he (hw.pre hk'))
  have HC := Lib.hid (show ∀ w',Keeps [] wB w' → w'.cell? ⟨b,0,none⟩ = some (PT z.p) ∧ w'.cell? ⟨b,1,none⟩ = some (.int .i64 y.who) ∧ w'.cell? ⟨p,0,none⟩ = some (.int .i64 v.slot) ∧ w'.cell? ⟨p,1,none⟩ = some (.int .i64 v.gen) from fun w' hk => ⟨((Blk.keeps hb2.blk hk (by simp)).cell 0).trans rfl,((Blk.keeps hb2.blk hk (by simp)).cell 1).trans rfl,((Blk.keeps hp2 hk (by simp)).cell 0).trans rfl,((Blk.keeps hp2 hk (by simp)).cell 1).trans rfl⟩)
  have hkB : Keeps [] wB wB := Keeps.refl _ _
  clear hct hka hb2 hk2 hp2 hsz hs2 hl2 hwA hwB hsl t0 t1 t2 t3 c2 f2 hb1 hg1 hgb hp hpF hbl hgl
  go_region_held3 (fun w' => w'.cell? ⟨b,0,none⟩ = some (PT z.p) ∧ w'.cell? ⟨b,1,none⟩ = some (.int .i64 y.who) ∧ w'.cell? ⟨p,0,none⟩ = some (.int .i64 v.slot) ∧ w'.cell? ⟨p,1,none⟩ = some (.int .i64 v.gen)) (first | with_reducible exact HC.out _ Sq.kq | exact ⟨d0,d1,d2,d3⟩ | go_keep) ((first
   | (go_at_call 25; refine (QS.out _ Sq.kq).mono ?_; rintro e wc ⟨rfl,hkc⟩)
   | (go_at_call 88; refine (QC.out _ Sq.kq).mono ?_; rintro e wd ⟨rfl,hW⟩; obtain ⟨F',hs1,hk1,hn1⟩ := id hW; have hbd := HB2.out.keeps hk1 (fun q hq => HO.out q (by rw [HG.out]; exact hq)); have hpd := HP2.out.keeps hk1 HPF.out; have d0 : wd.cell? ⟨b,0,none⟩ = some (PT z.p) := (hbd.blk.cell 0).trans rfl; have d1 : wd.cell? ⟨b,1,none⟩ = some (.int .i64 y.who) := (hbd.blk.cell 1).trans rfl; have d2 : wd.cell? ⟨p,0,none⟩ = some (.int .i64 v.slot) := (hpd.cell 0).trans rfl; have d3 : wd.cell? ⟨p,1,none⟩ = some (.int .i64 v.gen) := (hpd.cell 1).trans rfl; have HBD := Lib.hid hbd; have HPD := Lib.hid hpd; have HWT := Lib.hid hW; clear hbd hpd hs1 hk1 hn1 hW)))
  all_goals
   go_wp2_with fail
   clear d0 d1 d2 d3
   have HBK := Lib.hid HBD.out.blk
   have hbl := HBK.out.lt
   have hpl := HPD.out.lt
   obtain ⟨j0,hj,hy0,hy1,hy2⟩ := info_parts Tryz.infoVc
   refine wp_region_noPanic ?_
   refine wp_region_L 10 (fun w' => w'.cell? ⟨b,3,none⟩ = some dv ∧ w'.cell? ⟨p,0,none⟩ = some (.int .i64 v.slot) ∧ w'.cell? ⟨p,1,none⟩ = some (.int .i64 v.gen) ∧ w'.cell? ⟨p,2,none⟩ = some (.int .i64 v.stamp) ∧ w'.cell? ⟨p,3,none⟩ = some (.int .i64 v.thread)) (by kernel_rfl) ?_
   have hHeld := (show _ ∧ _ ∧ _ ∧ _ ∧ _ from ⟨(HBK.out.drew.cell 3).trans rfl,(HPD.out.drew.cell 0).trans rfl,(HPD.out.drew.cell 1).trans rfl,(HPD.out.drew.cell 2).trans rfl,(HPD.out.drew.cell 3).trans rfl⟩)
   refine Sq.k (i := 0) (v := ?rvinl0) rfl ?ryinl0 hHeld ?rrinl0
   case ryinl0 => (intro w' hSw; obtain ⟨x0,x1,x2,x3,x4⟩ := hSw; go_simp; first | done | with_reducible rfl)
   try simp only [Act.put,Sq.t,Sq.z,Sq.s]
   refine Sq.k (i := 1) (v := ?rvinl1) rfl ?ryinl1 hHeld ?rrinl1
   case ryinl1 => (intro w' hSw; obtain ⟨x0,x1,x2,x3,x4⟩ := hSw; go_simp; first | done | with_reducible rfl)
   try simp only [Act.put,Sq.t,Sq.z,Sq.s]
   refine Sq.k (i := 2) (v := ?rvinl2) rfl ?ryinl2 hHeld ?rrinl2
   case ryinl2 => (intro w' hSw; obtain ⟨x0,x1,x2,x3,x4⟩ := hSw; go_simp; first | done | with_reducible rfl)
   try simp only [Act.put,Sq.t,Sq.z,Sq.s]
   refine Sq.k (i := 3) (v := ?rvinl3) rfl ?ryinl3 hHeld ?rrinl3
   case ryinl3 => (intro w' hSw; obtain ⟨x0,x1,x2,x3,x4⟩ := hSw; go_simp; first | done | with_reducible rfl)
   try simp only [Act.put,Sq.t,Sq.z,Sq.s]
   refine Sq.k (i := 4) (v := ?rvinl4) rfl ?ryinl4 hHeld ?rrinl4
   case ryinl4 => (intro w' hSw; obtain ⟨x0,x1,x2,x3,x4⟩ := hSw; go_simp; first | done | with_reducible rfl)
   try simp only [Act.put,Sq.t,Sq.z,Sq.s]
   refine Sq.k (i := 5) (v := ?rvinl5) rfl ?ryinl5 hHeld ?rrinl5
   case ryinl5 => (intro w' hSw; obtain ⟨x0,x1,x2,x3,x4⟩ := hSw; go_simp; first | done | with_reducible rfl)
   try simp only [Act.put,Sq.t,Sq.z,Sq.s]
   refine Sq.o (i := 6) rfl fun K hK => ?_
   go_simp
   refine hK.out _ _ (fun _ => ⟨((Blk.alloc HBK.out.drew _).cell 3).trans rfl,((Blk.alloc HPD.out.drew _).cell 0).trans rfl,((Blk.alloc HPD.out.drew _).cell 1).trans rfl,((Blk.alloc HPD.out.drew _).cell 2).trans rfl,((Blk.alloc HPD.out.drew _).cell 3).trans rfl⟩) ?_
   clear hK K
   try simp only [Act.put,Sq.t,Sq.z,Sq.s]
   refine Sq.o (i := 7) rfl fun K hK => ?_
   refine step_append_lies _ rfl (.tmp 39) (.tmp 41) 48 rfl 0 113 j0 _ 4 32 Tryz.underlying48 hj hy0 hy1 hy2 rfl (by decide) dv y.doomed.length (vcCells y.doomed) rfl (own_keeps HBD.out.doomed ((Keeps.refl [] wd).drew.alloc _) (by simp)) ⟨wd.heap.size,0,none⟩ 1 1 v.cells rfl rfl (by exact World.news_of_block (new_at _ _ _ (by simp))) (by simp [Vc.cells,Value.oneCell']) (by decide) hmx.out hby.out (Nat.zero_le _) _ rfl ?_
   intro g3 c3 w6 hown3 hgrow3 hat3 hlt3
   have hb6 := ((HBK.out.drew).alloc _).grown hgrow3 (fun e => own_blk_ne HBD.out.doomed HBK.out (by decide) e.symm)
   have d3 : w6.cell? ⟨b,3,none⟩ = some dv := (hb6.cell 3).trans rfl
   have f3 := hb6.frozen 3
   have H6 := Lib.hid (HBD.out.told v ((Keeps.refl [] wd).drew.alloc _) hown3 hgrow3 (hat3.imp id (fun h => by rw [h]; simp)))
   have hp6 := ((HPD.out.drew).alloc _).grown hgrow3 (fun e => by have h1 := own_lt HA.out.doomed e.symm; have h2 := HPP.out; omega)
   have hHeld2 : _ ∧ _ ∧ _ ∧ _ ∧ _ := ⟨(hb6.cell 3).trans rfl,(hp6.cell 0).trans rfl,(hp6.cell 1).trans rfl,(hp6.cell 2).trans rfl,(hp6.cell 3).trans rfl⟩
   clear hb6 hp6 hown3 hgrow3 hat3 hbl hpl
   refine hK.out _ _ (fun _ => hHeld2) ?_
   clear hK K
   try simp only [Act.put,Sq.t,Sq.z,Sq.s]
   refine Sq.o (i := 8) rfl fun K hK => ?_
   go_simp
   refine hK.out _ _ (fun _ => hHeld2) ?_
   clear hK K
   try simp only [Act.put,Sq.t,Sq.z,Sq.s]
   refine Sq.o (i := 9) rfl fun K hK => ?_
   go_simp
   refine hK.out _ _ (fun _ => hHeld2) ?_
   clear hK K
   try simp only [Act.put,Sq.t,Sq.z,Sq.s]
   refine Sq.o (i := 10) rfl fun K hK => ?_
   go_simp
   refine hK.out _ _ (fun h => absurd rfl h) ?_
   clear hK K
   try simp only [Act.put,Sq.t,Sq.z,Sq.s]
   refine wpAnyL_done (by kernel_rfl) ?_ _
   refine NoPanic.normal ?_
   go_wp2_with fail
   go_ret
   refine ⟨rfl,WentD.pre HK2.out (fun q hq => .inl (by rw [HG.out]; simp at hq; simp [footD,hq])) (WentD.of HS2.out HL2.out HWT.out H6.out.2.1 (fun q hq => .inl ?_) H6.out.1 (fun q hq => ?_))⟩
   · rw [HG.out]
     simp only [List.mem_cons] at hq
     simp only [footD,List.mem_cons,List.mem_append]
     rcases hq with hq | hq
     · exact .inl hq
     · exact .inr (.inr hq)
   ·
    rw [HG.out]
    simp only [footD,List.mem_cons,List.mem_append] at hq ⊢
    rcases hq with hq | hq | hq
    · exact .inl (.inl hq)
    · exact .inl (.inr (.inl hq))
    · simp [vblk,Value.ownBlock] at hq
      subst hq
      rcases H6.out.2.2 with h | h
      · exact .inl (.inr (.inr h))
      · exact .inr h
 case inr =>
  have hsl : SlR w 113 4 (.slice (some ⟨g,off + 4,none⟩) n (c - 1)) l.length ((vcCells y.left).drop 4) := by rw [HN.out.2]; exact HC12.out.2 ‹¬c = 1›
  have hct := HA.out.cut_ (.slice (some ⟨g,off + 4,none⟩) n (c - 1)) v l HT.out hsl (fun q hq => by simpa [vblk,Value.ownBlock] using hq)
  obtain ⟨wA,hwA⟩ : ∃ q,w.setCell ⟨b,2,none⟩ (.slice (some ⟨g,off + 4,none⟩) n (c - 1)) = q := ⟨_,rfl⟩
  have hsz : wA.heap.size = w.heap.size := by rw [← hwA]; simp [World.setCell]
  rw [hwA] at hct ⊢
  have hka : Keeps [] wA (wA.alloc (.cells #[.int .i64 v.slot,.int .i64 v.gen,.int .i64 v.stamp,.int .i64 v.thread] 113)) := by simp
  have hb2 := hct.1.keeps hka (by simp)
  have hk2 := hct.2.trans hka (by simp)
  have hp2 : Blk (wA.alloc (.cells #[.int .i64 v.slot,.int .i64 v.gen,.int .i64 v.stamp,.int .i64 v.thread] 113)) w.heap.size 113 #[.int .i64 v.slot,.int .i64 v.gen,.int .i64 v.stamp,.int .i64 v.thread] := new_at _ _ _ hsz
  obtain ⟨wB,hwB⟩ : ∃ q,wA.alloc (.cells #[.int .i64 v.slot,.int .i64 v.gen,.int .i64 v.stamp,.int .i64 v.thread] 113) = q := ⟨_,rfl⟩
  obtain ⟨p,hp⟩ : ∃ q,w.heap.size = q := ⟨_,rfl⟩
  rw [hwB] at hb2 hk2 hp2 ⊢
  rw [hp] at hp2 ⊢
  have HB2 := Lib.hid hb2
  have HK2 := Lib.hid hk2
  have HP2 := Lib.hid hp2
  have HPP := Lib.hid hp
  have hs2 : SP w0 wB z F S := HH.out.apt HL.out.apt hk2 (fun q hq => by rw [HG.out]; simp at hq; simp [footD,hq])
  have hl2 : DM w0 wB z F b G ⟨y.who,l,y.doomed⟩ := ⟨⟨_,dv,hb2,by rw [HG.out]; rfl⟩,HL.out.low,HL.out.off⟩
  have hpF : p ∉ F := fun hx => by have := HH.out.lt p hx; omega
  have HPF := Lib.hid hpF
  have HS2 := Lib.hid hs2
  have HL2 := Lib.hid hl2
  have QS := Lib.hid (fun w' (hk : Keeps [] wB w') => slots_held hs2 hk)
  have QC := Lib.hid (fun w' (hk' : Keeps [] wB w') => (QL.out w' F (hs2.calm hk')).mono fun e w'' ⟨he,hw⟩ => And.intro he (hw.pre hk'))
  have HC := Lib.hid (show ∀ w',Keeps [] wB w' → w'.cell? ⟨b,0,none⟩ = some (PT z.p) ∧ w'.cell? ⟨b,1,none⟩ = some (.int .i64 y.who) ∧ w'.cell? ⟨p,0,none⟩ = some (.int .i64 v.slot) ∧ w'.cell? ⟨p,1,none⟩ = some (.int .i64 v.gen) from fun w' hk => ⟨((Blk.keeps hb2.blk hk (by simp)).cell 0).trans rfl,((Blk.keeps hb2.blk hk (by simp)).cell 1).trans rfl,((Blk.keeps hp2 hk (by simp)).cell 0).trans rfl,((Blk.keeps hp2 hk (by simp)).cell 1).trans rfl⟩)
  have hkB : Keeps [] wB wB := Keeps.refl _ _
  clear hct hka hb2 hk2 hp2 hsz hs2 hl2 hwA hwB hsl t0 t1 t2 t3 c2 f2 hb1 hg1 hgb hp hpF hbl hgl
  go_region_held3 (fun w' => w'.cell? ⟨b,0,none⟩ = some (PT z.p) ∧ w'.cell? ⟨b,1,none⟩ = some (.int .i64 y.who) ∧ w'.cell? ⟨p,0,none⟩ = some (.int .i64 v.slot) ∧ w'.cell? ⟨p,1,none⟩ = some (.int .i64 v.gen)) (first | with_reducible exact HC.out _ Sq.kq | exact ⟨d0,d1,d2,d3⟩ | go_keep) ((first
   | (go_at_call 25; refine (QS.out _ Sq.kq).mono ?_; rintro e wc ⟨rfl,hkc⟩)
   | (go_at_call 88; refine (QC.out _ Sq.kq).mono ?_; rintro e wd ⟨rfl,hW⟩; obtain ⟨F',hs1,hk1,hn1⟩ := id hW; have hbd := HB2.out.keeps hk1 (fun q hq => HO.out q (by rw [HG.out]; exact hq)); have hpd := HP2.out.keeps hk1 HPF.out; have d0 : wd.cell? ⟨b,0,none⟩ = some (PT z.p) := (hbd.blk.cell 0).trans rfl; have d1 : wd.cell? ⟨b,1,none⟩ = some (.int .i64 y.who) := (hbd.blk.cell 1).trans rfl; have d2 : wd.cell? ⟨p,0,none⟩ = some (.int .i64 v.slot) := (hpd.cell 0).trans rfl; have d3 : wd.cell? ⟨p,1,none⟩ = some (.int .i64 v.gen) := (hpd.cell 1).trans rfl; have HBD := Lib.hid hbd; have HPD := Lib.hid hpd; have HWT := Lib.hid hW; clear hbd hpd hs1 hk1 hn1 hW)))
  all_goals
   go_wp2_with fail
   clear d0 d1 d2 d3
   have HBK := Lib.hid HBD.out.blk
   have hbl := HBK.out.lt
   have hpl := HPD.out.lt
   obtain ⟨j0,hj,hy0,hy1,hy2⟩ := info_parts Tryz.infoVc
   refine wp_region_noPanic ?_
   refine wp_region_L 10 (fun w' => w'.cell? ⟨b,3,none⟩ = some dv ∧ w'.cell? ⟨p,0,none⟩ = some (.int .i64 v.slot) ∧ w'.cell? ⟨p,1,none⟩ = some (.int .i64 v.gen) ∧ w'.cell? ⟨p,2,none⟩ = some (.int .i64 v.stamp) ∧ w'.cell? ⟨p,3,none⟩ = some (.int .i64 v.thread)) (by kernel_rfl) ?_
   have hHeld := (show _ ∧ _ ∧ _ ∧ _ ∧ _ from ⟨(HBK.out.drew.cell 3).trans rfl,(HPD.out.drew.cell 0).trans rfl,(HPD.out.drew.cell 1).trans rfl,(HPD.out.drew.cell 2).trans rfl,(HPD.out.drew.cell 3).trans rfl⟩)
   refine Sq.k (i := 0) (v := ?rvinr0) rfl ?ryinr0 hHeld ?rrinr0
   case ryinr0 => (intro w' hSw; obtain ⟨x0,x1,x2,x3,x4⟩ := hSw; go_simp; first | done | with_reducible rfl)
   try simp only [Act.put,Sq.t,Sq.z,Sq.s]
   refine Sq.k (i := 1) (v := ?rvinr1) rfl ?ryinr1 hHeld ?rrinr1
   case ryinr1 => (intro w' hSw; obtain ⟨x0,x1,x2,x3,x4⟩ := hSw; go_simp; first | done | with_reducible rfl)
   try simp only [Act.put,Sq.t,Sq.z,Sq.s]
   refine Sq.k (i := 2) (v := ?rvinr2) rfl ?ryinr2 hHeld ?rrinr2
   case ryinr2 => (intro w' hSw; obtain ⟨x0,x1,x2,x3,x4⟩ := hSw; go_simp; first | done | with_reducible rfl)
   try simp only [Act.put,Sq.t,Sq.z,Sq.s]
   refine Sq.k (i := 3) (v := ?rvinr3) rfl ?ryinr3 hHeld ?rrinr3
   case ryinr3 => (intro w' hSw; obtain ⟨x0,x1,x2,x3,x4⟩ := hSw; go_simp; first | done | with_reducible rfl)
   try simp only [Act.put,Sq.t,Sq.z,Sq.s]
   refine Sq.k (i := 4) (v := ?rvinr4) rfl ?ryinr4 hHeld ?rrinr4
   case ryinr4 => (intro w' hSw; obtain ⟨x0,x1,x2,x3,x4⟩ := hSw; go_simp; first | done | with_reducible rfl)
   try simp only [Act.put,Sq.t,Sq.z,Sq.s]
   refine Sq.k (i := 5) (v := ?rvinr5) rfl ?ryinr5 hHeld ?rrinr5
   case ryinr5 => (intro w' hSw; obtain ⟨x0,x1,x2,x3,x4⟩ := hSw; go_simp; first | done | with_reducible rfl)
   try simp only [Act.put,Sq.t,Sq.z,Sq.s]
   refine Sq.o (i := 6) rfl fun K hK => ?_
   go_simp
   refine hK.out _ _ (fun _ => ⟨((Blk.alloc HBK.out.drew _).cell 3).trans rfl,((Blk.alloc HPD.out.drew _).cell 0).trans rfl,((Blk.alloc HPD.out.drew _).cell 1).trans rfl,((Blk.alloc HPD.out.drew _).cell 2).trans rfl,((Blk.alloc HPD.out.drew _).cell 3).trans rfl⟩) ?_
   clear hK K
   try simp only [Act.put,Sq.t,Sq.z,Sq.s]
   refine Sq.o (i := 7) rfl fun K hK => ?_
   refine step_append_lies _ rfl (.tmp 39) (.tmp 41) 48 rfl 0 113 j0 _ 4 32 Tryz.underlying48 hj hy0 hy1 hy2 rfl (by decide) dv y.doomed.length (vcCells y.doomed) rfl (own_keeps HBD.out.doomed ((Keeps.refl [] wd).drew.alloc _) (by simp)) ⟨wd.heap.size,0,none⟩ 1 1 v.cells rfl rfl (by exact World.news_of_block (new_at _ _ _ (by simp))) (by simp [Vc.cells,Value.oneCell']) (by decide) hmx.out hby.out (Nat.zero_le _) _ rfl ?_
   intro g3 c3 w6 hown3 hgrow3 hat3 hlt3
   have hb6 := ((HBK.out.drew).alloc _).grown hgrow3 (fun e => own_blk_ne HBD.out.doomed HBK.out (by decide) e.symm)
   have d3 : w6.cell? ⟨b,3,none⟩ = some dv := (hb6.cell 3).trans rfl
   have f3 := hb6.frozen 3
   have H6 := Lib.hid (HBD.out.told v ((Keeps.refl [] wd).drew.alloc _) hown3 hgrow3 (hat3.imp id (fun h => by rw [h]; simp)))
   have hp6 := ((HPD.out.drew).alloc _).grown hgrow3 (fun e => by have h1 := own_lt HA.out.doomed e.symm; have h2 := HPP.out; omega)
   have hHeld2 : _ ∧ _ ∧ _ ∧ _ ∧ _ := ⟨(hb6.cell 3).trans rfl,(hp6.cell 0).trans rfl,(hp6.cell 1).trans rfl,(hp6.cell 2).trans rfl,(hp6.cell 3).trans rfl⟩
   clear hb6 hp6 hown3 hgrow3 hat3 hbl hpl
   refine hK.out _ _ (fun _ => hHeld2) ?_
   clear hK K
   try simp only [Act.put,Sq.t,Sq.z,Sq.s]
   refine Sq.o (i := 8) rfl fun K hK => ?_
   go_simp
   refine hK.out _ _ (fun _ => hHeld2) ?_
   clear hK K
   try simp only [Act.put,Sq.t,Sq.z,Sq.s]
   refine Sq.o (i := 9) rfl fun K hK => ?_
   go_simp
   refine hK.out _ _ (fun _ => hHeld2) ?_
   clear hK K
   try simp only [Act.put,Sq.t,Sq.z,Sq.s]
   refine Sq.o (i := 10) rfl fun K hK => ?_
   go_simp
   refine hK.out _ _ (fun h => absurd rfl h) ?_
   clear hK K
   try simp only [Act.put,Sq.t,Sq.z,Sq.s]
   refine wpAnyL_done (by kernel_rfl) ?_ _
   refine NoPanic.normal ?_
   go_wp2_with fail
   go_ret
   refine ⟨rfl,WentD.pre HK2.out (fun q hq => .inl (by rw [HG.out]; simp at hq; simp [footD,hq])) (WentD.of HS2.out HL2.out HWT.out H6.out.2.1 (fun q hq => .inl ?_) H6.out.1 (fun q hq => ?_))⟩
   · rw [HG.out]
     simp only [List.mem_cons] at hq
     simp only [footD,List.mem_cons,List.mem_append]
     rcases hq with hq | hq
     · exact .inl hq
     · exact .inr (.inr hq)
   ·
    rw [HG.out]
    simp only [footD,List.mem_cons,List.mem_append] at hq ⊢
    rcases hq with hq | hq | hq
    · exact .inl (.inl hq)
    · exact .inl (.inr (.inl hq))
    · simp [vblk,Value.ownBlock] at hq
      subst hq
      rcases H6.out.2.2 with h | h
      · exact .inl (.inr (.inr h))
      · exact .inr h
theorem dm_step (h : SP w0 w z F S) (hf : Fit k S) (hk : k ≤ 1099511627776) (hl : DM w0 w z F b G y) (hdl : y.doomed.length ≤ 1099511627776) :
 Calls Tryz.prog 35 #[PT b] w fun e w' => e = .returned (.int .i64 (y.step S).1) ∧ WentD w0 w w' z F G b (y.step S).2.2 (y.step S).2.1 := by
 unfold Dm.step
 split
 · rename_i ht
   exact dm_step_end h hl ht
 · rename_i v l ht
   by_cases he : (S.doom v.slot v.gen y.who).1 = 0
   · simp only [if_pos he]
     exact dm_step_y h hf hk hl v l ht hdl he
   · simp only [if_neg he]
     exact dm_step_n h hf hk hl v l ht hdl he
end
open Go.RowKit
attribute [local go_sem ↓] Go.wp_at_zero Go.wp_at_succ
theorem vc_at (vs : List Vc) (j : Nat) (v : Vc) (h : vs[j]? = some v) : (vcCells vs)[j * 4]? = some (.int .i64 v.slot) ∧ (vcCells vs)[j * 4 + 1]? = some (.int .i64 v.gen) ∧ (vcCells vs)[j * 4 + 2]? = some (.int .i64 v.stamp) ∧ (vcCells vs)[j * 4 + 3]? = some (.int .i64 v.thread) := by
 induction vs generalizing j with
 | nil => simp at h
 | cons a l ih =>
   have e : vcCells (a :: l) = .int .i64 a.slot :: .int .i64 a.gen :: .int .i64 a.stamp :: .int .i64 a.thread :: vcCells l := rfl
   rw [e]
   cases j with
   | zero => simp at h; subst h; exact ⟨rfl,rfl,rfl,rfl⟩
   | succ j =>
     simp at h
     have h2 := ih j h
     have e1 : (j + 1) * 4 = j * 4 + 4 := by omega
     rw [e1]
     exact h2
theorem own_form {w : World} {base n size : Nat} {e : TypeId} {v : Value} {xs : List Value} (h : w.ownsRow base e size v n xs) : ∃ A c,v = .slice A n c := by
 rcases h.2 with ⟨rfl,rfl⟩ | ⟨g,cap,cur,rfl,_⟩
 · exact ⟨_,_,rfl⟩
 · exact ⟨_,_,rfl⟩
section
variable {w0 w w' w'' : World} {z : Sb} {F G : List Nat} {S S' : Sp} {k j b : Nat} {x x' : Lk} {y : Dm} {X : List Nat} {tv wv vv lv dv : Value}
set_option maxRecDepth 100000 in
set_option maxHeartbeats 4000000 in
theorem dm_new (h : SP w0 w z F S) (hf : Fit k S) (vs : List Vc) (hvs : w.ownsRow 0 113 4 vv vs.length (vcCells vs)) (who : Int) (h1 : 1 ≤ who) (h8 : who ≤ 8) (hr : ∀ v,v ∈ vs → 0 ≤ v.slot ∧ v.slot < S.H.length) (hl : vs.length ≤ 1099511627776) :
 Calls Tryz.prog 34 #[PT z.p,.int .i64 who,vv] w fun e w' => ∃ b G,e = .returned (.tuple #[PT b,.int .i64 0]) ∧ DM w0 w' z F b G (Dm.new who vs) ∧ (∀ q,q ∈ G → w.heap.size ≤ q) ∧ Keeps [] w w' := by
 obtain ⟨A,c,rfl,hcap,hcm⟩ : ∃ A c,vv = .slice A vs.length c ∧ vs.length ≤ c ∧ c ≤ maxLen := by
  obtain ⟨_,A,c,e,h1,h2,_⟩ := SlR.of_own hvs
  exact ⟨A,c,e,h1,h2⟩
 have hmx : Hid (0 + vs.length ≤ maxLen) := by unfold Hid maxLen; omega
 have hby : Hid ((0 + vs.length) * 32 ≤ 140737488355328) := by unfold Hid; omega
 have HV := Lib.hid hvs
 have HR := Lib.hid hr
 have HH := Lib.hid h
 have HP := Lib.hid hvs
 obtain ⟨n,hn⟩ : ∃ n,vs.length = n := ⟨_,rfl⟩
 have HN := Lib.hid hn
 obtain ⟨m,hm⟩ : ∃ m,S.H.length = m := ⟨_,rfl⟩
 have HM := Lib.hid hm
 rw [hn] at hcap ⊢
 have HNB : Hid (n ≤ 1099511627776) := by unfold Hid; omega
 have b1 : decide (who < 1) = false := by simp; omega
 have b2 : decide (who > 8) = false := by simp; omega
 clear hvs hr h hl hn hm hf
 go_enter Tryz.func34,Tryz.ntmps34
 go_wp2_with fail
 go_loopw [18] (fun i wr => ∃ j : Nat,j ≤ n ∧ i = .int .i64 j ∧ Keeps [] w wr) (fun i _ => n - (intOf i).toNat)
 case atStart => exact ⟨0,Nat.zero_le _,rfl,Keeps.refl _ _⟩
 case round =>
  obtain ⟨j,hj,rfl,hk⟩ := hrel
  have HK := Lib.hid hk
  clear hk
  by_cases hlt : (j : Int) < (n : Int)
  ·
   have q0 : (0 : Int) ≤ (j : Int) := by omega
   obtain ⟨v,hv⟩ : ∃ v,vs[j]? = some v := ⟨_,List.getElem?_eq_getElem (by have := HN.out; omega)⟩
   have hvr := HR.out v (List.mem_of_getElem? hv)
   have hvsl := SlR.of_own HV.out
   rw [HN.out] at hvsl
   obtain ⟨g,off,c',he,_,_,hcell⟩ := hvsl.spot_pos (by omega)
   injection he with he1 _ he3
   subst he1 he3
   have hgl : g < w.heap.size := tyOf_lt (hvsl.ty g (by simp [vblk,Value.ownBlock]))
   obtain ⟨v0,v1,v2,v3⟩ := vc_at vs j v hv
   have hkc : ∀ i u,(vcCells vs)[i]? = some u → wr.cell? ⟨g,off + i,none⟩ = some u := fun i u hu => (keeps_cell HK.out (p := ⟨g,off + i,none⟩) hgl (by simp)).trans (hcell i u hu)
   obtain ⟨t0,t1,t2,t3⟩ : wr.cell? ⟨g,off + j * 4,none⟩ = some (.int .i64 v.slot) ∧ wr.cell? ⟨g,off + j * 4 + 1,none⟩ = some (.int .i64 v.gen) ∧ wr.cell? ⟨g,off + j * 4 + 2,none⟩ = some (.int .i64 v.stamp) ∧ wr.cell? ⟨g,off + j * 4 + 3,none⟩ = some (.int .i64 v.thread) := ⟨hkc _ _ v0,hkc _ _ v1,hkc _ _ v2,hkc _ _ v3⟩
   have k0 : decide (v.slot < 0) = false := by simp; omega
   have k1 : decide (v.slot ≥ (m : Int)) = false := by have := HM.out; simp; omega
   have hk2 : Keeps [] w (wr.alloc (.cells #[.int .i64 v.slot,.int .i64 v.gen,.int .i64 v.stamp,.int .i64 v.thread] 113)) := HK.out.alloc _
   have hp2 : Blk (wr.alloc (.cells #[.int .i64 v.slot,.int .i64 v.gen,.int .i64 v.stamp,.int .i64 v.thread] 113)) wr.heap.size 113 #[.int .i64 v.slot,.int .i64 v.gen,.int .i64 v.stamp,.int .i64 v.thread] := Blk.new _ _ _
   have hs2 := HH.out.calm hk2
   have QS := Lib.hid (fun w' (hk : Keeps [] (wr.alloc (.cells #[.int .i64 v.slot,.int .i64 v.gen,.int .i64 v.stamp,.int .i64 v.thread] 113)) w') => slots_held hs2 hk)
   have QL := Lib.hid (fun w' (hk : Keeps [] (wr.alloc (.cells #[.int .i64 v.slot,.int .i64 v.gen,.int .i64 v.stamp,.int .i64 v.thread] 113)) w') => len_heldS hs2 hk)
   rw [HM.out] at QL
   have HP2 := Lib.hid hp2
   have HK2 := Lib.hid hk2
   have KK := Lib.hid hkc
   have hkB : Keeps [] (wr.alloc (.cells #[.int .i64 v.slot,.int .i64 v.gen,.int .i64 v.stamp,.int .i64 v.thread] 113)) (wr.alloc (.cells #[.int .i64 v.slot,.int .i64 v.gen,.int .i64 v.stamp,.int .i64 v.thread] 113)) := Keeps.refl _ _
   clear hv hvr hvsl hcell v0 v1 v2 v3 hkc hk2 hp2 hs2 hgl
   go_wp2_with fail
   clear t0 t1 t2 t3
   obtain ⟨wB,hwB⟩ : ∃ q,wr.alloc (.cells #[.int .i64 v.slot,.int .i64 v.gen,.int .i64 v.stamp,.int .i64 v.thread] 113) = q := ⟨_,rfl⟩
   obtain ⟨p,hp⟩ : ∃ q,wr.heap.size = q := ⟨_,rfl⟩
   rw [hwB] at QS QL HP2 HK2 hkB ⊢
   rw [hp] at HP2 ⊢
   have HC := Lib.hid (show ∀ w',Keeps [] wB w' → w'.cell? ⟨p,0,none⟩ = some (.int .i64 v.slot) from fun w' hk => ((Blk.keeps HP2.out hk (by simp)).cell 0).trans rfl)
   clear hwB hp
   go_region_held3 (fun w' => w'.cell? ⟨p,0,none⟩ = some (.int .i64 v.slot)) (first | with_reducible exact HC.out _ Sq.kq | go_keep) ((first
    | (go_at_call 25; refine (QS.out _ Sq.kq).mono ?_; rintro e wc ⟨rfl,hkc⟩)
    | (go_at_call 106; refine (QL.out _ Sq.kq).mono ?_; rintro e wd ⟨rfl,hkd⟩)))
   have hw : IntKind.i64.wrap ((j : Int) + 1) = (j : Int) + 1 := by have := HNB.out; rw [IntKind.wrap_i64]; omega
   all_goals
    go_wp2_with fail
    exact ⟨⟨j + 1,by omega,by simp,HK2.out.trans hkd (by simp)⟩,by simp [intOf]; omega⟩
  ·
   obtain rfl : j = n := by omega
   have HV2 := Lib.hid (own_keeps HV.out HK.out (by simp))
   rw [HN.out] at HV2
   rw [HN.out] at hmx hby
   obtain ⟨i0,hi,hz0,hz1,hz2⟩ := info_parts Tryz.infoVc
   clear hlt
   go_wp2_with (at_builtin; refine wpList_append_row rfl (.tmp 36) (.tmp 37) 48 rfl 113 i0 _ 4 32 Tryz.underlying48 hi hz0 hz1 hz2 rfl (by decide) (.slice (some ⟨wr.heap.size,0,none⟩) 0 0) 0 [] rfl (World.ownsRow_made _ _ _ (Nat.zero_le _) (by decide) rfl) _ j (vcCells vs) rfl (own_keeps HV2.out ((Keeps.refl [] _).alloc _) (by simp)) (vc_one _) hmx.out hby.out ?_; intro v1 w1 hown1 hg1 hat1; obtain ⟨A1,c1,rfl⟩ := own_form hown1)
   go_ret2
   have hz := HK.out.size
   have hz1 := hg1.size
   have hfr : ∀ q,q ∈ footD w1.heap.size (.slice A1 (0 + j) c1) (.slice none 0 0) → w.heap.size ≤ q := fun q hq => by
    simp only [World.size_alloc] at hz1
    simp only [footD,vblk,List.mem_cons,List.mem_append,Option.mem_toList] at hq
    rcases hq with hq | hq | hq
    · omega
    · rcases hat1 with e | e
      · rw [e] at hq; simp [Value.ownBlock] at hq; omega
      · rw [e] at hq; simp at hq; omega
    · simp [Value.ownBlock] at hq
   have hsl := SlR.of_own (own_keeps hown1 (S := []) ((Keeps.refl [] w1).alloc (.cells #[PT z.p,.int .i64 who,.slice A1 (0 + j) c1,.slice none 0 0] 193)) (by simp))
   have hk1 : Keeps [] w w1 := (HK.out.alloc _).grown hg1 (fun q hq => .inr (by simp [Value.ownBlock] at hq; omega))
   rw [Nat.zero_add] at hsl hfr
   refine ⟨w1.heap.size,footD w1.heap.size (.slice A1 j c1) (.slice none 0 0),rfl,⟨⟨_,_,⟨Blk.new _ _ _,?_,World.ownsRow_nil _ _ _ _,fun q _ hx => by simp [vblk,Value.ownBlock] at hx⟩,rfl⟩,fun q hq => ?_,fun q hq => ?_⟩,hfr,hk1.alloc _⟩
   · show SlR _ _ _ _ vs.length _
     rw [HN.out]
     simpa [Dm.new] using hsl
   · exact Nat.le_trans HH.out.keep.size (hfr q hq)
   · exact HH.out.fresh (hfr q hq)
end
end Go.Proofs.YtmlnedilbneekaaGreat