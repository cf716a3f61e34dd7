/- Layer 12: a step of a look that loads its last word. -/
import Derived.Test.YtmlnedilbneekaaGreatLookM
import Derived.Deep.AppendLies
import Derived.Deep.RegionLaw
import Derived.Test.YtmlnedilbneekaaGreatMake
set_option linter.unusedVariables false
set_option linter.unusedSimpArgs false
namespace Go.Proofs.YtmlnedilbneekaaGreat
open Go.RowKit
attribute [local go_sem ↓] Go.wp_at_zero Go.wp_at_succ
section
variable {w0 w w' w'' : World} {z : Sb} {F G : List Nat} {S S' : Sp} {k b : Nat} {x x' : Lk} {y : Dm} {tv wv vv lv dv : Value}
theorem LkAt.headed (h : LkAt w z b tv wv vv x) (hd : Hd) (w' : World) (e : w' = ((((((w.setCell ⟨b,5,none⟩ (.int .i64 hd.gen)).setCell ⟨b,6,none⟩ (.int .i64 hd.state)).setCell ⟨b,7,none⟩ (.int .i64 hd.stamp)).setCell ⟨b,8,none⟩ (.int .i64 hd.thread)).setCell ⟨b,9,none⟩ (.bool hd.doomed)).setCell ⟨b,10,none⟩ (.int .i64 hd.who)).setCell ⟨b,12,none⟩ (.bool true)) :
 LkAt w' z b tv wv vv (x.at_ hd) ∧ Keeps [b] w w' := by
 subst e
 have hk : Keeps [b] w (((((((w.setCell ⟨b,5,none⟩ (.int .i64 hd.gen)).setCell ⟨b,6,none⟩ (.int .i64 hd.state)).setCell ⟨b,7,none⟩ (.int .i64 hd.stamp)).setCell ⟨b,8,none⟩ (.int .i64 hd.thread)).setCell ⟨b,9,none⟩ (.bool hd.doomed)).setCell ⟨b,10,none⟩ (.int .i64 hd.who)).setCell ⟨b,12,none⟩ (.bool true)) :=
  (((((((Keeps.refl [b] w).setCell (.inl (by simp)) _).setCell (.inl (by simp)) _).setCell (.inl (by simp)) _).setCell (.inl (by simp)) _).setCell (.inl (by simp)) _).setCell (.inl (by simp)) _).setCell (.inl (by simp)) _
 refine ⟨⟨?_,h.turns.keeps hk ?_,own_keeps h.words hk ?_,own_keeps h.vs hk ?_⟩,hk⟩
 · have := ((((((h.blk.set_ 5 (.int .i64 hd.gen)).set_ 6 (.int .i64 hd.state)).set_ 7 (.int .i64 hd.stamp)).set_ 8 (.int .i64 hd.thread)).set_ 9 (.bool hd.doomed)).set_ 10 (.int .i64 hd.who)).set_ 12 (.bool true)
   simpa [Lk.at_] using this
 ·
  intro q hq hx
  simp at hx
  subst hx
  have h1 := h.turns.ty q hq
  rw [h.blk.tyOf] at h1
  revert h1
  decide
 · intro q hq hx
   simp at hx
   subst hx
   exact own_blk_ne h.words h.blk (by decide) hq
 · intro q hq hx
   simp at hx
   subst hx
   exact own_blk_ne h.vs h.blk (by decide) hq
theorem lk_step_end (h : SP w0 w z F S) (hl : LK w0 w z F b G x) (ht : x.turns = []) : Calls Tryz.prog 32 #[PT b] w fun e w' => e = .returned (.int .i64 3) ∧ WentL w0 w w' z F G b S x := by
 obtain ⟨⟨tv,wv,vv,ha,hG⟩,_,_⟩ := id hl
 have hd := lk_done ha
 rw [show x.turns.isEmpty = true from by rw [ht]; rfl] at hd
 have QD := Lib.hid hd
 have HW : Hid (WentL w0 w w z F G b S x) := WentL.still h hl Sq.r
 clear h hl ht ha hG hd
 go_enter Tryz.func32,Tryz.ntmps32
 go_wp2_with fail
 refine QD.out.mono ?_
 rintro e w1 ⟨rfl,rfl⟩
 go_wp2_with fail
 go_ret
 exact ⟨rfl,HW.out⟩
set_option maxRecDepth 100000 in
set_option maxHeartbeats 8000000 in
theorem lk_step_look (h : SP w0 w z F S) (hf : Fit k S) (hk : k ≤ 1099511627776) (hl : LK w0 w z F b G x) (t : Int) (l : List Int) (ht : x.turns = t :: l) (hlo : x.looked = false) :
 Calls Tryz.prog 32 #[PT b] w fun e w' => e = .returned (.int .i64 1) ∧ WentL w0 w w' z F G b (S.look t).2 (if (S.look t).1.1.state ≠ 2 ∨ (S.look t).1.1.doomed = true then (x.at_ (S.look t).1.1).turn else x.at_ (S.look t).1.1) := by
 obtain ⟨⟨tv,wv,vv,ha,hG⟩,hlow,hoff⟩ := id hl
 have hn : x.turns.length = l.length + 1 := by rw [ht]; rfl
 have hs := ha.turns
 rw [hn] at hs
 obtain ⟨g,off,c,rfl,hc,hm,hcell⟩ := hs.spot
 have HTL : Hid (g ∈ footL b (.slice (some ⟨g,off,none⟩) (l.length + 1) c) wv vv) := by unfold Hid; simp [footL,vblk,Value.ownBlock]
 have t0 : w.cell? ⟨g,off,none⟩ = some (.int .i64 t) := by
  have := hcell 0 (.int .i64 t) (by rw [ht]; rfl)
  simpa using this
 have c4 : w.cell? ⟨b,4,none⟩ = some (.slice (some ⟨g,off,none⟩) (l.length + 1) c) := (Blk.cell ha.blk 4).trans rfl
 have c0 : w.cell? ⟨b,0,none⟩ = some (PT z.p) := (Blk.cell ha.blk 0).trans rfl
 have q1 : (0 : Int) < ((l.length + 1 : Nat) : Int) := by omega
 have hd := lk_done ha
 rw [show x.turns.isEmpty = false from by rw [ht]; rfl] at hd
 have QD := Lib.hid hd
 have HN := Lib.hid hn
 have HT := Lib.hid ht
 have HH := Lib.hid h
 have HL := Lib.hid hl
 have HG := Lib.hid hG
 have HA := Lib.hid ha
 have HO := Lib.hid hoff
 have c12 : w.cell? ⟨b,12,none⟩ = some (.bool false) := by rw [← hlo]; exact (Blk.cell ha.blk 12).trans rfl
 have hcl := sp_look h hf hk t
 have QS := Lib.hid (sp_slots h)
 obtain ⟨hv,hhv⟩ : ∃ v,(S.look t).1.1 = v := ⟨_,rfl⟩
 obtain ⟨er,her⟩ : ∃ v,(S.look t).1.2 = v := ⟨_,rfl⟩
 obtain ⟨S',hS'⟩ : ∃ v,(S.look t).2 = v := ⟨_,rfl⟩
 simp only [hhv,her,hS'] at hcl ⊢
 unfold Hd.val at hcl
 have QL := Lib.hid hcl
 obtain ⟨x',hx'⟩ : ∃ x',(if hv.state ≠ 2 ∨ hv.doomed = true then (x.at_ hv).turn else x.at_ hv) = x' := ⟨_,rfl⟩
 rw [hx']
 have HE := Lib.hid hx'
 clear hx'
 clear hcl hhv her hS' hcell hs hn ht hd hG hlow hoff h hf hk hl hlo
 go_enter Tryz.func32,Tryz.ntmps32
 go_wp2_with fail
 refine QD.out.mono ?_
 rintro e w1 ⟨rfl,rfl⟩
 go_wp2_with fail
 refine QS.out.mono ?_
 rintro e w1 ⟨rfl,rfl⟩
 go_wp2_with fail
 refine QL.out.mono ?_
 rintro e w1 ⟨rfl,hw⟩
 obtain ⟨F',hs1,hk1,hn1⟩ := id hw
 have ha1 := HA.out.keeps hk1 (fun q hq => HO.out q (by rw [HG.out]; exact hq))
 have HWT := Lib.hid hw
 have HA1 := Lib.hid ha1
 obtain ⟨c5,c6,c7,c8,c9,c10⟩ : w1.cell? ⟨b,5,none⟩ = some (.int .i64 x.head.gen) ∧ w1.cell? ⟨b,6,none⟩ = some (.int .i64 x.head.state) ∧ w1.cell? ⟨b,7,none⟩ = some (.int .i64 x.head.stamp) ∧ w1.cell? ⟨b,8,none⟩ = some (.int .i64 x.head.thread) ∧ w1.cell? ⟨b,9,none⟩ = some (.bool x.head.doomed) ∧ w1.cell? ⟨b,10,none⟩ = some (.int .i64 x.head.who) :=
  ⟨(ha1.blk.cell 5).trans rfl,(ha1.blk.cell 6).trans rfl,(ha1.blk.cell 7).trans rfl,(ha1.blk.cell 8).trans rfl,(ha1.blk.cell 9).trans rfl,(ha1.blk.cell 10).trans rfl⟩
 have d12 : w1.cell? ⟨b,12,none⟩ = some (.bool x.looked) := (ha1.blk.cell 12).trans rfl
 have f5 := ha1.blk.frozen 5
 have f6 := ha1.blk.frozen 6
 have f7 := ha1.blk.frozen 7
 have f8 := ha1.blk.frozen 8
 have f9 := ha1.blk.frozen 9
 have f10 := ha1.blk.frozen 10
 have f12 := ha1.blk.frozen 12
 have H2 := Lib.hid (HA1.out.headed hv _ rfl)
 have HX : Hid (∀ q,q ∈ [b] → q ∈ G ∨ w1.heap.size ≤ q) := fun q hq => .inl (by rw [HG.out]; simp at hq; simp [footL,hq])
 clear hw hs1 hk1 hn1 ha1 c12 c4 c0 t0 QD QS QL
 have hne : Hid ((x.at_ hv).turns ≠ []) := by unfold Hid; show x.turns ≠ []; rw [HT.out]; simp
 by_cases e1 : hv.state = 2
 ·
  have e2 : (hv.state != 2) = false := by simp [e1]
  cases e3 : hv.doomed
  ·
   have hx : x' = x.at_ hv := by have h3 := HE.out; rw [if_neg (by simp [e1,e3])] at h3; exact h3.symm
   rw [e3] at H2
   have HX3 := Lib.hid hx
   clear hx
   clear e1 e3
   go_wp2_with fail
   go_ret
   exact ⟨rfl,HX3.out ▸ WentL.of HH.out HL.out HWT.out H2.out.2 HX.out H2.out.1 (fun q hq => .inl (by rw [HG.out]; exact hq))⟩
  ·
   have hx : x' = (x.at_ hv).turn := by have h3 := HE.out; rw [if_pos (Or.inr e3)] at h3; exact h3.symm
   rw [e3] at H2
   have HX3 := Lib.hid hx
   clear hx
   clear e1 e3
   go_wp2_with fail
   refine (lk_turn H2.out.1 hne.out).mono ?_
   rintro e w2 ⟨rfl,tv',ha2,hk2,hv2⟩
   have HA2 := Lib.hid ha2
   have HK2 := Lib.hid (H2.out.2.trans hk2 (by simp))
   have HV2 := Lib.hid hv2
   clear ha2 hk2 hv2
   go_wp2_with fail
   go_ret
   exact ⟨rfl,HX3.out ▸ WentL.of HH.out HL.out HWT.out HK2.out HX.out HA2.out (fun q hq => .inl (by rw [HG.out]; simp only [footL,List.mem_cons,List.mem_append] at hq ⊢; rcases hq with hq | hq | hq | hq; exact .inl hq; exact .inr (.inl (HV2.out q hq)); simp [vblk,Value.ownBlock] at hq; exact .inr (.inr (.inr hq))))⟩
 ·
  have e2 : (hv.state != 2) = true := by simp [e1]
  have hx : x' = (x.at_ hv).turn := by have h3 := HE.out; rw [if_pos (Or.inl e1)] at h3; exact h3.symm
  have HX3 := Lib.hid hx
  clear e1 hx
  go_wp2_with fail
  refine (lk_turn H2.out.1 hne.out).mono ?_
  rintro e w2 ⟨rfl,tv',ha2,hk2,hv2⟩
  have HA2 := Lib.hid ha2
  have HK2 := Lib.hid (H2.out.2.trans hk2 (by simp))
  have HV2 := Lib.hid hv2
  clear ha2 hk2 hv2
  go_wp2_with fail
  go_ret
  exact ⟨rfl,HX3.out ▸ WentL.of HH.out HL.out HWT.out HK2.out HX.out HA2.out (fun q hq => .inl (by rw [HG.out]; simp only [footL,List.mem_cons,List.mem_append] at hq ⊢; rcases hq with hq | hq | hq | hq; exact .inl hq; exact .inr (.inl (HV2.out q hq)); simp [vblk,Value.ownBlock] at hq; exact .inr (.inr (.inr hq))))⟩
end
open Go.RowKit
attribute [local go_sem ↓] Go.wp_at_zero Go.wp_at_succ
section
variable {w0 w w' w'' : World} {z : Sb} {F G : List Nat} {S S' : Sp} {k j b : Nat} {x x' : Lk} {y : Dm} {tv wv vv lv dv : Value}
theorem LkAt.worded (h : LkAt w z b tv wv vv x) {w1 : World} {v1 : Value} {n : Nat} {xs : List Value} (v : Int) (o : Obj) (hown : w1.ownsRow 0 45 1 v1 (n + 1) (xs ++ [.int .u64 v])) (hg : (w.alloc o).grownBy w1 wv.ownBlock) (hat : v1.ownBlock = wv.ownBlock ∨ v1.ownBlock = some (w.alloc o).heap.size) (hx : x.words.map (Value.int .u64) = xs) :
 LkAt (w1.setCell ⟨b,11,none⟩ v1) z b tv v1 vv (x.word v) ∧ Keeps (b :: wv.ownBlock.toList) w (w1.setCell ⟨b,11,none⟩ v1) ∧ (∀ q,q ∈ vblk v1 → q ∈ vblk wv ∨ w.heap.size ≤ q) := by
 have hb1 := (h.blk.alloc o).grown hg (fun e => own_blk_ne h.words h.blk (by decide) e.symm)
 have hkg : Keeps wv.ownBlock.toList w w1 := ((Keeps.refl _ w).alloc o).grown hg (fun q hq => .inl (by simp [hq]))
 have hk : Keeps (b :: wv.ownBlock.toList) w (w1.setCell ⟨b,11,none⟩ v1) := (hkg.mono (fun q hq => .inl (by simp [hq]))).setCell (.inl (by simp)) _
 have hn : n + 1 = (x.word v).words.length := by
  have h1 := hown.1
  simp [← hx] at h1
  show _ = (x.words ++ [v]).length
  simp
  omega
 have hwt : ∀ q,wv.ownBlock = some q → tyOf w q = some 45 := fun q hq => own_tyOf h.words hq
 refine ⟨⟨?_,h.turns.keeps hk ?_,?_,own_keeps h.vs hk ?_⟩,hk,fun q hq => ?_⟩
 · have := hb1.set_ 11 v1
   simpa [Lk.word] using this
 ·
  intro q hq hx
  have h1 := h.turns.ty q hq
  simp at hx
  rcases hx with rfl | hx
  · rw [h.blk.tyOf] at h1
    revert h1
    decide
  · rw [hwt q hx] at h1
    revert h1
    decide
 ·
  rw [← hn]
  have := own_keeps hown (S := [b]) ((Keeps.refl [b] w1).setCell (p := ⟨b,11,none⟩) (.inl (by simp)) v1) (fun q hq => by
   simp
   intro e2
   subst e2
   exact own_blk_ne hown hb1 (by decide) hq)
  simpa [Lk.word,hx] using this
 ·
  intro q hq hx
  have h1 := own_tyOf h.vs hq
  simp at hx
  rcases hx with rfl | hx
  · rw [h.blk.tyOf] at h1
    revert h1
    decide
  · rw [hwt q hx] at h1
    revert h1
    decide
 · simp only [vblk,Option.mem_toList] at hq ⊢
   rcases hat with e | e
   · exact .inl (e ▸ hq)
   · rw [e] at hq; injection hq with hq; subst hq; exact .inr (by simp)
set_option maxRecDepth 100000 in
set_option maxHeartbeats 8000000 in
theorem lk_step_word0 (h : SP w0 w z F S) (hf : Fit k S) (hk : k ≤ 1099511627776) (hl : LK w0 w z F b G x) (hu : S.wu) (t : Int) (l : List Int) (ht : x.turns = t :: l) (hlo : x.looked = true) (hw : x.words = []) :
 Calls Tryz.prog 32 #[PT b] w fun e w' => e = .returned (.int .i64 1) ∧ WentL w0 w w' z F G b (S.word t 0).2 (x.word (S.word t 0).1.1) := by
 obtain ⟨⟨tv,wv,vv,ha,hG⟩,hlow,hoff⟩ := id hl
 have hn : x.turns.length = l.length + 1 := by rw [ht]; rfl
 have hs := ha.turns
 rw [hn] at hs
 obtain ⟨g,off,c,rfl,hc,hm,hcell⟩ := hs.spot
 have HTL : Hid (g ∈ footL b (.slice (some ⟨g,off,none⟩) (l.length + 1) c) wv vv) := by unfold Hid; simp [footL,vblk,Value.ownBlock]
 have t0 : w.cell? ⟨g,off,none⟩ = some (.int .i64 t) := by
  have := hcell 0 (.int .i64 t) (by rw [ht]; rfl)
  simpa using this
 have c4 : w.cell? ⟨b,4,none⟩ = some (.slice (some ⟨g,off,none⟩) (l.length + 1) c) := (Blk.cell ha.blk 4).trans rfl
 have c0 : w.cell? ⟨b,0,none⟩ = some (PT z.p) := (Blk.cell ha.blk 0).trans rfl
 have q1 : (0 : Int) < ((l.length + 1 : Nat) : Int) := by omega
 have hd := lk_done ha
 rw [show x.turns.isEmpty = false from by rw [ht]; rfl] at hd
 have QD := Lib.hid hd
 have HN := Lib.hid hn
 have HT := Lib.hid ht
 have HH := Lib.hid h
 have HL := Lib.hid hl
 have HG := Lib.hid hG
 have HA := Lib.hid ha
 have HO := Lib.hid hoff
 have c12 : w.cell? ⟨b,12,none⟩ = some (.bool true) := by rw [← hlo]; exact (Blk.cell ha.blk 12).trans rfl
 have how := ha.words
 rw [hw] at how
 replace how : w.ownsRow 0 45 1 wv 0 [] := how
 obtain ⟨A,cc,rfl⟩ : ∃ A cc,wv = .slice A 0 cc := by
  rcases how.2 with ⟨rfl,h0⟩ | ⟨g',cap,cur,rfl,_⟩
  · exact ⟨none,0,rfl⟩
  · exact ⟨_,_,rfl⟩
 have HC := Lib.hid (show ∀ w',Keeps [] w w' → w'.cell? ⟨b,0,none⟩ = some (PT z.p) ∧ w'.cell? ⟨b,11,none⟩ = some (.slice A 0 cc) from fun w' hk => ⟨((Blk.keeps ha.blk hk (by simp)).cell 0).trans rfl,((Blk.keeps ha.blk hk (by simp)).cell 11).trans rfl⟩)
 have QS := Lib.hid (fun w' (hk : Keeps [] w w') => slots_held h hk)
 have hcl := fun w' (hk' : Keeps [] w w') => sp_word (h.calm hk') hf hk t 0
 have hvu := hu.word t 0
 obtain ⟨v,hv⟩ : ∃ v,(S.word t 0).1.1 = v := ⟨_,rfl⟩
 obtain ⟨er,her⟩ : ∃ v,(S.word t 0).1.2 = v := ⟨_,rfl⟩
 obtain ⟨S',hS'⟩ : ∃ v,(S.word t 0).2 = v := ⟨_,rfl⟩
 simp only [hv,her,hS'] at hcl hvu ⊢
 have QC := Lib.hid (fun w' (hk' : Keeps [] w w') => (hcl w' hk').mono fun e w'' ⟨he,hw⟩ => And.intro he (hw.pre hk'))
 have hkB : Keeps [] w w := Keeps.refl _ _
 have HW := Lib.hid hw
 have HVU := Lib.hid hvu
 clear hcl hv her hS' hcell hs hn ht hd hG hlow hoff h hf hk hl hlo how hw hu hvu
 obtain ⟨i0,hi,hz0,hz1,hz2⟩ := info_parts Tryz.infoU64
 go_enter Tryz.func32,Tryz.ntmps32
 go_wp2_with fail
 refine QD.out.mono ?_
 rintro e w1 ⟨rfl,rfl⟩
 go_wp2_with fail
 clear c12 c4 t0
 go_region_held3 (fun w' => w'.cell? ⟨b,0,none⟩ = some (PT z.p) ∧ w'.cell? ⟨b,11,none⟩ = some (.slice A 0 cc)) (first | with_reducible exact HC.out _ Sq.kq | exact ⟨d0,d11⟩ | go_keep) ((first
  | (go_at_call 25; refine (QS.out _ Sq.kq).mono ?_; rintro e wc ⟨rfl,hkc⟩)
  | (go_at_call 108; refine (QC.out _ Sq.kq).mono ?_; rintro e wd ⟨rfl,hW⟩; obtain ⟨F',hs1,hk1,hn1⟩ := id hW; have hbd := HA.out.keeps hk1 (fun q hq => HO.out q (by rw [HG.out]; exact hq)); have d0 : wd.cell? ⟨b,0,none⟩ = some (PT z.p) := (hbd.blk.cell 0).trans rfl; have d11 : wd.cell? ⟨b,11,none⟩ = some (.slice A 0 cc) := (hbd.blk.cell 11).trans rfl; have HBD := Lib.hid hbd; have HWT := Lib.hid hW; clear hbd hs1 hk1 hn1 hW)))
 all_goals
  have how : wd.ownsRow 0 45 1 (.slice A 0 cc) 0 [] := by have := HBD.out.words; rw [HW.out] at this; exact this
  have HOW := Lib.hid how
  have hbl := HBD.out.blk.lt
  have hbw : b ≠ wd.heap.size := by omega
  clear how c0
  go_wp2_with (at_builtin; refine wpList_append_row rfl (.tmp 69) (.tmp 71) 187 rfl 45 i0 _ 1 8 Tryz.underlying187 hi hz0 hz1 hz2 rfl (by decide) (.slice A 0 cc) 0 _ rfl (own_keeps HOW.out ((Keeps.refl [] _).alloc _) (by simp)) _ 1 [.int .u64 v] rfl (made_row _ _ _ _ rfl) (by simp [Value.oneCell']) (by decide) (by decide) ?_; intro v1 w1 hown1 hg1 hat1; obtain ⟨g1,c1,rfl,_,_⟩ := hown1.form (by decide); have hb1 := (HBD.out.blk.alloc _).grown hg1 (fun e => own_blk_ne HOW.out HBD.out.blk (by decide) e.symm); have c11 : w1.cell? ⟨b,11,none⟩ = some (.slice A 0 cc) := (hb1.cell 11).trans rfl; have f11 := hb1.frozen 11; have H2 := Lib.hid (HBD.out.worded v _ hown1 hg1 hat1 (by rw [HW.out]; rfl)); clear hb1 hown1 hg1 hat1 hbw d0 d11)
  go_ret
  refine ⟨rfl,WentL.of HH.out HL.out HWT.out H2.out.2.1 (fun q hq => .inl ?_) H2.out.1 (fun q hq => ?_)⟩
  · rw [HG.out]
    simp only [List.mem_cons] at hq
    simp only [footL,List.mem_cons,List.mem_append]
    rcases hq with hq | hq
    · exact .inl hq
    · exact .inr (.inr (.inl hq))
  ·
   rw [HG.out]
   simp only [footL,List.mem_cons,List.mem_append] at hq ⊢
   rcases hq with hq | hq | hq | hq
   · exact .inl (.inl hq)
   · exact .inl (.inr (.inl hq))
   · rcases H2.out.2.2 q hq with h1 | h1
     · exact .inl (.inr (.inr (.inl h1)))
     · exact .inr h1
   · exact .inl (.inr (.inr (.inr hq)))
end
open Go.RowKit
attribute [local go_sem ↓] Go.wp_at_zero Go.wp_at_succ
section
variable {w0 w w' w'' : World} {z : Sb} {F G : List Nat} {S S' : Sp} {k j b : Nat} {x x' : Lk} {y : Dm} {tv wv vv lv dv : Value}
def atC (w : World) (b i : Nat) : Value := (w.cell? ⟨b,i,none⟩).getD (.bool false)
theorem atC_eq {w : World} {b i : Nat} {v : Value} (h : w.cell? ⟨b,i,none⟩ = some v) : atC w b i = v := by unfold atC; rw [h]; rfl
theorem Blk.calm_ {w : World} {g : Nat} {t : TypeId} {cs : Array Value} (h : Blk w g t cs) (o : Obj) : Blk (w.alloc o).drew g t cs := (h.alloc o).drew
theorem LkAt.metted (h : LkAt w z b tv wv vv x) {w1 : World} {g1 c1 : Nat} (t : Int) (o : Obj) (hown : w1.ownsRow 0 113 4 (.slice (some ⟨g1,0,none⟩) (x.victims.length + 1) c1) (x.victims.length + 1) (vcCells x.victims ++ Vc.cells ⟨t,x.head.gen,x.head.stamp,x.head.thread⟩)) (hg : (w.alloc o).drew.grownBy w1 vv.ownBlock) (hat : vv.ownBlock = some g1 ∨ g1 = (w.alloc o).drew.heap.size) :
 LkAt (w1.setCell ⟨b,13,none⟩ (.slice (some ⟨g1,0,none⟩) (x.victims.length + 1) c1)) z b tv wv (.slice (some ⟨g1,0,none⟩) (x.victims.length + 1) c1) (x.meets t) ∧ Keeps (b :: vv.ownBlock.toList) w (w1.setCell ⟨b,13,none⟩ (.slice (some ⟨g1,0,none⟩) (x.victims.length + 1) c1)) ∧ (g1 ∈ vblk vv ∨ w.heap.size ≤ g1) := by
 have hb1 := (h.blk.calm_ o).grown hg (fun e => own_blk_ne h.vs h.blk (by decide) e.symm)
 have hkg : Keeps vv.ownBlock.toList w w1 := (((Keeps.refl _ w).alloc o).drew).grown hg (fun q hq => .inl (by simp [hq]))
 have hk : Keeps (b :: vv.ownBlock.toList) w (w1.setCell ⟨b,13,none⟩ (.slice (some ⟨g1,0,none⟩) (x.victims.length + 1) c1)) := (hkg.mono (fun q hq => .inl (by simp [hq]))).setCell (.inl (by simp)) _
 have hvt : ∀ q,vv.ownBlock = some q → tyOf w q = some 113 := fun q hq => own_tyOf h.vs hq
 refine ⟨⟨?_,h.turns.keeps hk ?_,own_keeps h.words hk ?_,?_⟩,hk,?_⟩
 · have := hb1.set_ 13 (.slice (some ⟨g1,0,none⟩) (x.victims.length + 1) c1)
   simpa [Lk.meets] using this
 ·
  intro q hq hx
  have h1 := h.turns.ty q hq
  simp at hx
  rcases hx with rfl | hx
  · rw [h.blk.tyOf] at h1
    revert h1
    decide
  · rw [hvt q hx] at h1
    revert h1
    decide
 ·
  intro q hq hx
  have h1 := own_tyOf h.words hq
  simp at hx
  rcases hx with rfl | hx
  · rw [h.blk.tyOf] at h1
    revert h1
    decide
  · rw [hvt q hx] at h1
    revert h1
    decide
 ·
  have := own_keeps hown (S := [b]) ((Keeps.refl [b] w1).setCell (p := ⟨b,13,none⟩) (.inl (by simp)) (.slice (some ⟨g1,0,none⟩) (x.victims.length + 1) c1)) (fun q hq => by
   simp
   intro e2
   subst e2
   exact own_blk_ne hown hb1 (by decide) hq)
  have e : vcCells (x.meets t).victims = vcCells x.victims ++ Vc.cells ⟨t,x.head.gen,x.head.stamp,x.head.thread⟩ := vcCells_snoc _ _
  have e2 : (x.meets t).victims.length = x.victims.length + 1 := by show (x.victims ++ [_]).length = _; simp
  rw [e,e2]
  exact this
 · rcases hat with e | e
   · exact .inl (by simp [vblk,e])
   · exact .inr (by rw [e]; simp)
set_option maxRecDepth 100000 in
set_option maxHeartbeats 8000000 in
theorem lk_step_word1n (h : SP w0 w z F S) (hf : Fit k S) (hk : k ≤ 1099511627776) (hl : LK w0 w z F b G x) (hu : S.wu) (hx : x.Ok j) (hj : j ≤ 1099511627776) (t : Int) (l : List Int) (ht : x.turns = t :: l) (hlo : x.looked = true) (v0 : Int) (hw : x.words = [v0]) (hmet : (x.word (S.word t 1).1.1).met = false) :
 Calls Tryz.prog 32 #[PT b] w fun e w' => e = .returned (.int .i64 1) ∧ WentL w0 w w' z F G b (S.word t 1).2 (x.word (S.word t 1).1.1).turn := by
 obtain ⟨m0,hm0,hm1⟩ : ∃ m0 : Nat,v0 = m0 ∧ m0 < 18446744073709551616 := by have := hx.wu v0 (by rw [hw]; simp); unfold isU at this; exact ⟨v0.toNat,by omega,by omega⟩
 have hvs := hx.vs
 have HSG := Lib.hid hx.sg
 have hmx : Hid (x.victims.length + 1 ≤ maxLen) := by unfold Hid maxLen; omega
 have hby : Hid ((x.victims.length + 1) * 32 ≤ 140737488355328) := by unfold Hid; omega
 have HM0 := Lib.hid (And.intro hm0 hm1)
 clear hm0 hm1 hvs hx hj
 obtain ⟨⟨tv,wv,vv,ha,hG⟩,hlow,hoff⟩ := id hl
 have hn : x.turns.length = l.length + 1 := by rw [ht]; rfl
 have hs := ha.turns
 rw [hn] at hs
 obtain ⟨g,off,c,rfl,hc,hm,hcell⟩ := hs.spot
 have HTL : Hid (g ∈ footL b (.slice (some ⟨g,off,none⟩) (l.length + 1) c) wv vv) := by unfold Hid; simp [footL,vblk,Value.ownBlock]
 have t0 : w.cell? ⟨g,off,none⟩ = some (.int .i64 t) := by
  have := hcell 0 (.int .i64 t) (by rw [ht]; rfl)
  simpa using this
 have c4 : w.cell? ⟨b,4,none⟩ = some (.slice (some ⟨g,off,none⟩) (l.length + 1) c) := (Blk.cell ha.blk 4).trans rfl
 have c0 : w.cell? ⟨b,0,none⟩ = some (PT z.p) := (Blk.cell ha.blk 0).trans rfl
 have q1 : (0 : Int) < ((l.length + 1 : Nat) : Int) := by omega
 have hd := lk_done ha
 rw [show x.turns.isEmpty = false from by rw [ht]; rfl] at hd
 have QD := Lib.hid hd
 have HN := Lib.hid hn
 have HT := Lib.hid ht
 have HH := Lib.hid h
 have HL := Lib.hid hl
 have HG := Lib.hid hG
 have HA := Lib.hid ha
 have HO := Lib.hid hoff
 have c12 : w.cell? ⟨b,12,none⟩ = some (.bool true) := by rw [← hlo]; exact (Blk.cell ha.blk 12).trans rfl
 have how := ha.words
 rw [hw] at how
 replace how : w.ownsRow 0 45 1 wv 1 [.int .u64 v0] := how
 obtain ⟨A,cc,rfl⟩ : ∃ A cc,wv = .slice A 1 cc := by
  rcases how.2 with ⟨rfl,h0⟩ | ⟨g',cap,cur,rfl,_⟩
  · cases h0
  · exact ⟨_,_,rfl⟩
 have HC := Lib.hid (show ∀ w',Keeps [] w w' → w'.cell? ⟨b,0,none⟩ = some (PT z.p) ∧ w'.cell? ⟨b,11,none⟩ = some (.slice A 1 cc) from fun w' hk => ⟨((Blk.keeps ha.blk hk (by simp)).cell 0).trans rfl,((Blk.keeps ha.blk hk (by simp)).cell 11).trans rfl⟩)
 have QS := Lib.hid (fun w' (hk : Keeps [] w w') => slots_held h hk)
 have hcl := fun w' (hk' : Keeps [] w w') => sp_word (h.calm hk') hf hk t 1
 have hvu := hu.word t 1
 obtain ⟨v,hv⟩ : ∃ v,(S.word t 1).1.1 = v := ⟨_,rfl⟩
 obtain ⟨er,her⟩ : ∃ v,(S.word t 1).1.2 = v := ⟨_,rfl⟩
 obtain ⟨S',hS'⟩ : ∃ v,(S.word t 1).2 = v := ⟨_,rfl⟩
 simp only [hv,her,hS'] at hcl hvu hmet ⊢
 obtain ⟨m1,hn0,hn1⟩ : ∃ m1 : Nat,v = m1 ∧ m1 < 18446744073709551616 := by unfold isU at hvu; exact ⟨v.toNat,by omega,by omega⟩
 have HM1 := Lib.hid (And.intro hn0 hn1)
 have HMET := Lib.hid hmet
 clear hn0 hn1 hmet
 have QC := Lib.hid (fun w' (hk' : Keeps [] w w') => (hcl w' hk').mono fun e w'' ⟨he,hw⟩ => And.intro he (hw.pre hk'))
 have hkB : Keeps [] w w := Keeps.refl _ _
 have HW := Lib.hid hw
 have HVU := Lib.hid hvu
 clear hcl hv her hS' hcell hs hn ht hd hG hlow hoff h hf hk hl hlo how hw hu hvu
 obtain ⟨i0,hi,hz0,hz1,hz2⟩ := info_parts Tryz.infoU64
 obtain ⟨j0,hj,hy0,hy1,hy2⟩ := info_parts Tryz.infoVc
 go_enter Tryz.func32,Tryz.ntmps32
 go_wp2_with fail
 refine QD.out.mono ?_
 rintro e w1 ⟨rfl,rfl⟩
 go_wp2_with fail
 clear c12 c4 t0
 go_region_held3 (fun w' => w'.cell? ⟨b,0,none⟩ = some (PT z.p) ∧ w'.cell? ⟨b,11,none⟩ = some (.slice A 1 cc)) (first | with_reducible exact HC.out _ Sq.kq | exact ⟨d0,d11⟩ | go_keep) ((first
  | (go_at_call 25; refine (QS.out _ Sq.kq).mono ?_; rintro e wc ⟨rfl,hkc⟩)
  | (go_at_call 108; refine (QC.out _ Sq.kq).mono ?_; rintro e wd ⟨rfl,hW⟩; obtain ⟨F',hs1,hk1,hn1⟩ := id hW; have hbd := HA.out.keeps hk1 (fun q hq => HO.out q (by rw [HG.out]; exact hq)); have d0 : wd.cell? ⟨b,0,none⟩ = some (PT z.p) := (hbd.blk.cell 0).trans rfl; have d11 : wd.cell? ⟨b,11,none⟩ = some (.slice A 1 cc) := (hbd.blk.cell 11).trans rfl; have HBD := Lib.hid hbd; have HWT := Lib.hid hW; clear hbd hs1 hk1 hn1 hW)))
 all_goals
  have how : wd.ownsRow 0 45 1 (.slice A 1 cc) 1 [.int .u64 v0] := by have := HBD.out.words; rw [HW.out] at this; exact this
  have HOW := Lib.hid how
  have hbl := HBD.out.blk.lt
  have hbw : b ≠ wd.heap.size := by omega
  clear how c0
  go_wp2_with (at_builtin; refine wpList_append_row rfl (.tmp 69) (.tmp 71) 187 rfl 45 i0 _ 1 8 Tryz.underlying187 hi hz0 hz1 hz2 rfl (by decide) (.slice A 1 cc) 1 _ rfl (own_keeps HOW.out ((Keeps.refl [] _).alloc _) (by simp)) _ 1 [.int .u64 v] rfl (made_row _ _ _ _ rfl) (by simp [Value.oneCell']) (by decide) (by decide) ?_; intro v1 w1 hown1 hg1 hat1; obtain ⟨g1,c1,rfl,_,_⟩ := hown1.form (by decide); have hb1 := (HBD.out.blk.alloc _).grown hg1 (fun e => own_blk_ne HOW.out HBD.out.blk (by decide) e.symm); have c11 : w1.cell? ⟨b,11,none⟩ = some (.slice A 1 cc) := (hb1.cell 11).trans rfl; have f11 := hb1.frozen 11; have H2 := Lib.hid (HBD.out.worded v _ hown1 hg1 hat1 (by rw [HW.out]; rfl)); clear hb1 hown1 hg1 hat1 hbw d0 d11)
  have H3 := Lib.hid (lk_met H2.out.1 m0 m1 (by show x.words ++ [v] = _; rw [HW.out,← HM0.out.1,← HM1.out.1]; rfl) HM0.out.2 HM1.out.2 HSG.out)
  rw [HMET.out] at H3
  refine H3.out.mono ?_
  rintro e w5 ⟨rfl,hk5⟩
  have ha5 := H2.out.1.keeps hk5 (by simp)
  have HA5 := Lib.hid ha5
  have HK5 := Lib.hid (H2.out.2.1.trans hk5 (by simp))
  clear f11 c11 hbl H3
  clear ha5 hk5
  go_wp2_with fail
  refine (lk_turn HA5.out (by show x.turns ≠ []; rw [HT.out]; simp)).mono ?_
  rintro e w7 ⟨rfl,tv',ha7,hk7,hv7⟩
  have HA7 := Lib.hid ha7
  have HK7 := Lib.hid (HK5.out.trans hk7 (T := [b]) (by simp))
  have HV7 := Lib.hid hv7
  clear ha7 hk7 hv7
  go_wp2_with fail
  go_ret
  refine ⟨rfl,WentL.of HH.out HL.out HWT.out HK7.out (fun q hq => .inl ?_) HA7.out (fun q hq => ?_)⟩
  · rw [HG.out]
    simp only [List.mem_cons] at hq
    simp only [footL,List.mem_cons,List.mem_append]
    rcases hq with hq | hq
    · exact .inl hq
    · exact .inr (.inr (.inl hq))
  · rw [HG.out]
    simp only [footL,List.mem_cons,List.mem_append] at hq ⊢
    rcases hq with hq | hq | hq | hq
    · exact .inl (.inl hq)
    · exact .inl (.inr (.inl (HV7.out q hq)))
    · simp [vblk,Value.ownBlock] at hq
    · exact .inl (.inr (.inr (.inr hq)))
end
end Go.Proofs.YtmlnedilbneekaaGreat