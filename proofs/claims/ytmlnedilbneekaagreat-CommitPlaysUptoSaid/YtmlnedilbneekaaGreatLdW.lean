/- Layer 12: the document's look asks its first word. -/
import Derived.StillTailTactics
import Derived.Deep.QuietTactic
import Derived.BigQuiet
import Derived.Test.YtmlnedilbneekaaGreatLdB
import Derived.Deep.RegionHeld3
import Derived.Deep.DeepCutAuto
import Derived.Deep.CutBlock
import Derived.Test.YtmlnedilbneekaaGreatRegT
import Derived.Test.YtmlnedilbneekaaGreatMake
set_option linter.unusedVariables false
set_option linter.unusedSimpArgs false
namespace Go.Proofs.YtmlnedilbneekaaGreat
open Go
theorem still_of_quiet {P : Program} {ops : Array Oper} {w : World} {Q : Act → Prop} : ∀ (l : List Oper) (a : Act),wpQuiet P ops (fun w' => w' = w) Q l a → wpStill P ops w Q l a
 | [],a,h => h
 | o :: rest,a,h => by
   unfold wpQuiet at h
   unfold wpStill
   split
   ·
    rename_i hw
    rw [if_pos hw] at h
    obtain ⟨v,h1,h2⟩ := h
    have h3 := h1 w rfl
    unfold Oper.quietAt Oper.quietUpon at h3
    unfold Oper.still Oper.stillUpon
    split at h3
    · rename_i he
      rw [he]
      exact ⟨h3.1,by rw [h3.2]; exact still_of_quiet rest _ h2⟩
    · rename_i he
      rw [he]
      exact ⟨h3.1,by rw [← h3.2]; exact still_of_quiet rest _ h2⟩
    · rename_i he
      rw [he]
      exact ⟨h3.1,v,h3.2,still_of_quiet rest _ h2⟩
    · exact h3.elim
   · rename_i hw
     rw [if_neg hw] at h
     exact still_of_quiet rest _ h
theorem wp_region_tail_q {P : Program} {id : Nat} {Q : Exit → Act → World → Prop} {a : Act} {w : World} {l : List Oper} (n : Nat) (hm : P.follows .mixedOrders = true) (hB : Region.lexTailB .any l.toArray n = true)
 (h : wpQuiet P l.toArray (fun w' => w' = w.drew) (fun a' => wpList P l.toArray Q (l.drop n) a' w.drew) (l.take n) a) : (Code.region id l.toArray true).wp P Q a w :=
 wp_region_still_tail n hm hB (still_of_quiet _ _ h)
open Go.RowKit
namespace Ld
section
variable {w w' w0 wd : World} {y : Rb} {G : List Nat} {S : Sp} {n b k : Nat} {x : Lk} {vv : Value} {cs : Array Value}
theorem headS {wc : World} {G' : List Nat} {S' : Sp} {sl : Int} {Q : Nat} (hb1 : Blk wc b 135 cs) (hp1 : RP w0 wc y G' S') (hcs : cs[0]? = some (PT y.p) ∧ cs[4]? = some (.int .i64 sl)) (hbQ : b ≠ Q) (h0 : w0.heap.size ≤ Q) (hQ : Q ∉ G') (ht : ∀ t,tyOf wc Q = some t → t ∉ rpFix) : ∀ w',Keeps [Q] wc w' → w'.cell? ⟨b,0,none⟩ = some (PT y.p) ∧ w'.cell? ⟨y.p,9,none⟩ = some (PT y.t) ∧ w'.cell? ⟨b,4,none⟩ = some (.int .i64 sl) := fun w' hk => ⟨((hb1.keeps hk (by simpa using hbQ)).cell 0).trans hcs.1,(hp1.away hk (fun z hz => by simp at hz; subst hz; exact ⟨h0,hQ,ht⟩)).cells.2.2.2.2.2.2,((hb1.keeps hk (by simpa using hbQ)).cell 4).trans hcs.2⟩
set_option maxRecDepth 100000 in
set_option maxHeartbeats 4000000 in
theorem head_walk {own sl s0 s1 g0 g1 g2 g3 g5 p0 p1 : Int} {g4 : Bool} (h : RP w0 w y G S) (hf : Fit k S) (hk : k ≤ 1099511627776) (hb : Blk w b 135 #[PT y.p,.int .i64 own,.int .u64 s0,.int .u64 s1,.int .i64 sl,.int .i64 (-1),.int .i64 g0,.int .i64 g1,.int .i64 g2,.int .i64 g3,.bool g4,.int .i64 g5,.int .u64 p0,.int .u64 p1,vv]) (hb0 : w0.heap.size ≤ b) (hbG : b ∉ G) (hsl : 0 ≤ sl ∧ sl < 8)
 (hd : Calls Tryz.prog 53 #[PT b] w fun e w' => e = .returned (.bool false) ∧ Keeps [] w w') :
 Calls Tryz.prog 50 #[PT b] w fun e w' => e = .returned (.int .i64 1) ∧ ∃ G',RP w0 w' y G' (S.look sl).2 ∧ Blk w' b 135 (if (S.look sl).1.1.state ≠ 2 ∨ (S.look sl).1.1.doomed = true then #[PT y.p,.int .i64 own,.int .u64 s0,.int .u64 s1,.int .i64 (nx own sl),.int .i64 (-1),.int .i64 (S.look sl).1.1.gen,.int .i64 (S.look sl).1.1.state,.int .i64 (S.look sl).1.1.stamp,.int .i64 (S.look sl).1.1.thread,.bool (S.look sl).1.1.doomed,.int .i64 (S.look sl).1.1.who,.int .u64 p0,.int .u64 p1,vv] else #[PT y.p,.int .i64 own,.int .u64 s0,.int .u64 s1,.int .i64 sl,.int .i64 0,.int .i64 (S.look sl).1.1.gen,.int .i64 (S.look sl).1.1.state,.int .i64 (S.look sl).1.1.stamp,.int .i64 (S.look sl).1.1.thread,.bool (S.look sl).1.1.doomed,.int .i64 (S.look sl).1.1.who,.int .u64 p0,.int .u64 p1,vv]) ∧ Keeps (b :: G) w w' ∧ (∀ z,z ∈ G' → z ∈ G ∨ w.heap.size ≤ z) := by
 have HD := Lib.hid hd
 obtain ⟨cs,hcs⟩ : ∃ cs,cs = #[PT y.p,.int .i64 own,.int .u64 s0,.int .u64 s1,.int .i64 sl,.int .i64 (-1),.int .i64 g0,.int .i64 g1,.int .i64 g2,.int .i64 g3,.bool g4,.int .i64 g5,.int .u64 p0,.int .u64 p1,vv] := ⟨_,rfl⟩
 have HCS : Hid (cs[0]? = some (PT y.p) ∧ cs[4]? = some (.int .i64 sl)) := by rw [hcs]; exact ⟨rfl,rfl⟩
 have HR := Lib.hid h
 have HBB := Lib.hid hb
 have hlk : ∀ w',Keeps [] w w' → Calls Tryz.prog 117 #[PT y.t,.int .i64 sl] w' fun e w'' => e = .returned (.tuple #[(S.look sl).1.1.val,.int .i64 (S.look sl).1.2]) ∧ RWent w0 w' w'' y G (S.look sl).2 := fun w' hk' => rp_look (h.calm hk') hf hk sl
 obtain ⟨hv,hhv⟩ : ∃ v,(S.look sl).1.1 = v := ⟨_,rfl⟩
 obtain ⟨er,her⟩ : ∃ v,(S.look sl).1.2 = v := ⟨_,rfl⟩
 obtain ⟨S',hS'⟩ : ∃ v,(S.look sl).2 = v := ⟨_,rfl⟩
 simp only [hhv,her,hS'] at hlk ⊢
 obtain ⟨R,hR⟩ : ∃ R : Array Value,(if hv.state ≠ 2 ∨ hv.doomed = true then #[PT y.p,.int .i64 own,.int .u64 s0,.int .u64 s1,.int .i64 (nx own sl),.int .i64 (-1),.int .i64 hv.gen,.int .i64 hv.state,.int .i64 hv.stamp,.int .i64 hv.thread,.bool hv.doomed,.int .i64 hv.who,.int .u64 p0,.int .u64 p1,vv] else #[PT y.p,.int .i64 own,.int .u64 s0,.int .u64 s1,.int .i64 sl,.int .i64 0,.int .i64 hv.gen,.int .i64 hv.state,.int .i64 hv.stamp,.int .i64 hv.thread,.bool hv.doomed,.int .i64 hv.who,.int .u64 p0,.int .u64 p1,vv]) = R := ⟨_,rfl⟩
 rw [hR]
 have HRR := Lib.hid hR
 clear hR
 unfold Hd.val at hlk
 have HLK0 : Hid (∀ w',Keeps [] w w' → Calls Tryz.prog 117 #[PT y.t,.int .i64 sl] w' fun e w'' => e = .returned (.tuple #[.agg #[.int .i64 hv.gen,.int .i64 hv.state,.int .i64 hv.stamp,.int .i64 hv.thread,.bool hv.doomed,.int .i64 hv.who],.int .i64 er]) ∧ ∃ G',RP w0 w'' y G' S' ∧ Keeps G w' w'' ∧ (∀ z,z ∈ G' → z ∈ G ∨ w'.heap.size ≤ z)) := fun w' hk' => (hlk w' hk').mono fun e w'' ⟨he,G',h2,h3,h4⟩ => ⟨he,G',h2,h3,h4⟩
 have HBG := Lib.hid (And.intro hbG hb0)
 have HSL := Lib.hid hsl
 clear h hf hk hb hb0 hbG hd hlk hhv her hS' hsl
 go_enter Tryz.func50,Tryz.ntmps50
 go_wp2_with fail
 refine HD.out.mono ?_
 rintro e wd ⟨rfl,hkd⟩
 have hbd := HBB.out.keeps hkd (by simp)
 rw [← hcs] at hbd
 have HCN : Hid (cs = #[PT y.p,.int .i64 own,.int .u64 s0,.int .u64 s1,.int .i64 sl,.int .i64 (-1),.int .i64 g0,.int .i64 g1,.int .i64 g2,.int .i64 g3,.bool g4,.int .i64 g5,.int .u64 p0,.int .u64 p1,vv]) := hcs
 have hpd := HR.out.calm hkd
 have c5 : wd.cell? ⟨b,5,none⟩ = some (.int .i64 (-1)) := (hbd.cell 5).trans (by rw [hcs]; rfl)
 have HC := Lib.hid (show ∀ w',Keeps [] wd w' → w'.cell? ⟨b,0,none⟩ = some (PT y.p) ∧ w'.cell? ⟨y.p,9,none⟩ = some (PT y.t) ∧ w'.cell? ⟨b,4,none⟩ = some (.int .i64 sl) from fun w' hk => ⟨((hbd.keeps hk (by simp)).cell 0).trans HCS.out.1,(hpd.calm hk).cells.2.2.2.2.2.2,((hbd.keeps hk (by simp)).cell 4).trans HCS.out.2⟩)
 have HLT : Hid (∀ x,x ∈ G → x < wd.heap.size) := hpd.lt
 have HW0 : Hid (w0.heap.size ≤ wd.heap.size) := hpd.keep.size
 have HLK : Hid (∀ w',Keeps [] wd w' → Calls Tryz.prog 117 #[PT y.t,.int .i64 sl] w' fun e w'' => e = .returned (.tuple #[.agg #[.int .i64 hv.gen,.int .i64 hv.state,.int .i64 hv.stamp,.int .i64 hv.thread,.bool hv.doomed,.int .i64 hv.who],.int .i64 er]) ∧ ∃ G',RP w0 w'' y G' S' ∧ Keeps G w' w'' ∧ (∀ z,z ∈ G' → z ∈ G ∨ w'.heap.size ≤ z)) := fun w' hk' => HLK0.out w' (hkd.trans hk' (by simp))
 have hkB : Keeps [] wd wd := Keeps.refl _ _
 have HB := Lib.hid (And.intro hbd HBG.out)
 have HKD := Lib.hid hkd
 clear hbd hpd hcs hkd
 go_upto_region 4 with fail
 go_cut [3] (fun v wx => ∃ (q : Nat) (G' : List Nat),v = PT q ∧ wd.heap.size ≤ q ∧ q ∉ G' ∧ RP w0 wx y G' S' ∧ Keeps G wd wx ∧ (∀ z,z ∈ G' → z ∈ G ∨ wd.heap.size ≤ z) ∧ Blk wx q 115 #[.int .i64 hv.gen,.int .i64 hv.state,.int .i64 hv.stamp,.int .i64 hv.thread,.bool hv.doomed,.int .i64 hv.who])
 case first =>
  refine wp_region_noPanic ?_
  refine wp_region_L 99 (fun w' => w'.cell? ⟨b,0,none⟩ = some (PT y.p) ∧ w'.cell? ⟨y.p,9,none⟩ = some (PT y.t) ∧ w'.cell? ⟨b,4,none⟩ = some (.int .i64 sl)) (by kernel_rfl) ?_
  have hHeld := HC.out _ hkB.drew
  refine Sq.kT (i := 0) (v := ?rv0) rfl ?ry0 hHeld ?rr0
  case ry0 => (intro w' hSw; (try dsimp only at hSw); go_simp; first | done | with_reducible rfl)
  try simp only [Act.put,Sq.t,Sq.z,Sq.s]
  refine Sq.kT (i := 1) (v := ?rv1) rfl ?ry1 hHeld ?rr1
  case ry1 => (intro w' hSw; (try dsimp only at hSw); go_simp; first | done | with_reducible rfl)
  try simp only [Act.put,Sq.t,Sq.z,Sq.s]
  refine Sq.kT (i := 2) (v := ?rv2) rfl ?ry2 hHeld ?rr2
  case ry2 => (intro w' hSw; (try dsimp only at hSw); go_simp; first | done | with_reducible rfl)
  try simp only [Act.put,Sq.t,Sq.z,Sq.s]
  refine Sq.kT (i := 3) (v := ?rv3) rfl ?ry3 hHeld ?rr3
  case ry3 => (intro w' hSw; (try dsimp only at hSw); go_simp; first | done | with_reducible rfl)
  try simp only [Act.put,Sq.t,Sq.z,Sq.s]
  refine Sq.kT (i := 4) (v := ?rv4) rfl ?ry4 hHeld ?rr4
  case ry4 => (intro w' hSw; (try dsimp only at hSw); go_simp; first | done | with_reducible rfl)
  try simp only [Act.put,Sq.t,Sq.z,Sq.s]
  refine Sq.kT (i := 5) (v := ?rv5) rfl ?ry5 hHeld ?rr5
  case ry5 => (intro w' hSw; (try dsimp only at hSw); go_simp; first | done | with_reducible rfl)
  try simp only [Act.put,Sq.t,Sq.z,Sq.s]
  refine Sq.kT (i := 6) (v := ?rv6) rfl ?ry6 hHeld ?rr6
  case ry6 => (intro w' hSw; (try dsimp only at hSw); go_simp; first | done | with_reducible rfl)
  try simp only [Act.put,Sq.t,Sq.z,Sq.s]
  refine Sq.kT (i := 7) (v := ?rv7) rfl ?ry7 hHeld ?rr7
  case ry7 => (intro w' hSw; (try dsimp only at hSw); go_simp; first | done | with_reducible rfl)
  try simp only [Act.put,Sq.t,Sq.z,Sq.s]
  refine Sq.kT (i := 8) (v := ?rv8) rfl ?ry8 hHeld ?rr8
  case ry8 => (intro w' hSw; (try dsimp only at hSw); go_simp; first | done | with_reducible rfl)
  try simp only [Act.put,Sq.t,Sq.z,Sq.s]
  refine Sq.kT (i := 9) (v := ?rv9) rfl ?ry9 hHeld ?rr9
  case ry9 => (intro w' hSw; (try dsimp only at hSw); go_simp; first | done | with_reducible rfl)
  try simp only [Act.put,Sq.t,Sq.z,Sq.s]
  refine Sq.kT (i := 10) (v := ?rv10) rfl ?ry10 hHeld ?rr10
  case ry10 => (intro w' hSw; (try dsimp only at hSw); go_simp; first | done | with_reducible rfl)
  try simp only [Act.put,Sq.t,Sq.z,Sq.s]
  refine wpAnyL_twoT (i := 11) (j := 15) (by kernel_rfl) rfl rfl (fun K hK => ?_) (fun K hK => ?_)
  ·
   go_simp
   go_at_call 117
   refine (HLK.out _ (hkB.drew)).mono ?_
   rintro e wc ⟨rfl,G',hp1,hk1,hn1⟩
   go_simp
   have hb1 : Blk wc b 135 cs := (HB.out.1.keeps (hkB.drew) (by simp)).keeps hk1 HB.out.2.1
   have hS1 : wc.cell? ⟨b,0,none⟩ = some (PT y.p) ∧ wc.cell? ⟨y.p,9,none⟩ = some (PT y.t) ∧ wc.cell? ⟨b,4,none⟩ = some (.int .i64 sl) := ⟨(hb1.cell 0).trans HCS.out.1,hp1.cells.2.2.2.2.2.2,(hb1.cell 4).trans HCS.out.2⟩
   refine hK.out _ _ (fun _ => hS1) ?_
   clear hK K
   try simp only [Act.put,Sq.t,Sq.z,Sq.s]
   replace hHeld := hS1
   refine Sq.kT (i := 12) (v := ?rva12) rfl ?rya12 hHeld ?rra12
   case rya12 => (intro w' hSw; (try dsimp only at hSw); go_simp; first | done | with_reducible rfl)
   try simp only [Act.put,Sq.t,Sq.z,Sq.s]
   refine Sq.kT (i := 13) (v := ?rva13) rfl ?rya13 hHeld ?rra13
   case rya13 => (intro w' hSw; (try dsimp only at hSw); go_simp; first | done | with_reducible rfl)
   try simp only [Act.put,Sq.t,Sq.z,Sq.s]
   refine Sq.kT (i := 14) (v := ?rva14) rfl ?rya14 hHeld ?rra14
   case rya14 => (intro w' hSw; (try dsimp only at hSw); go_simp; first | done | with_reducible rfl)
   try simp only [Act.put,Sq.t,Sq.z,Sq.s]
   refine Sq.oT (i := 15) rfl fun K hK => ?_
   go_simp
   have hS2 := headS (Q := wc.heap.size) hb1 hp1 HCS.out (Nat.ne_of_lt hb1.lt) hp1.keep.size (fun hx => Nat.lt_irrefl _ (hp1.lt _ hx)) (fun t ht => absurd (tyOf_lt ht) (Nat.lt_irrefl _))
   refine hK.out _ _ (fun _ => hS2 _ (Sq.r.alloc _)) ?_
   clear hK K
   try simp only [Act.put,Sq.t,Sq.z,Sq.s]
   refine Sq.oT (i := 16) rfl fun K hK => ?_
   go_simp
   refine hK.out _ _ (fun _ => by first | exact hS2 _ (Sq.r.alloc _) | exact hS2 _ ((((((((Sq.r.alloc _).setCell (.inl (by simp)) _).setCell (.inl (by simp)) _).setCell (.inl (by simp)) _).setCell (.inl (by simp)) _).setCell (.inl (by simp)) _).setCell (.inl (by simp)) _))) ?_
   clear hK K
   try simp only [Act.put,Sq.t,Sq.z,Sq.s]
   refine Sq.oT (i := 17) rfl fun K hK => ?_
   go_simp
   refine hK.out _ _ (fun _ => by first | exact hS2 _ (Sq.r.alloc _) | exact hS2 _ ((((((((Sq.r.alloc _).setCell (.inl (by simp)) _).setCell (.inl (by simp)) _).setCell (.inl (by simp)) _).setCell (.inl (by simp)) _).setCell (.inl (by simp)) _).setCell (.inl (by simp)) _))) ?_
   clear hK K
   try simp only [Act.put,Sq.t,Sq.z,Sq.s]
   refine wpAnyL_done (by kernel_rfl) ?_ _
   refine NoPanic.normal ?_
   go_wp2_with fail
   go_meet
   exact ⟨wc.heap.size,G',rfl,hk1.size,fun hx => Nat.lt_irrefl _ (hp1.lt _ hx),hp1.calm ((Keeps.refl [] wc).alloc _),(((hkB.drew).mono (by simp)).trans hk1 (fun q hq => .inl hq)).alloc _,hn1,Blk.new wc 115 #[.int .i64 hv.gen,.int .i64 hv.state,.int .i64 hv.stamp,.int .i64 hv.thread,.bool hv.doomed,.int .i64 hv.who]⟩
  ·
   go_simp
   refine hK.out _ _ (fun _ => HC.out _ ((hkB.drew).alloc _)) ?_
   clear hK K
   try simp only [Act.put,Sq.t,Sq.z,Sq.s]
   refine Sq.oT (i := 11) rfl fun K hK => ?_
   go_simp
   go_at_call 117
   refine (HLK.out _ (hkB.drew.alloc _)).mono ?_
   rintro e wc ⟨rfl,G',hp1,hk1,hn1⟩
   go_simp
   have hb1 : Blk wc b 135 cs := (HB.out.1.keeps (hkB.drew.alloc _) (by simp)).keeps hk1 HB.out.2.1
   have hS1 : wc.cell? ⟨b,0,none⟩ = some (PT y.p) ∧ wc.cell? ⟨y.p,9,none⟩ = some (PT y.t) ∧ wc.cell? ⟨b,4,none⟩ = some (.int .i64 sl) := ⟨(hb1.cell 0).trans HCS.out.1,hp1.cells.2.2.2.2.2.2,(hb1.cell 4).trans HCS.out.2⟩
   refine hK.out _ _ (fun _ => hS1) ?_
   clear hK K
   try simp only [Act.put,Sq.t,Sq.z,Sq.s]
   replace hHeld := hS1
   have hz : Blk wc wd.heap.size 115 #[.int .i64 0,.int .i64 0,.int .i64 0,.int .i64 0,.bool false,.int .i64 0] := (Blk.new wd.drew 115 #[.int .i64 0,.int .i64 0,.int .i64 0,.int .i64 0,.bool false,.int .i64 0]).keeps hk1 (fun hx => Nat.lt_irrefl wd.heap.size (HLT.out _ hx))
   have z0 : wc.cell? ⟨wd.heap.size,0,none⟩ = some (.int .i64 0) := (hz.cell 0).trans rfl
   have y0 := hz.frozen 0
   have z1 : wc.cell? ⟨wd.heap.size,1,none⟩ = some (.int .i64 0) := (hz.cell 1).trans rfl
   have y1 := hz.frozen 1
   have z2 : wc.cell? ⟨wd.heap.size,2,none⟩ = some (.int .i64 0) := (hz.cell 2).trans rfl
   have y2 := hz.frozen 2
   have z3 : wc.cell? ⟨wd.heap.size,3,none⟩ = some (.int .i64 0) := (hz.cell 3).trans rfl
   have y3 := hz.frozen 3
   have z4 : wc.cell? ⟨wd.heap.size,4,none⟩ = some (.bool false) := (hz.cell 4).trans rfl
   have y4 := hz.frozen 4
   have z5 : wc.cell? ⟨wd.heap.size,5,none⟩ = some (.int .i64 0) := (hz.cell 5).trans rfl
   have y5 := hz.frozen 5
   have HZ := Lib.hid hz
   clear hz
   refine Sq.kT (i := 12) (v := ?rvb12) rfl ?ryb12 hHeld ?rrb12
   case ryb12 => (intro w' hSw; (try dsimp only at hSw); go_simp; first | done | with_reducible rfl)
   try simp only [Act.put,Sq.t,Sq.z,Sq.s]
   refine Sq.kT (i := 13) (v := ?rvb13) rfl ?ryb13 hHeld ?rrb13
   case ryb13 => (intro w' hSw; (try dsimp only at hSw); go_simp; first | done | with_reducible rfl)
   try simp only [Act.put,Sq.t,Sq.z,Sq.s]
   refine Sq.kT (i := 14) (v := ?rvb14) rfl ?ryb14 hHeld ?rrb14
   case ryb14 => (intro w' hSw; (try dsimp only at hSw); go_simp; first | done | with_reducible rfl)
   try simp only [Act.put,Sq.t,Sq.z,Sq.s]
   refine Sq.oT (i := 16) rfl fun K hK => ?_
   go_simp
   have hnq : wd.heap.size ∉ G' := fun hx => (hn1 _ hx).elim (fun h => Nat.lt_irrefl _ (HLT.out _ h)) (fun h => absurd (show wd.heap.size + 1 ≤ wd.heap.size by simp at h; exact h) (Nat.not_succ_le_self _))
   have hS2 := headS (Q := wd.heap.size) hb1 hp1 HCS.out (Nat.ne_of_lt HB.out.1.lt) HW0.out hnq (fun t ht => by rw [HZ.out.tyOf] at ht; injection ht with ht; subst ht; decide)
   refine hK.out _ _ (fun _ => hS2 _ ((((((Sq.r.setCell (.inl (by simp)) _).setCell (.inl (by simp)) _).setCell (.inl (by simp)) _).setCell (.inl (by simp)) _).setCell (.inl (by simp)) _).setCell (.inl (by simp)) _)) ?_
   clear hK K
   try simp only [Act.put,Sq.t,Sq.z,Sq.s]
   refine Sq.oT (i := 17) rfl fun K hK => ?_
   go_simp
   refine hK.out _ _ (fun _ => hS2 _ ((((((Sq.r.setCell (.inl (by simp)) _).setCell (.inl (by simp)) _).setCell (.inl (by simp)) _).setCell (.inl (by simp)) _).setCell (.inl (by simp)) _).setCell (.inl (by simp)) _)) ?_
   clear hK K
   try simp only [Act.put,Sq.t,Sq.z,Sq.s]
   refine wpAnyL_done (by kernel_rfl) ?_ _
   refine NoPanic.normal ?_
   go_wp2_with fail
   go_meet
   have hkw : Keeps [wd.heap.size] wc ((((((wc.setCell ⟨wd.heap.size,0,none⟩ (.int .i64 hv.gen)).setCell ⟨wd.heap.size,1,none⟩ (.int .i64 hv.state)).setCell ⟨wd.heap.size,2,none⟩ (.int .i64 hv.stamp)).setCell ⟨wd.heap.size,3,none⟩ (.int .i64 hv.thread)).setCell ⟨wd.heap.size,4,none⟩ (.bool hv.doomed)).setCell ⟨wd.heap.size,5,none⟩ (.int .i64 hv.who)) := (((((((Keeps.refl [wd.heap.size] wc).setCell (.inl (by simp)) _).setCell (.inl (by simp)) _).setCell (.inl (by simp)) _).setCell (.inl (by simp)) _).setCell (.inl (by simp)) _).setCell (.inl (by simp)) _)
   have kG : Keeps G wd wc := ((hkB.drew.alloc _).mono (by simp)).trans hk1 (fun q hq => .inl hq)
   exact ⟨wd.heap.size,G',rfl,Nat.le_refl _,hnq,hp1.away hkw (fun z hz => by simp at hz; subst hz; exact ⟨HW0.out,hnq,fun t ht => by rw [HZ.out.tyOf] at ht; injection ht with ht; subst ht; decide⟩),kG.trans hkw (fun z hz => .inr (by simp at hz; omega)),fun z hz => (hn1 z hz).imp id (fun h => Nat.le_trans (Nat.le_succ wd.heap.size) (by simp at h; exact h)),(((((HZ.out.set_ 0 (.int .i64 hv.gen)).set_ 1 (.int .i64 hv.state)).set_ 2 (.int .i64 hv.stamp)).set_ 3 (.int .i64 hv.thread)).set_ 4 (.bool hv.doomed)).set_ 5 (.int .i64 hv.who)⟩
 case rest =>
  obtain ⟨q,G',rfl,hq,hqG,hp1,hk1,hn1,hbq⟩ := hcut
  obtain ⟨wa,hwa⟩ : ∃ v,v = wc := ⟨_,rfl⟩
  subst hwa
  have hb1 := HB.out.1.keeps hk1 HB.out.2.1
  rw [HCN.out] at hb1
  have m5 : wa.cell? ⟨b,5,none⟩ = some (.int .i64 (-1)) := (hb1.cell 5).trans rfl
  have f5 := hb1.frozen 5
  have m6 : wa.cell? ⟨b,6,none⟩ = some (.int .i64 g0) := (hb1.cell 6).trans rfl
  have f6 := hb1.frozen 6
  have m7 : wa.cell? ⟨b,7,none⟩ = some (.int .i64 g1) := (hb1.cell 7).trans rfl
  have f7 := hb1.frozen 7
  have m8 : wa.cell? ⟨b,8,none⟩ = some (.int .i64 g2) := (hb1.cell 8).trans rfl
  have f8 := hb1.frozen 8
  have m9 : wa.cell? ⟨b,9,none⟩ = some (.int .i64 g3) := (hb1.cell 9).trans rfl
  have f9 := hb1.frozen 9
  have m10 : wa.cell? ⟨b,10,none⟩ = some (.bool g4) := (hb1.cell 10).trans rfl
  have f10 := hb1.frozen 10
  have m11 : wa.cell? ⟨b,11,none⟩ = some (.int .i64 g5) := (hb1.cell 11).trans rfl
  have f11 := hb1.frozen 11
  have q0 : wa.cell? ⟨q,0,none⟩ = some (.int .i64 hv.gen) := (hbq.cell 0).trans rfl
  have q1 : wa.cell? ⟨q,1,none⟩ = some (.int .i64 hv.state) := (hbq.cell 1).trans rfl
  have q2 : wa.cell? ⟨q,2,none⟩ = some (.int .i64 hv.stamp) := (hbq.cell 2).trans rfl
  have q3 : wa.cell? ⟨q,3,none⟩ = some (.int .i64 hv.thread) := (hbq.cell 3).trans rfl
  have q4 : wa.cell? ⟨q,4,none⟩ = some (.bool hv.doomed) := (hbq.cell 4).trans rfl
  have q5 : wa.cell? ⟨q,5,none⟩ = some (.int .i64 hv.who) := (hbq.cell 5).trans rfl
  have HB1 := Lib.hid hb1
  have HP1 := Lib.hid hp1
  have HK1 := Lib.hid hk1
  have HN1 := Lib.hid hn1
  have HQ := Lib.hid hbq
  have hqb : q ≠ b := fun e => by have := HB.out.1.lt; omega
  have HBG1 : Hid (b ∉ G') := fun hx => by
   rcases hn1 b hx with h1 | h1
   · exact HB.out.2.1 h1
   · have := HB.out.1.lt; omega
  clear hb1 hp1 hk1 hn1 hbq hqG hq HC HLK hkB
  go_upto_region 7 with fail
  obtain ⟨w7,hw7⟩ : ∃ w7,w7 = (((((((wa.setCell ⟨b,6,none⟩ (.int .i64 hv.gen)).setCell ⟨b,7,none⟩ (.int .i64 hv.state)).setCell ⟨b,8,none⟩ (.int .i64 hv.stamp)).setCell ⟨b,9,none⟩ (.int .i64 hv.thread)).setCell ⟨b,10,none⟩ (.bool hv.doomed)).setCell ⟨b,11,none⟩ (.int .i64 hv.who)).setCell ⟨b,5,none⟩ (.int .i64 0)) := ⟨_,rfl⟩
  rw [← hw7]
  have hkf : Keeps [b] wa w7 := by rw [hw7]; exact (((((((Keeps.refl [b] wa).setCell (.inl (by simp)) _).setCell (.inl (by simp)) _).setCell (.inl (by simp)) _).setCell (.inl (by simp)) _).setCell (.inl (by simp)) _).setCell (.inl (by simp)) _).setCell (.inl (by simp)) _
  have HB7 : Hid (Blk w7 b 135 #[PT y.p,.int .i64 own,.int .u64 s0,.int .u64 s1,.int .i64 sl,.int .i64 0,.int .i64 hv.gen,.int .i64 hv.state,.int .i64 hv.stamp,.int .i64 hv.thread,.bool hv.doomed,.int .i64 hv.who,.int .u64 p0,.int .u64 p1,vv]) := by rw [hw7]; exact (((((((HB1.out).set_ 6 (.int .i64 hv.gen)).set_ 7 (.int .i64 hv.state)).set_ 8 (.int .i64 hv.stamp)).set_ 9 (.int .i64 hv.thread)).set_ 10 (.bool hv.doomed)).set_ 11 (.int .i64 hv.who)).set_ 5 (.int .i64 0)
  have hq7 := HQ.out.keeps hkf (by simpa using hqb)
  have n1 : w7.cell? ⟨q,1,none⟩ = some (.int .i64 hv.state) := (hq7.cell 1).trans rfl
  have n4 : w7.cell? ⟨q,4,none⟩ = some (.bool hv.doomed) := (hq7.cell 4).trans rfl
  have HP7 := Lib.hid (HP1.out.away hkf (fun z hz => by simp at hz; subst hz; exact ⟨HB.out.2.2,HBG1.out,fun t ht => by rw [HB1.out.tyOf] at ht; injection ht with ht; subst ht; decide⟩))
  have HK7 : Hid (Keeps (b :: G) w w7) := ((HKD.out.mono (by simp)).trans HK1.out (fun z hz => .inl (by simp [hz]))).trans hkf (fun z hz => .inl (by simp at hz; simp [hz]))
  have HN7 : Hid (∀ z,z ∈ G' → z ∈ G ∨ w.heap.size ≤ z) := fun z hz => (HN1.out z hz).imp id (fun h => Nat.le_trans HKD.out.size h)
  clear hw7 hq7 hkf hqb m5 f5 m6 f6 m7 f7 m8 f8 m9 f9 m10 f10 m11 f11 q0 q1 q2 q3 q4 q5
  by_cases h1 : hv.state = 2
  ·
   have e1 : (hv.state != 2) = false := by simp [h1]
   rcases Bool.eq_false_or_eq_true hv.doomed with h3 | h3
   ·
    have HBAD : Hid (hv.state ≠ 2 ∨ hv.doomed = true) := .inr h3
    rw [h3] at n4
    clear h1 h3
    go_wp2_with fail
    refine (turn_calls (own := own) (a := sl) (u := 0) HB7.out rfl rfl rfl (by have := HSL.out; omega) (by have := HSL.out; omega)).mono ?_
    rintro e wq ⟨rfl,hbz,hkz⟩
    go_wp2_with fail
    go_ret
    have hp8 := HP7.out.away hkz (fun z hz => by simp at hz; subst hz; exact ⟨HB.out.2.2,HBG1.out,fun t ht => by rw [HB7.out.tyOf] at ht; injection ht with ht; subst ht; decide⟩)
    refine ⟨rfl,G',hp8,?_,HK7.out.trans hkz (fun z hz => .inl (by simp at hz; simp [hz])),HN7.out⟩
    rw [← HRR.out,if_pos HBAD.out]
    exact hbz
   · have HBAD : Hid (¬ (hv.state ≠ 2 ∨ hv.doomed = true)) := by unfold Hid; rw [h3]; simp [h1]
     rw [h3] at n4
     clear h1 h3
     go_wp2_with fail
     go_ret
     refine ⟨rfl,G',HP7.out,?_,HK7.out,HN7.out⟩
     rw [← HRR.out,if_neg HBAD.out]
     exact HB7.out
  ·
   have e1 : (hv.state != 2) = true := by simp [h1]
   have HBAD : Hid (hv.state ≠ 2 ∨ hv.doomed = true) := .inl h1
   clear h1
   go_wp2_with fail
   refine (turn_calls (own := own) (a := sl) (u := 0) HB7.out rfl rfl rfl (by have := HSL.out; omega) (by have := HSL.out; omega)).mono ?_
   rintro e wq ⟨rfl,hbz,hkz⟩
   go_wp2_with fail
   go_ret
   have hp8 := HP7.out.away hkz (fun z hz => by simp at hz; subst hz; exact ⟨HB.out.2.2,HBG1.out,fun t ht => by rw [HB7.out.tyOf] at ht; injection ht with ht; subst ht; decide⟩)
   refine ⟨rfl,G',hp8,?_,HK7.out.trans hkz (fun z hz => .inl (by simp at hz; simp [hz])),HN7.out⟩
   rw [← HRR.out,if_pos HBAD.out]
   exact hbz
end
end Ld
open Go.RowKit
namespace Ld
section
variable {w w' w0 wd : World} {y : Rb} {G : List Nat} {S : Sp} {n b k : Nat} {x : Lk} {vv : Value}
set_option maxRecDepth 100000 in
set_option maxHeartbeats 4000000 in
theorem word0_walk {own sl s0 s1 g0 g1 g2 g3 g5 p0 p1 : Int} {g4 : Bool} (h : RP w0 w y G S) (hf : Fit k S) (hk : k ≤ 1099511627776) (hb : Blk w b 135 #[PT y.p,.int .i64 own,.int .u64 s0,.int .u64 s1,.int .i64 sl,.int .i64 0,.int .i64 g0,.int .i64 g1,.int .i64 g2,.int .i64 g3,.bool g4,.int .i64 g5,.int .u64 p0,.int .u64 p1,vv]) (hb0 : w0.heap.size ≤ b) (hbG : b ∉ G) (hsl : 0 ≤ sl ∧ sl < 8)
 (hd : Calls Tryz.prog 53 #[PT b] w fun e w' => e = .returned (.bool false) ∧ Keeps [] w w') :
 Calls Tryz.prog 50 #[PT b] w fun e w' => e = .returned (.int .i64 1) ∧ ∃ G',RP w0 w' y G' (S.word sl 0).2 ∧ Blk w' b 135 #[PT y.p,.int .i64 own,.int .u64 s0,.int .u64 s1,.int .i64 sl,.int .i64 1,.int .i64 g0,.int .i64 g1,.int .i64 g2,.int .i64 g3,.bool g4,.int .i64 g5,.int .u64 (S.word sl 0).1.1,.int .u64 p1,vv] ∧ Keeps (b :: G) w w' ∧ (∀ z,z ∈ G' → z ∈ G ∨ w.heap.size ≤ z) := by
 have HD := Lib.hid hd
 have HR := Lib.hid h
 have HBB := Lib.hid hb
 obtain ⟨v,hv⟩ : ∃ v,(S.word sl 0).1.1 = v := ⟨_,rfl⟩
 obtain ⟨er,her⟩ : ∃ v,(S.word sl 0).1.2 = v := ⟨_,rfl⟩
 obtain ⟨S',hS'⟩ : ∃ v,(S.word sl 0).2 = v := ⟨_,rfl⟩
 have HLK0 : Hid (∀ w',Keeps [] w w' → Calls Tryz.prog 118 #[PT y.t,.int .i64 sl,.int .i64 0] w' fun e w'' => e = .returned (.tuple #[.int .u64 v,.int .i64 er]) ∧ RWent w0 w' w'' y G S') := fun w' hk' => (rp_word (h.calm hk') hf hk sl 0).mono fun e w'' ⟨he,h2⟩ => ⟨by rw [he,hv,her],by rw [← hS']; exact h2⟩
 rw [hv,hS']
 have HBG := Lib.hid (And.intro hbG hb0)
 have HSL := Lib.hid hsl
 clear h hf hk hb hb0 hbG hd hv her hS' hsl
 go_enter Tryz.func50,Tryz.ntmps50
 go_wp2_with fail
 refine HD.out.mono ?_
 rintro e wd ⟨rfl,hkd⟩
 have hbd := HBB.out.keeps hkd (by simp)
 have hpd := HR.out.calm hkd
 have c5 : wd.cell? ⟨b,5,none⟩ = some (.int .i64 0) := (hbd.cell 5).trans rfl
 have HC := Lib.hid (show ∀ w',Keeps [] wd w' → w'.cell? ⟨b,0,none⟩ = some (PT y.p) ∧ w'.cell? ⟨y.p,9,none⟩ = some (PT y.t) ∧ w'.cell? ⟨b,4,none⟩ = some (.int .i64 sl) ∧ w'.cell? ⟨b,5,none⟩ = some (.int .i64 0) from fun w' hk => ⟨((hbd.keeps hk (by simp)).cell 0).trans rfl,(hpd.calm hk).cells.2.2.2.2.2.2,((hbd.keeps hk (by simp)).cell 4).trans rfl,((hbd.keeps hk (by simp)).cell 5).trans rfl⟩)
 have QP : Hid (∀ w',Keeps [] wd w' → Calls Tryz.prog 118 #[PT y.t,.int .i64 sl,.int .i64 0] w' fun e w'' => e = .returned (.tuple #[.int .u64 v,.int .i64 er]) ∧ RWent w0 w' w'' y G S' ∧ Keeps G wd w'') := fun w' hk' => (HLK0.out w' (hkd.trans hk' (by simp))).mono fun e w'' ⟨he,h2⟩ => ⟨he,h2,by obtain ⟨F',_,h3,_⟩ := h2; exact (hk'.mono (by simp)).trans h3 (fun q hq => .inl hq)⟩
 have hkB : Keeps [] wd wd := Keeps.refl _ _
 have HB := Lib.hid (And.intro hbd HBG.out)
 have HKD := Lib.hid hkd
 clear hbd hpd hkd
 go_upto_region 10 with fail
 go_region_held3 (fun w' => w'.cell? ⟨b,0,none⟩ = some (PT y.p) ∧ w'.cell? ⟨y.p,9,none⟩ = some (PT y.t) ∧ w'.cell? ⟨b,4,none⟩ = some (.int .i64 sl) ∧ w'.cell? ⟨b,5,none⟩ = some (.int .i64 0)) (first | with_reducible exact HC.out _ (by first | with_reducible assumption | with_reducible exact Keeps.drew (by with_reducible assumption) | with_reducible exact Keeps.alloc (by with_reducible assumption) _ | with_reducible exact Keeps.drew (Keeps.alloc (by with_reducible assumption) _) | with_reducible exact Keeps.alloc (Keeps.drew (by with_reducible assumption)) _) | with_reducible exact d5 | go_keep) ((go_at_call 118; refine (QP.out _ (by first | with_reducible assumption | with_reducible exact Keeps.drew (by with_reducible assumption) | with_reducible exact Keeps.alloc (by with_reducible assumption) _ | with_reducible exact Keeps.drew (Keeps.alloc (by with_reducible assumption) _) | with_reducible exact Keeps.alloc (Keeps.drew (by with_reducible assumption)) _)).mono ?_; rintro e w4 ⟨rfl,hW,hk4⟩; obtain ⟨G',hG1,hG2,hG3⟩ := id hW; have hb4 := HB.out.1.keeps hk4 HB.out.2.1; have d5 : w4.cell? ⟨b,0,none⟩ = some (PT y.p) ∧ w4.cell? ⟨y.p,9,none⟩ = some (PT y.t) ∧ w4.cell? ⟨b,4,none⟩ = some (.int .i64 sl) ∧ w4.cell? ⟨b,5,none⟩ = some (.int .i64 0) := ⟨(hb4.cell 0).trans rfl,hG1.cells.2.2.2.2.2.2,(hb4.cell 4).trans rfl,(hb4.cell 5).trans rfl⟩; have HB4 := Lib.hid hb4; have HG4 := Lib.hid (And.intro hG1 hG3); have HK4 := Lib.hid hk4; clear hW hG1 hG2 hG3 hb4 hk4))
 go_upto_region 11 with fail
 refine wp_region_tail_q 9 (by kernel_rfl) (by kernel_rfl) ?_
 have m5 : w4.cell? ⟨b,5,none⟩ = some (.int .i64 0) := (HB4.out.cell 5).trans rfl
 simp only [List.take_succ_cons,List.take_zero,List.drop_succ_cons,List.drop_zero]
 repeat (go_big_quiet_step (fail))
 refine wpQuiet_nil ?_
 change wpList _ _ _ _ _ w4.drew
 clear m5
 have hkd4 := (Keeps.refl [] w4).drew
 have HB5 := Lib.hid (HB4.out.keeps hkd4 (by simp))
 have HP5 := Lib.hid (HG4.out.1.calm hkd4)
 have HK5 := Lib.hid (HK4.out.trans hkd4 (by simp))
 have HN5 := Lib.hid HG4.out.2
 have HBG1 : Hid (b ∉ G') := fun hx => by
  rcases HG4.out.2 b hx with h1 | h1
  · exact HB.out.2.1 h1
  · have := HB.out.1.lt
    have h1 : wd.heap.size ≤ b := h1
    omega
 generalize w4.drew = wq at *
 have m5 : wq.cell? ⟨b,5,none⟩ = some (.int .i64 0) := (HB5.out.cell 5).trans rfl
 have m12 : wq.cell? ⟨b,12,none⟩ = some (.int .u64 p0) := (HB5.out.cell 12).trans rfl
 have f5 := HB5.out.frozen 5
 have f12 := HB5.out.frozen 12
 clear HB4 HG4 HK4 hkd4 HC QP
 go_wp2_with fail
 go_ret
 have hkf : Keeps [b] wq ((wq.setCell ⟨b,12,none⟩ (.int .u64 v)).setCell ⟨b,5,none⟩ (.int .i64 1)) := ((Keeps.refl [b] wq).setCell (.inl (by simp)) _).setCell (.inl (by simp)) _
 exact ⟨rfl,G',HP5.out.away hkf (fun z hz => by simp at hz; subst hz; exact ⟨HB.out.2.2,HBG1.out,fun t ht => by rw [HB5.out.tyOf] at ht; injection ht with ht; subst ht; decide⟩),(HB5.out.set_ 12 (.int .u64 v)).set_ 5 (.int .i64 1),((HKD.out.mono (by simp)).trans HK5.out (fun z hz => .inl (by simp [hz]))).trans hkf (fun z hz => .inl (by simp at hz; simp [hz])),fun z hz => (HN5.out z hz).imp id (fun h => Nat.le_trans HKD.out.size h)⟩
end
end Ld
end Go.Proofs.YtmlnedilbneekaaGreat