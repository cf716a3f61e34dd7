/- Layer 13: the document's commit asks for its own slot. -/
import Derived.Test.YtmlnedilbneekaaGreatCdC
import Derived.Test.YtmlnedilbneekaaGreatSigRAsk
import Derived.Test.YtmlnedilbneekaaGreatLdB
import Derived.Test.YtmlnedilbneekaaGreatMake
set_option linter.unusedVariables false
set_option linter.unusedSimpArgs false
namespace Go.Proofs.YtmlnedilbneekaaGreat
open Go.RowKit Pol
namespace Cd
open Ld Rj
def OW (w0 w w' : World) (y : Rb) (G : List Nat) (n jb b : Nat) (sl ge th st nu at_ : Int) (won : Bool) (e0 : Int) (wv dp : Value) (c : Cf) (d : Int) (sg0 : Sg) (hv : Hd) (S' : Sp) : Prop :=
 ∃ G',RP w0 w' y G' S' ∧ Keeps (b :: jb :: G) w w' ∧ (∀ z,z ∈ G' → z ∈ G ∨ w.heap.size ≤ z) ∧
  (((hv.state ≠ 2 ∨ hv.gen ≠ ge ∨ hv.doomed = true) ∧ Blk w' b 167 #[PT y.p,PT jb,.int .i64 sl,.int .i64 ge,.int .i64 th,.int .i64 st,wv,.int .i64 7,.int .i64 nu,(.pointer none),dp,.int .i64 at_,.int .i64 7,.bool won] ∧ JD w' jb c d) ∨
   (¬ (hv.state ≠ 2 ∨ hv.gen ≠ ge ∨ hv.doomed = true) ∧ ∃ lb,Ld.At w' y n lb (Lk.new n sl sg0) (.slice none 0 0) ∧ w.heap.size ≤ lb ∧ lb ∉ G' ∧
     (((Lk.new n sl sg0).turns ≠ [] ∧ Blk w' b 167 #[PT y.p,PT jb,.int .i64 sl,.int .i64 ge,.int .i64 th,.int .i64 st,wv,.int .i64 3,.int .i64 nu,(PT lb),dp,.int .i64 at_,.int .i64 e0,.bool won] ∧ JD w' jb c d) ∨
      ((Lk.new n sl sg0).turns = [] ∧ ∃ w1,w.heap.size ≤ w1.heap.size ∧ JW w0 w1 w' y jb b lb sl ge th st nu at_ won e0 wv (.slice none 0 0) dp c d []))))
section
variable {w w' w0 wd : World} {y : Rb} {G : List Nat} {S : Sp} {n b k jb : Nat} {sl ge th st sg nu at_ e0 : Int} {won : Bool} {wv lp dp vv : Value} {c : Cf} {d : Int} {cs : Array Value}
theorem headS {wc : World} {G' : List Nat} {S' : Sp} {Q : Nat} (hb1 : Blk wc b 167 cs) (hp1 : RP w0 wc y G' S') (hcs : cs[0]? = some (PT y.p) ∧ cs[2]? = some (.int .i64 sl)) (hbQ : b ≠ Q) (h0 : w0.heap.size ≤ Q) (hQ : Q ∉ G') (ht : ∀ t,tyOf wc Q = some t → t ∉ rpFix) : ∀ w',Keeps [Q] wc w' → w'.cell? ⟨b,0,none⟩ = some (PT y.p) ∧ w'.cell? ⟨y.p,9,none⟩ = some (PT y.t) ∧ w'.cell? ⟨b,2,none⟩ = some (.int .i64 sl) := fun w' hk => ⟨((hb1.keeps hk (by simpa using hbQ)).cell 0).trans hcs.1,(hp1.away hk (fun z hz => by simp at hz; subst hz; exact ⟨h0,hQ,ht⟩)).cells.2.2.2.2.2.2,((hb1.keeps hk (by simpa using hbQ)).cell 2).trans hcs.2⟩
set_option maxRecDepth 100000 in
set_option maxHeartbeats 4000000 in
theorem own_walk {ws : List Pr} {m g cw : Nat} (h : RP w0 w y G S) (hf : Fit k S) (hk : k ≤ 1099511627776) (hn : S.c.slots = (n : Int)) (n8 : n ≤ 8) (hcc : S.c = c) (hc : c.ok) (hb : Blk w b 167 #[PT y.p,PT jb,.int .i64 sl,.int .i64 ge,.int .i64 th,.int .i64 st,.slice (some ⟨g,0,none⟩) m cw,.int .i64 2,.int .i64 nu,(.pointer none),dp,.int .i64 at_,.int .i64 e0,.bool won]) (hb0 : w0.heap.size ≤ b) (hbG : b ∉ G) (hw : w.ownsRow 0 81 2 (.slice (some ⟨g,0,none⟩) m cw) m (prCells ws)) (hm : ws.length = m) (h16 : m ≤ 16) (hgG : g ∉ G) (hj : JD w jb c d) (hjG : jb ∉ G) (hj0 : w0.heap.size ≤ jb) (hd0 : 0 ≤ d) (hd1 : d ≤ 64) (hsl : 0 ≤ sl ∧ sl < (n : Int)) (ht : 1 ≤ th ∧ th ≤ 8) :
 Calls Tryz.prog 74 #[PT b] w fun e w' => e = .returned (.tuple #[]) ∧ OW w0 w w' y G n jb b sl ge th st nu at_ won e0 (.slice (some ⟨g,0,none⟩) m cw) dp c d (ofR c.bits (ws.map Pr.cell)) (S.look sl).1.1 (S.look sl).2 := by
 obtain ⟨cs,hcs⟩ : ∃ cs,cs = #[PT y.p,PT jb,.int .i64 sl,.int .i64 ge,.int .i64 th,.int .i64 st,.slice (some ⟨g,0,none⟩) m cw,.int .i64 2,.int .i64 nu,(.pointer none),dp,.int .i64 at_,.int .i64 e0,.bool won] := ⟨_,rfl⟩
 have HCS : Hid (cs[0]? = some (PT y.p) ∧ cs[2]? = some (.int .i64 sl)) := by rw [hcs]; exact ⟨rfl,rfl⟩
 have HBB := Lib.hid hb
 have hlk : ∀ w',Keeps [] w w' → Calls Tryz.prog 117 #[PT y.t,.int .i64 sl] w' fun e w'' => e = .returned (.tuple #[(S.look sl).1.1.val,.int .i64 (S.look sl).1.2]) ∧ RWent w0 w' w'' y G (S.look sl).2 := fun w' hk' => rp_look (h.calm hk') hf hk sl
 obtain ⟨sg0,hsg0⟩ : ∃ v,ofR c.bits (ws.map Pr.cell) = v := ⟨_,rfl⟩
 rw [hsg0]
 have HSG0 := Lib.hid hsg0
 have hSc : (S.look sl).2.c = S.c := by unfold Sp.look; split <;> rfl
 have hfit := hf.look sl
 obtain ⟨hv,hhv⟩ : ∃ v,(S.look sl).1.1 = v := ⟨_,rfl⟩
 obtain ⟨er,her⟩ : ∃ v,(S.look sl).1.2 = v := ⟨_,rfl⟩
 obtain ⟨S',hS'⟩ : ∃ v,(S.look sl).2 = v := ⟨_,rfl⟩
 simp only [hhv,her,hS'] at hlk ⊢
 rw [hS'] at hSc hfit
 unfold Hd.val at hlk
 have HLK : Hid (∀ w',Keeps [] w w' → Calls Tryz.prog 117 #[PT y.t,.int .i64 sl] w' fun e w'' => e = .returned (.tuple #[.agg #[.int .i64 hv.gen,.int .i64 hv.state,.int .i64 hv.stamp,.int .i64 hv.thread,.bool hv.doomed,.int .i64 hv.who],.int .i64 er]) ∧ ∃ G',RP w0 w'' y G' S' ∧ Keeps G w' w'' ∧ (∀ z,z ∈ G' → z ∈ G ∨ w'.heap.size ≤ z)) := fun w' hk' => (hlk w' hk').mono fun e w'' ⟨he,G',h2,h3,h4⟩ => ⟨he,G',h2,h3,h4⟩
 have hbj : b ≠ jb := hb.ne_ hj (by decide)
 have HBJ := Lib.hid hbj
 have HSC := Lib.hid (And.intro (hSc.trans hcc) (And.intro hn (And.intro n8 (And.intro hc hcc))))
 have HWS := Lib.hid (And.intro hw (And.intro hm (And.intro h16 hgG)))
 have HJ := Lib.hid (And.intro hj (And.intro hjG hj0))
 have HDD := Lib.hid (And.intro hd0 hd1)
 have HSL := Lib.hid (And.intro hsl ht)
 have hbd := hb
 rw [← hcs] at hbd
 have HC := Lib.hid (show ∀ w',Keeps [] w w' → w'.cell? ⟨b,0,none⟩ = some (PT y.p) ∧ w'.cell? ⟨y.p,9,none⟩ = some (PT y.t) ∧ w'.cell? ⟨b,2,none⟩ = some (.int .i64 sl) from fun w' hk => ⟨((hbd.keeps hk (by simp)).cell 0).trans HCS.out.1,(h.calm hk).cells.2.2.2.2.2.2,((hbd.keeps hk (by simp)).cell 2).trans HCS.out.2⟩)
 have HLT : Hid (∀ x,x ∈ G → x < w.heap.size) := h.lt
 have HW0 : Hid (w0.heap.size ≤ w.heap.size) := h.keep.size
 have hkB : Keeps [] w w := Keeps.refl _ _
 have HB := Lib.hid (And.intro hbd (And.intro hbG hb0))
 have HCN := Lib.hid hcs
 clear hsg0 h hf hk hn n8 hcc hc hb hb0 hbG hw hm h16 hgG hj hjG hj0 hd0 hd1 hsl ht hlk hhv her hS' hSc hfit hbj hbd hcs
 go_enter Tryz.func74,Tryz.ntmps74
 go_upto_region 0 with fail
 go_cut [2] (fun v wx => ∃ (q : Nat) (G' : List Nat),v = PT q ∧ w.heap.size ≤ q ∧ q ∉ G' ∧ RP w0 wx y G' S' ∧ Keeps G w wx ∧ (∀ z,z ∈ G' → z ∈ G ∨ w.heap.size ≤ z) ∧ Blk wx q 115 #[.int .i64 hv.gen,.int .i64 hv.state,.int .i64 hv.stamp,.int .i64 hv.thread,.bool hv.doomed,.int .i64 hv.who])
 case first =>
  refine wp_region_noPanic ?_
  refine wp_region_L 99 (fun w' => w'.cell? ⟨b,0,none⟩ = some (PT y.p) ∧ w'.cell? ⟨y.p,9,none⟩ = some (PT y.t) ∧ w'.cell? ⟨b,2,none⟩ = some (.int .i64 sl)) (by kernel_rfl) ?_
  have hHeld := HC.out _ hkB.drew
  refine Sq.kT (i := 0) (v := ?rvo0) rfl ?ryo0 hHeld ?rro0
  case ryo0 => (intro w' hSw; (try dsimp only at hSw); go_simp; first | done | with_reducible rfl)
  try simp only [Act.put,Sq.t,Sq.z,Sq.s]
  refine Sq.kT (i := 1) (v := ?rvo1) rfl ?ryo1 hHeld ?rro1
  case ryo1 => (intro w' hSw; (try dsimp only at hSw); go_simp; first | done | with_reducible rfl)
  try simp only [Act.put,Sq.t,Sq.z,Sq.s]
  refine Sq.kT (i := 2) (v := ?rvo2) rfl ?ryo2 hHeld ?rro2
  case ryo2 => (intro w' hSw; (try dsimp only at hSw); go_simp; first | done | with_reducible rfl)
  try simp only [Act.put,Sq.t,Sq.z,Sq.s]
  refine Sq.kT (i := 3) (v := ?rvo3) rfl ?ryo3 hHeld ?rro3
  case ryo3 => (intro w' hSw; (try dsimp only at hSw); go_simp; first | done | with_reducible rfl)
  try simp only [Act.put,Sq.t,Sq.z,Sq.s]
  refine Sq.kT (i := 4) (v := ?rvo4) rfl ?ryo4 hHeld ?rro4
  case ryo4 => (intro w' hSw; (try dsimp only at hSw); go_simp; first | done | with_reducible rfl)
  try simp only [Act.put,Sq.t,Sq.z,Sq.s]
  refine Sq.kT (i := 5) (v := ?rvo5) rfl ?ryo5 hHeld ?rro5
  case ryo5 => (intro w' hSw; (try dsimp only at hSw); go_simp; first | done | with_reducible rfl)
  try simp only [Act.put,Sq.t,Sq.z,Sq.s]
  refine Sq.kT (i := 6) (v := ?rvo6) rfl ?ryo6 hHeld ?rro6
  case ryo6 => (intro w' hSw; (try dsimp only at hSw); go_simp; first | done | with_reducible rfl)
  try simp only [Act.put,Sq.t,Sq.z,Sq.s]
  refine Sq.kT (i := 7) (v := ?rvo7) rfl ?ryo7 hHeld ?rro7
  case ryo7 => (intro w' hSw; (try dsimp only at hSw); go_simp; first | done | with_reducible rfl)
  try simp only [Act.put,Sq.t,Sq.z,Sq.s]
  refine Sq.kT (i := 8) (v := ?rvo8) rfl ?ryo8 hHeld ?rro8
  case ryo8 => (intro w' hSw; (try dsimp only at hSw); go_simp; first | done | with_reducible rfl)
  try simp only [Act.put,Sq.t,Sq.z,Sq.s]
  refine Sq.kT (i := 9) (v := ?rvo9) rfl ?ryo9 hHeld ?rro9
  case ryo9 => (intro w' hSw; (try dsimp only at hSw); go_simp; first | done | with_reducible rfl)
  try simp only [Act.put,Sq.t,Sq.z,Sq.s]
  refine Sq.kT (i := 10) (v := ?rvo10) rfl ?ryo10 hHeld ?rro10
  case ryo10 => (intro w' hSw; (try dsimp only at hSw); go_simp; first | done | with_reducible rfl)
  try simp only [Act.put,Sq.t,Sq.z,Sq.s]
  refine wpAnyL_twoT (i := 11) (j := 15) (by kernel_rfl) rfl rfl (fun K hK => ?_) (fun K hK => ?_)
  ·
   go_simp
   go_at_call 117
   refine (HLK.out _ (hkB.drew)).mono ?_
   rintro e wc ⟨rfl,G',hp1,hk1,hn1⟩
   go_simp
   have hb1 : Blk wc b 167 cs := (HB.out.1.keeps (hkB.drew) (by simp)).keeps hk1 HB.out.2.1
   have hS1 : wc.cell? ⟨b,0,none⟩ = some (PT y.p) ∧ wc.cell? ⟨y.p,9,none⟩ = some (PT y.t) ∧ wc.cell? ⟨b,2,none⟩ = some (.int .i64 sl) := ⟨(hb1.cell 0).trans HCS.out.1,hp1.cells.2.2.2.2.2.2,(hb1.cell 2).trans HCS.out.2⟩
   refine hK.out _ _ (fun _ => hS1) ?_
   clear hK K
   try simp only [Act.put,Sq.t,Sq.z,Sq.s]
   replace hHeld := hS1
   refine Sq.kT (i := 12) (v := ?rvoa12) rfl ?ryoa12 hHeld ?rroa12
   case ryoa12 => (intro w' hSw; (try dsimp only at hSw); go_simp; first | done | with_reducible rfl)
   try simp only [Act.put,Sq.t,Sq.z,Sq.s]
   refine Sq.kT (i := 13) (v := ?rvoa13) rfl ?ryoa13 hHeld ?rroa13
   case ryoa13 => (intro w' hSw; (try dsimp only at hSw); go_simp; first | done | with_reducible rfl)
   try simp only [Act.put,Sq.t,Sq.z,Sq.s]
   refine Sq.kT (i := 14) (v := ?rvoa14) rfl ?ryoa14 hHeld ?rroa14
   case ryoa14 => (intro w' hSw; (try dsimp only at hSw); go_simp; first | done | with_reducible rfl)
   try simp only [Act.put,Sq.t,Sq.z,Sq.s]
   refine Sq.oT (i := 15) rfl fun K hK => ?_
   go_simp
   have hS2 := headS (Q := wc.heap.size) hb1 hp1 HCS.out (Nat.ne_of_lt hb1.lt) hp1.keep.size (fun hx => Nat.lt_irrefl _ (hp1.lt _ hx)) (fun t ht => absurd (tyOf_lt ht) (Nat.lt_irrefl _))
   refine hK.out _ _ (fun _ => hS2 _ (Sq.r.alloc _)) ?_
   clear hK K
   try simp only [Act.put,Sq.t,Sq.z,Sq.s]
   refine Sq.oT (i := 16) rfl fun K hK => ?_
   go_simp
   refine hK.out _ _ (fun _ => by first | exact hS2 _ (Sq.r.alloc _) | exact hS2 _ ((((((((Sq.r.alloc _).setCell (.inl (by simp)) _).setCell (.inl (by simp)) _).setCell (.inl (by simp)) _).setCell (.inl (by simp)) _).setCell (.inl (by simp)) _).setCell (.inl (by simp)) _))) ?_
   clear hK K
   try simp only [Act.put,Sq.t,Sq.z,Sq.s]
   refine Sq.oT (i := 17) rfl fun K hK => ?_
   go_simp
   refine hK.out _ _ (fun _ => by first | exact hS2 _ (Sq.r.alloc _) | exact hS2 _ ((((((((Sq.r.alloc _).setCell (.inl (by simp)) _).setCell (.inl (by simp)) _).setCell (.inl (by simp)) _).setCell (.inl (by simp)) _).setCell (.inl (by simp)) _).setCell (.inl (by simp)) _))) ?_
   clear hK K
   try simp only [Act.put,Sq.t,Sq.z,Sq.s]
   refine wpAnyL_done (by kernel_rfl) ?_ _
   refine NoPanic.normal ?_
   go_wp2_with fail
   go_meet
   exact ⟨wc.heap.size,G',rfl,hk1.size,fun hx => Nat.lt_irrefl _ (hp1.lt _ hx),hp1.calm ((Keeps.refl [] wc).alloc _),(((hkB.drew).mono (by simp)).trans hk1 (fun q hq => .inl hq)).alloc _,hn1,Blk.new wc 115 #[.int .i64 hv.gen,.int .i64 hv.state,.int .i64 hv.stamp,.int .i64 hv.thread,.bool hv.doomed,.int .i64 hv.who]⟩
  ·
   go_simp
   refine hK.out _ _ (fun _ => HC.out _ ((hkB.drew).alloc _)) ?_
   clear hK K
   try simp only [Act.put,Sq.t,Sq.z,Sq.s]
   refine Sq.oT (i := 11) rfl fun K hK => ?_
   go_simp
   go_at_call 117
   refine (HLK.out _ (hkB.drew.alloc _)).mono ?_
   rintro e wc ⟨rfl,G',hp1,hk1,hn1⟩
   go_simp
   have hb1 : Blk wc b 167 cs := (HB.out.1.keeps (hkB.drew.alloc _) (by simp)).keeps hk1 HB.out.2.1
   have hS1 : wc.cell? ⟨b,0,none⟩ = some (PT y.p) ∧ wc.cell? ⟨y.p,9,none⟩ = some (PT y.t) ∧ wc.cell? ⟨b,2,none⟩ = some (.int .i64 sl) := ⟨(hb1.cell 0).trans HCS.out.1,hp1.cells.2.2.2.2.2.2,(hb1.cell 2).trans HCS.out.2⟩
   refine hK.out _ _ (fun _ => hS1) ?_
   clear hK K
   try simp only [Act.put,Sq.t,Sq.z,Sq.s]
   replace hHeld := hS1
   have hz : Blk wc w.heap.size 115 #[.int .i64 0,.int .i64 0,.int .i64 0,.int .i64 0,.bool false,.int .i64 0] := (Blk.new w.drew 115 #[.int .i64 0,.int .i64 0,.int .i64 0,.int .i64 0,.bool false,.int .i64 0]).keeps hk1 (fun hx => Nat.lt_irrefl w.heap.size (HLT.out _ hx))
   have z0 : wc.cell? ⟨w.heap.size,0,none⟩ = some (.int .i64 0) := (hz.cell 0).trans rfl
   have y0 := hz.frozen 0
   have z1 : wc.cell? ⟨w.heap.size,1,none⟩ = some (.int .i64 0) := (hz.cell 1).trans rfl
   have y1 := hz.frozen 1
   have z2 : wc.cell? ⟨w.heap.size,2,none⟩ = some (.int .i64 0) := (hz.cell 2).trans rfl
   have y2 := hz.frozen 2
   have z3 : wc.cell? ⟨w.heap.size,3,none⟩ = some (.int .i64 0) := (hz.cell 3).trans rfl
   have y3 := hz.frozen 3
   have z4 : wc.cell? ⟨w.heap.size,4,none⟩ = some (.bool false) := (hz.cell 4).trans rfl
   have y4 := hz.frozen 4
   have z5 : wc.cell? ⟨w.heap.size,5,none⟩ = some (.int .i64 0) := (hz.cell 5).trans rfl
   have y5 := hz.frozen 5
   have HZ := Lib.hid hz
   clear hz
   refine Sq.kT (i := 12) (v := ?rvob12) rfl ?ryob12 hHeld ?rrob12
   case ryob12 => (intro w' hSw; (try dsimp only at hSw); go_simp; first | done | with_reducible rfl)
   try simp only [Act.put,Sq.t,Sq.z,Sq.s]
   refine Sq.kT (i := 13) (v := ?rvob13) rfl ?ryob13 hHeld ?rrob13
   case ryob13 => (intro w' hSw; (try dsimp only at hSw); go_simp; first | done | with_reducible rfl)
   try simp only [Act.put,Sq.t,Sq.z,Sq.s]
   refine Sq.kT (i := 14) (v := ?rvob14) rfl ?ryob14 hHeld ?rrob14
   case ryob14 => (intro w' hSw; (try dsimp only at hSw); go_simp; first | done | with_reducible rfl)
   try simp only [Act.put,Sq.t,Sq.z,Sq.s]
   refine Sq.oT (i := 16) rfl fun K hK => ?_
   go_simp
   have hnq : w.heap.size ∉ G' := fun hx => (hn1 _ hx).elim (fun h => Nat.lt_irrefl _ (HLT.out _ h)) (fun h => absurd (show w.heap.size + 1 ≤ w.heap.size by simp at h; exact h) (Nat.not_succ_le_self _))
   have hS2 := headS (Q := w.heap.size) hb1 hp1 HCS.out (Nat.ne_of_lt HB.out.1.lt) HW0.out hnq (fun t ht => by rw [HZ.out.tyOf] at ht; injection ht with ht; subst ht; decide)
   refine hK.out _ _ (fun _ => hS2 _ ((((((Sq.r.setCell (.inl (by simp)) _).setCell (.inl (by simp)) _).setCell (.inl (by simp)) _).setCell (.inl (by simp)) _).setCell (.inl (by simp)) _).setCell (.inl (by simp)) _)) ?_
   clear hK K
   try simp only [Act.put,Sq.t,Sq.z,Sq.s]
   refine Sq.oT (i := 17) rfl fun K hK => ?_
   go_simp
   refine hK.out _ _ (fun _ => hS2 _ ((((((Sq.r.setCell (.inl (by simp)) _).setCell (.inl (by simp)) _).setCell (.inl (by simp)) _).setCell (.inl (by simp)) _).setCell (.inl (by simp)) _).setCell (.inl (by simp)) _)) ?_
   clear hK K
   try simp only [Act.put,Sq.t,Sq.z,Sq.s]
   refine wpAnyL_done (by kernel_rfl) ?_ _
   refine NoPanic.normal ?_
   go_wp2_with fail
   go_meet
   have hkw : Keeps [w.heap.size] wc ((((((wc.setCell ⟨w.heap.size,0,none⟩ (.int .i64 hv.gen)).setCell ⟨w.heap.size,1,none⟩ (.int .i64 hv.state)).setCell ⟨w.heap.size,2,none⟩ (.int .i64 hv.stamp)).setCell ⟨w.heap.size,3,none⟩ (.int .i64 hv.thread)).setCell ⟨w.heap.size,4,none⟩ (.bool hv.doomed)).setCell ⟨w.heap.size,5,none⟩ (.int .i64 hv.who)) := ((((((Sq.r.setCell (.inl (by simp)) _).setCell (.inl (by simp)) _).setCell (.inl (by simp)) _).setCell (.inl (by simp)) _).setCell (.inl (by simp)) _).setCell (.inl (by simp)) _)
   have kG : Keeps G w wc := ((hkB.drew.alloc _).mono (by simp)).trans hk1 (fun q hq => .inl hq)
   exact ⟨w.heap.size,G',rfl,Nat.le_refl _,hnq,hp1.away hkw (fun z hz => by simp at hz; subst hz; exact ⟨HW0.out,hnq,fun t ht => by rw [HZ.out.tyOf] at ht; injection ht with ht; subst ht; decide⟩),kG.trans hkw (fun z hz => .inr (by simp at hz; omega)),fun z hz => (hn1 z hz).imp id (fun h => Nat.le_trans (Nat.le_succ w.heap.size) (by simp at h; exact h)),(((((HZ.out.set_ 0 (.int .i64 hv.gen)).set_ 1 (.int .i64 hv.state)).set_ 2 (.int .i64 hv.stamp)).set_ 3 (.int .i64 hv.thread)).set_ 4 (.bool hv.doomed)).set_ 5 (.int .i64 hv.who)⟩
 case rest =>
  obtain ⟨q,G',rfl,hq,hqG,hp1,hk1,hn1,hbq⟩ := hcut
  obtain ⟨wa,hwa⟩ : ∃ v,v = wc := ⟨_,rfl⟩
  subst hwa
  have hb1 := HB.out.1.keeps hk1 HB.out.2.1
  rw [HCN.out] at hb1
  have HB1 := Lib.hid hb1
  have HP1 := Lib.hid hp1
  have HK1 := Lib.hid hk1
  have HN1 := Lib.hid hn1
  have HJ1 := Lib.hid (Blk.keeps HJ.out.1 hk1 HJ.out.2.1)
  have HW1 := Lib.hid (own_keeps HWS.out.1 hk1 (fun u hu hx => by simp [Value.ownBlock] at hu; subst hu; exact HWS.out.2.2.2 hx))
  have HBG1 : Hid (b ∉ G') := fun hx => by
   rcases hn1 b hx with h1 | h1
   · exact HB.out.2.1 h1
   · have := HB.out.1.lt; omega
  have HJG1 : Hid (jb ∉ G') := fun hx => by
   rcases hn1 jb hx with h1 | h1
   · exact HJ.out.2.1 h1
   · have := HJ.out.1.lt; omega
  have q0 : wa.cell? ⟨q,0,none⟩ = some (.int .i64 hv.gen) := (hbq.cell 0).trans rfl
  have q1 : wa.cell? ⟨q,1,none⟩ = some (.int .i64 hv.state) := (hbq.cell 1).trans rfl
  have q4 : wa.cell? ⟨q,4,none⟩ = some (.bool hv.doomed) := (hbq.cell 4).trans rfl
  have m3 : wa.cell? ⟨b,3,none⟩ = some (.int .i64 ge) := (hb1.cell 3).trans rfl
  have m7 : wa.cell? ⟨b,7,none⟩ = some (.int .i64 2) := (hb1.cell 7).trans rfl
  have m12 : wa.cell? ⟨b,12,none⟩ = some (.int .i64 e0) := (hb1.cell 12).trans rfl
  have f7 := hb1.frozen 7
  have f12 := hb1.frozen 12
  clear hb1 hp1 hk1 hn1 hbq hqG hq HC HLK hkB HCN HCS
  by_cases h1 : hv.state = 2
  ·
   have e1 : (hv.state != 2) = false := by simp [h1]
   by_cases h2 : hv.gen = ge
   ·
    have e2 : (hv.gen != ge) = false := by simp [h2]
    have h2' : (ge != ge) = false := by simp
    rcases Bool.eq_false_or_eq_true hv.doomed with h3 | h3
    ·
     rw [h3] at q4
     have HBAD : Hid (hv.state ≠ 2 ∨ hv.gen ≠ ge ∨ hv.doomed = true) := .inr (.inr h3)
     clear h1 h2 h3
     go_upto_region 1 with fail
     go_quiet (fail)
     go_wp2_with fail
     go_returns
     have hd : ∀ i,Keeps [b] wa (((wa.drewN i).setCell ⟨b,12,none⟩ (.int .i64 7)).setCell ⟨b,7,none⟩ (.int .i64 7)) := fun i => (((Keeps.refl [b] wa).drewN i).setCell (.inl (by simp)) _).setCell (.inl (by simp)) _
     have hb9 : ∀ i,Blk (((wa.drewN i).setCell ⟨b,12,none⟩ (.int .i64 7)).setCell ⟨b,7,none⟩ (.int .i64 7)) b 167 #[PT y.p,PT jb,.int .i64 sl,.int .i64 ge,.int .i64 th,.int .i64 st,.slice (some ⟨g,0,none⟩) m cw,.int .i64 7,.int .i64 nu,(.pointer none),dp,.int .i64 at_,.int .i64 7,.bool won] := fun i => ((HB1.out.drewN i).set_ 12 (.int .i64 7)).set_ 7 (.int .i64 7)
     have hp9 : ∀ i,RP w0 (((wa.drewN i).setCell ⟨b,12,none⟩ (.int .i64 7)).setCell ⟨b,7,none⟩ (.int .i64 7)) y G' S' := fun i => HP1.out.away (hd i) (fun z hz => by simp at hz; subst hz; exact ⟨HB.out.2.2,HBG1.out,fun t ht => by rw [HB1.out.tyOf] at ht; injection ht with ht; subst ht; decide⟩)
     have hj9 := fun i => Blk.keeps HJ1.out (hd i) (by simp; exact HBJ.out.symm)
     have hkk := fun i => (HK1.out.mono (T := b :: jb :: G) (fun z hz => .inl (by simp [hz]))).trans (hd i) (fun z hz => .inl (by simp at hz; simp [hz]))
     exact ⟨rfl,G',hp9 _,hkk _,HN1.out,.inl ⟨HBAD.out,hb9 _,hj9 _⟩⟩
    ·
     rw [h3] at q4
     have HGOOD : Hid (¬ (hv.state ≠ 2 ∨ hv.gen ≠ ge ∨ hv.doomed = true)) := fun hx => by
      rcases hx with hx | hx | hx
      · exact hx h1
      · exact hx h2
      · rw [h3] at hx; cases hx
     clear h1 h2 h3
     go_upto_region 1 with fail
     go_quiet (fail)
     clear q0 q1 q4 m3 m7 m12 f7 f12
     go_upto_region 4 with fail
     have hkn : Keeps [] wa (wa.drewN nq) := (Keeps.refl [] wa).drewN _
     have HB2 := Lib.hid (HB1.out.keeps hkn (by simp))
     have HP2 := Lib.hid (HP1.out.calm hkn)
     have HK2 := Lib.hid (HK1.out.trans hkn (by simp))
     have HJ2 := Lib.hid (Blk.keeps HJ1.out hkn (by simp))
     have HW2 := Lib.hid (own_keeps HW1.out hkn (by simp))
     clear HB1 HP1 HK1 HJ1 HW1 hkn
     generalize wa.drewN nq = wz at *
     obtain ⟨bits,hbits⟩ : ∃ v,c.bits = v := ⟨_,rfl⟩
     have QCELL : Hid (∀ w',Keeps [] wz w' → Calls Tryz.prog 125 #[.slice (some ⟨g,0,none⟩) m cw] w' fun e w'' => (∃ A cp,e = .returned (.slice A m cp) ∧ Slc w'' A (ws.map Pr.cell)) ∧ Keeps [] wz w'' ∧ Keeps [] w' w'') := fun w' hk => by
      have h5 := cells_any w' g cw ws (by rw [HWS.out.2.1]; exact HWS.out.2.2.1) (by rw [HWS.out.2.1]; exact own_keeps HW2.out hk (by simp))
      rw [HWS.out.2.1] at h5
      exact h5.mono fun e w'' ⟨A,cp,he,h6,h7⟩ => ⟨⟨A,cp,he,h6⟩,hk.trans h7 (by simp),h7⟩
     have QOF : Hid (∀ w' A cp,Slc w' A (ws.map Pr.cell) → Keeps [] wz w' → Calls Tryz.prog 124 #[.slice A m cp,.int .i64 bits] w' fun e w'' => e = .returned (.tuple #[.agg #[.int .u64 (sg0.a : Int),.int .u64 (sg0.b : Int)],.int .i64 (ofE (ws.map Pr.cell))]) ∧ Keeps [] wz w'' ∧ Keeps [] w' w'') := fun w' A cp hs hk => by
      have h5 := rof_any w' A cp (ws.map Pr.cell) hs c.bits HSC.out.2.2.2.1.2.2.1.1 HSC.out.2.2.2.1.2.2.1.2
      rw [List.length_map,HWS.out.2.1,HSG0.out,hbits] at h5
      exact h5.mono fun e w'' ⟨he,h6⟩ => ⟨he,hk.trans h6 (by simp),h6⟩
     have HC4 : Hid (∀ w',Keeps [] wz w' → w'.cell? ⟨b,6,none⟩ = some (.slice (some ⟨g,0,none⟩) m cw) ∧ w'.cell? ⟨b,0,none⟩ = some (PT y.p) ∧ w'.cell? ⟨y.p,2,none⟩ = some (.int .i64 bits)) := fun w' hk => ⟨((HB2.out.keeps hk (by simp)).cell 6).trans rfl,((HB2.out.keeps hk (by simp)).cell 0).trans rfl,by have h5 := (HP2.out.calm hk).cells.2.2.1; rw [HSC.out.1,hbits] at h5; exact h5⟩
     have hkC : Keeps [] wz wz := Keeps.refl _ _
     clear hbits
     go_cut [4] (fun v wx => ∃ q2,v = PT q2 ∧ wz.heap.size ≤ q2 ∧ Keeps [] wz wx ∧ Blk wx q2 47 #[.int .u64 (sg0.a : Int),.int .u64 (sg0.b : Int)])
     case first =>
      refine wp_region_noPanic ?_
      refine wp_region_L 99 (fun w' => w'.cell? ⟨b,6,none⟩ = some (.slice (some ⟨g,0,none⟩) m cw) ∧ w'.cell? ⟨b,0,none⟩ = some (PT y.p) ∧ w'.cell? ⟨y.p,2,none⟩ = some (.int .i64 bits)) (by kernel_rfl) ?_
      have hHeld := HC4.out _ hkC.drew
      refine Sq.kT (i := 0) (v := ?rvp0) rfl ?ryp0 hHeld ?rrp0
      case ryp0 => (intro w' hSw; (try dsimp only at hSw); go_simp; first | done | with_reducible rfl)
      try simp only [Act.put,Sq.t,Sq.z,Sq.s]
      refine Sq.kT (i := 1) (v := ?rvp1) rfl ?ryp1 hHeld ?rrp1
      case ryp1 => (intro w' hSw; (try dsimp only at hSw); go_simp; first | done | with_reducible rfl)
      try simp only [Act.put,Sq.t,Sq.z,Sq.s]
      refine Sq.kT (i := 2) (v := ?rvp2) rfl ?ryp2 hHeld ?rrp2
      case ryp2 => (intro w' hSw; (try dsimp only at hSw); go_simp; first | done | with_reducible rfl)
      try simp only [Act.put,Sq.t,Sq.z,Sq.s]
      refine Sq.kT (i := 3) (v := ?rvp3) rfl ?ryp3 hHeld ?rrp3
      case ryp3 => (intro w' hSw; (try dsimp only at hSw); go_simp; first | done | with_reducible rfl)
      try simp only [Act.put,Sq.t,Sq.z,Sq.s]
      refine Sq.kT (i := 5) (v := ?rvp5) rfl ?ryp5 hHeld ?rrp5
      case ryp5 => (intro w' hSw; (try dsimp only at hSw); go_simp; first | done | with_reducible rfl)
      try simp only [Act.put,Sq.t,Sq.z,Sq.s]
      refine Sq.kT (i := 6) (v := ?rvp6) rfl ?ryp6 hHeld ?rrp6
      case ryp6 => (intro w' hSw; (try dsimp only at hSw); go_simp; first | done | with_reducible rfl)
      try simp only [Act.put,Sq.t,Sq.z,Sq.s]
      refine Sq.kT (i := 7) (v := ?rvp7) rfl ?ryp7 hHeld ?rrp7
      case ryp7 => (intro w' hSw; (try dsimp only at hSw); go_simp; first | done | with_reducible rfl)
      try simp only [Act.put,Sq.t,Sq.z,Sq.s]
      refine Sq.kT (i := 8) (v := ?rvp8) rfl ?ryp8 hHeld ?rrp8
      case ryp8 => (intro w' hSw; (try dsimp only at hSw); go_simp; first | done | with_reducible rfl)
      try simp only [Act.put,Sq.t,Sq.z,Sq.s]
      refine Sq.kT (i := 9) (v := ?rvp9) rfl ?ryp9 hHeld ?rrp9
      case ryp9 => (intro w' hSw; (try dsimp only at hSw); go_simp; first | done | with_reducible rfl)
      try simp only [Act.put,Sq.t,Sq.z,Sq.s]
      refine Sq.kT (i := 10) (v := ?rvp10) rfl ?ryp10 hHeld ?rrp10
      case ryp10 => (intro w' hSw; (try dsimp only at hSw); go_simp; first | done | with_reducible rfl)
      try simp only [Act.put,Sq.t,Sq.z,Sq.s]
      refine Sq.kT (i := 11) (v := ?rvp11) rfl ?ryp11 hHeld ?rrp11
      case ryp11 => (intro w' hSw; (try dsimp only at hSw); go_simp; first | done | with_reducible rfl)
      try simp only [Act.put,Sq.t,Sq.z,Sq.s]
      refine Sq.kT (i := 12) (v := ?rvp12) rfl ?ryp12 hHeld ?rrp12
      case ryp12 => (intro w' hSw; (try dsimp only at hSw); go_simp; first | done | with_reducible rfl)
      try simp only [Act.put,Sq.t,Sq.z,Sq.s]
      refine wpAnyL_twoT (i := 4) (j := 17) (by kernel_rfl) rfl rfl (fun K hK => ?_) (fun K hK => ?_)
      ·
       go_simp
       go_at_call 125
       refine (QCELL.out _ (hkC.drew)).mono ?_
       rintro e w5 ⟨⟨A5,cp,rfl,hsl⟩,hk5,hk5b⟩
       go_simp
       refine hK.out _ _ (fun _ => HC4.out _ hk5) ?_
       clear hK K
       try simp only [Act.put,Sq.t,Sq.z,Sq.s]
       replace hHeld := HC4.out _ hk5
       refine wpAnyL_twoT (i := 13) (j := 17) (by kernel_rfl) rfl rfl (fun K hK => ?_) (fun K hK => ?_)
       ·
        go_simp
        go_at_call 124
        refine (QOF.out _ _ _ (hsl) (hk5)).mono ?_
        rintro e w6 ⟨rfl,hk6,hk6b⟩
        go_simp
        refine hK.out _ _ (fun _ => HC4.out _ hk6) ?_
        clear hK K
        try simp only [Act.put,Sq.t,Sq.z,Sq.s]
        replace hHeld := HC4.out _ hk6
        refine Sq.kT (i := 14) (v := ?rvp114) rfl ?ryp114 hHeld ?rrp114
        case ryp114 => (intro w' hSw; (try dsimp only at hSw); go_simp; first | done | with_reducible rfl)
        try simp only [Act.put,Sq.t,Sq.z,Sq.s]
        refine Sq.kT (i := 15) (v := ?rvp115) rfl ?ryp115 hHeld ?rrp115
        case ryp115 => (intro w' hSw; (try dsimp only at hSw); go_simp; first | done | with_reducible rfl)
        try simp only [Act.put,Sq.t,Sq.z,Sq.s]
        refine Sq.kT (i := 16) (v := ?rvp116) rfl ?ryp116 hHeld ?rrp116
        case ryp116 => (intro w' hSw; (try dsimp only at hSw); go_simp; first | done | with_reducible rfl)
        try simp only [Act.put,Sq.t,Sq.z,Sq.s]
        refine Sq.oT (i := 17) rfl fun K hK => ?_
        go_simp
        refine hK.out _ _ (fun _ => HC4.out _ (hk6.alloc _)) ?_
        clear hK K
        try simp only [Act.put,Sq.t,Sq.z,Sq.s]
        refine Sq.oT (i := 18) rfl fun K hK => ?_
        go_simp
        refine hK.out _ _ (fun _ => by first | exact HC4.out _ (hk6.alloc _) | exact HC4.out _ (((hk6.alloc _).setCell (.inr (by simp; exact hk6.size)) _).setCell (.inr (by simp; exact hk6.size)) _)) ?_
        clear hK K
        try simp only [Act.put,Sq.t,Sq.z,Sq.s]
        refine Sq.oT (i := 19) rfl fun K hK => ?_
        go_simp
        refine hK.out _ _ (fun _ => by first | exact HC4.out _ (hk6.alloc _) | exact HC4.out _ (((hk6.alloc _).setCell (.inr (by simp; exact hk6.size)) _).setCell (.inr (by simp; exact hk6.size)) _)) ?_
        clear hK K
        try simp only [Act.put,Sq.t,Sq.z,Sq.s]
        refine wpAnyL_done (by kernel_rfl) ?_ _
        refine NoPanic.normal ?_
        go_wp2_with fail
        go_meet
        exact ⟨w6.heap.size,rfl,hk6.size,hk6.alloc _,Blk.new w6 47 #[.int .u64 (sg0.a : Int),.int .u64 (sg0.b : Int)]⟩
       ·
        go_simp
        refine hK.out _ _ (fun _ => HC4.out _ (hk5.alloc _)) ?_
        clear hK K
        try simp only [Act.put,Sq.t,Sq.z,Sq.s]
        refine Sq.oT (i := 13) rfl fun K hK => ?_
        go_simp
        go_at_call 124
        refine (QOF.out _ _ _ (hsl.keeps ((Keeps.refl [] w5).alloc _)) (hk5.alloc _)).mono ?_
        rintro e w6 ⟨rfl,hk6a,hk6b⟩
        go_simp
        refine hK.out _ _ (fun _ => HC4.out _ hk6a) ?_
        clear hK K
        try simp only [Act.put,Sq.t,Sq.z,Sq.s]
        replace hHeld := HC4.out _ hk6a
        have hz : Blk w6 w5.heap.size 47 #[.int .u64 0,.int .u64 0] := (Blk.new w5 47 #[.int .u64 0,.int .u64 0]).keeps hk6b (by simp)
        have z0 : w6.cell? ⟨w5.heap.size,0,none⟩ = some (.int .u64 0) := (hz.cell 0).trans rfl
        have y0 := hz.frozen 0
        have z1 : w6.cell? ⟨w5.heap.size,1,none⟩ = some (.int .u64 0) := (hz.cell 1).trans rfl
        have y1 := hz.frozen 1
        have HZ := Lib.hid hz
        clear hz
        refine Sq.kT (i := 14) (v := ?rvp214) rfl ?ryp214 hHeld ?rrp214
        case ryp214 => (intro w' hSw; (try dsimp only at hSw); go_simp; first | done | with_reducible rfl)
        try simp only [Act.put,Sq.t,Sq.z,Sq.s]
        refine Sq.kT (i := 15) (v := ?rvp215) rfl ?ryp215 hHeld ?rrp215
        case ryp215 => (intro w' hSw; (try dsimp only at hSw); go_simp; first | done | with_reducible rfl)
        try simp only [Act.put,Sq.t,Sq.z,Sq.s]
        refine Sq.kT (i := 16) (v := ?rvp216) rfl ?ryp216 hHeld ?rrp216
        case ryp216 => (intro w' hSw; (try dsimp only at hSw); go_simp; first | done | with_reducible rfl)
        try simp only [Act.put,Sq.t,Sq.z,Sq.s]
        refine Sq.oT (i := 18) rfl fun K hK => ?_
        go_simp
        refine hK.out _ _ (fun _ => (by first | exact HC4.out _ hk6a | exact HC4.out _ (hk6a.trans (T := [w5.heap.size]) ((Sq.r.setCell (.inl (by simp)) _).setCell (.inl (by simp)) _) (fun z hz => .inr (by simp at hz; subst hz; exact hk5.size))))) ?_
        clear hK K
        try simp only [Act.put,Sq.t,Sq.z,Sq.s]
        refine Sq.oT (i := 19) rfl fun K hK => ?_
        go_simp
        refine hK.out _ _ (fun _ => (by first | exact HC4.out _ hk6a | exact HC4.out _ (hk6a.trans (T := [w5.heap.size]) ((Sq.r.setCell (.inl (by simp)) _).setCell (.inl (by simp)) _) (fun z hz => .inr (by simp at hz; subst hz; exact hk5.size))))) ?_
        clear hK K
        try simp only [Act.put,Sq.t,Sq.z,Sq.s]
        refine wpAnyL_done (by kernel_rfl) ?_ _
        refine NoPanic.normal ?_
        go_wp2_with fail
        go_meet
        have hkz : Keeps [] wz ((w6.setCell ⟨w5.heap.size,0,none⟩ (.int .u64 (sg0.a : Int))).setCell ⟨w5.heap.size,1,none⟩ (.int .u64 (sg0.b : Int))) := hk6a.trans (T := [w5.heap.size]) ((Sq.r.setCell (.inl (by simp)) _).setCell (.inl (by simp)) _) (fun z hz => .inr (by simp at hz; subst hz; exact hk5.size))
        exact ⟨w5.heap.size,rfl,hk5.size,hkz,(HZ.out.set_ 0 (.int .u64 (sg0.a : Int))).set_ 1 (.int .u64 (sg0.b : Int))⟩
      ·
       go_simp
       refine hK.out _ _ (fun _ => HC4.out _ (hkC.drew.alloc _)) ?_
       clear hK K
       try simp only [Act.put,Sq.t,Sq.z,Sq.s]
       refine Sq.oT (i := 4) rfl fun K hK => ?_
       go_simp
       go_at_call 125
       refine (QCELL.out _ (hkC.drew.alloc _)).mono ?_
       rintro e w5 ⟨⟨A5,cp,rfl,hsl⟩,hk5,hk5b⟩
       go_simp
       refine hK.out _ _ (fun _ => HC4.out _ hk5) ?_
       clear hK K
       try simp only [Act.put,Sq.t,Sq.z,Sq.s]
       replace hHeld := HC4.out _ hk5
       refine Sq.oT (i := 13) rfl fun K hK => ?_
       go_simp
       go_at_call 124
       refine (QOF.out _ _ _ (hsl) (hk5)).mono ?_
       rintro e w6 ⟨rfl,hk6,hk6b⟩
       go_simp
       refine hK.out _ _ (fun _ => HC4.out _ hk6) ?_
       clear hK K
       try simp only [Act.put,Sq.t,Sq.z,Sq.s]
       replace hHeld := HC4.out _ hk6
       have hz : Blk w6 wz.heap.size 47 #[.int .u64 0,.int .u64 0] := ((Blk.new wz.drew 47 #[.int .u64 0,.int .u64 0]).keeps hk5b (by simp)).keeps hk6b (by simp)
       have z0 : w6.cell? ⟨wz.heap.size,0,none⟩ = some (.int .u64 0) := (hz.cell 0).trans rfl
       have y0 := hz.frozen 0
       have z1 : w6.cell? ⟨wz.heap.size,1,none⟩ = some (.int .u64 0) := (hz.cell 1).trans rfl
       have y1 := hz.frozen 1
       have HZ := Lib.hid hz
       clear hz
       refine Sq.kT (i := 14) (v := ?rvp314) rfl ?ryp314 hHeld ?rrp314
       case ryp314 => (intro w' hSw; (try dsimp only at hSw); go_simp; first | done | with_reducible rfl)
       try simp only [Act.put,Sq.t,Sq.z,Sq.s]
       refine Sq.kT (i := 15) (v := ?rvp315) rfl ?ryp315 hHeld ?rrp315
       case ryp315 => (intro w' hSw; (try dsimp only at hSw); go_simp; first | done | with_reducible rfl)
       try simp only [Act.put,Sq.t,Sq.z,Sq.s]
       refine Sq.kT (i := 16) (v := ?rvp316) rfl ?ryp316 hHeld ?rrp316
       case ryp316 => (intro w' hSw; (try dsimp only at hSw); go_simp; first | done | with_reducible rfl)
       try simp only [Act.put,Sq.t,Sq.z,Sq.s]
       refine Sq.oT (i := 18) rfl fun K hK => ?_
       go_simp
       refine hK.out _ _ (fun _ => (by first | exact HC4.out _ hk6 | exact HC4.out _ (hk6.trans (T := [wz.heap.size]) ((Sq.r.setCell (.inl (by simp)) _).setCell (.inl (by simp)) _) (fun z hz => .inr (by simp at hz; subst hz; exact (Nat.le_refl _)))))) ?_
       clear hK K
       try simp only [Act.put,Sq.t,Sq.z,Sq.s]
       refine Sq.oT (i := 19) rfl fun K hK => ?_
       go_simp
       refine hK.out _ _ (fun _ => (by first | exact HC4.out _ hk6 | exact HC4.out _ (hk6.trans (T := [wz.heap.size]) ((Sq.r.setCell (.inl (by simp)) _).setCell (.inl (by simp)) _) (fun z hz => .inr (by simp at hz; subst hz; exact (Nat.le_refl _)))))) ?_
       clear hK K
       try simp only [Act.put,Sq.t,Sq.z,Sq.s]
       refine wpAnyL_done (by kernel_rfl) ?_ _
       refine NoPanic.normal ?_
       go_wp2_with fail
       go_meet
       have hkz : Keeps [] wz ((w6.setCell ⟨wz.heap.size,0,none⟩ (.int .u64 (sg0.a : Int))).setCell ⟨wz.heap.size,1,none⟩ (.int .u64 (sg0.b : Int))) := hk6.trans (T := [wz.heap.size]) ((Sq.r.setCell (.inl (by simp)) _).setCell (.inl (by simp)) _) (fun z hz => .inr (by simp at hz; subst hz; exact (Nat.le_refl _)))
       exact ⟨wz.heap.size,rfl,(Nat.le_refl _),hkz,(HZ.out.set_ 0 (.int .u64 (sg0.a : Int))).set_ 1 (.int .u64 (sg0.b : Int))⟩
     case rest =>
      obtain ⟨q2,rfl,hq2,hk2,hbq⟩ := hcut
      obtain ⟨wx,hwx⟩ : ∃ v,v = wc := ⟨_,rfl⟩
      subst hwx
      have HB3 := Lib.hid (HB2.out.keeps hk2 (by simp))
      have HP3 := Lib.hid (HP2.out.calm hk2)
      have HJ3 := Lib.hid (Blk.keeps HJ2.out hk2 (by simp))
      have HK3 := Lib.hid (HK2.out.trans hk2 (by simp))
      have HQ3 := Lib.hid hbq
      clear HC4 QCELL QOF hkC hk2 hbq HB2 HP2 HJ2 HW2
      have QN : Hid (∀ w',Keeps [] wx w' → Calls Tryz.prog 47 #[PT y.p,.int .i64 sl,.agg #[.int .u64 (sg0.a : Int),.int .u64 (sg0.b : Int)]] w' fun e w'' => ∃ lb,e = .returned (.tuple #[PT lb,.int .i64 0]) ∧ Ld.At w'' y n lb (Lk.new n sl sg0) (.slice none 0 0) ∧ wx.heap.size ≤ lb ∧ Keeps [] wx w'') := fun w' hk => by
       have hz := hk.size
       exact (doc_new (HP3.out.calm hk) sl sg0 (by rw [HSC.out.1,← HSC.out.2.2.2.2]; exact HSC.out.2.1) HSC.out.2.2.1 HSL.out.1.1 HSL.out.1.2).mono fun e w'' ⟨b',he,h1,h2,h3⟩ => ⟨b',he,h1,Nat.le_trans hz h2,hk.trans h3 (by simp)⟩
      have HC5 : Hid (∀ w',Keeps [] wx w' → w'.cell? ⟨b,0,none⟩ = some (PT y.p) ∧ w'.cell? ⟨b,2,none⟩ = some (.int .i64 sl) ∧ w'.cell? ⟨q2,0,none⟩ = some (.int .u64 (sg0.a : Int)) ∧ w'.cell? ⟨q2,1,none⟩ = some (.int .u64 (sg0.b : Int))) := fun w' hk => ⟨((HB3.out.keeps hk (by simp)).cell 0).trans rfl,((HB3.out.keeps hk (by simp)).cell 2).trans rfl,((HQ3.out.keeps hk (by simp)).cell 0).trans rfl,((HQ3.out.keeps hk (by simp)).cell 1).trans rfl⟩
      have hkD : Keeps [] wx wx := Keeps.refl _ _
      go_upto_region 5 with fail
      go_region_held3 (fun w' => w'.cell? ⟨b,0,none⟩ = some (PT y.p) ∧ w'.cell? ⟨b,2,none⟩ = some (.int .i64 sl) ∧ w'.cell? ⟨q2,0,none⟩ = some (.int .u64 (sg0.a : Int)) ∧ w'.cell? ⟨q2,1,none⟩ = some (.int .u64 (sg0.b : Int))) (first | with_reducible exact HC5.out _ (by first | with_reducible assumption | with_reducible exact Keeps.drew (by with_reducible assumption)) | go_keep) ((go_at_call 47; (with_reducible refine (QN.out _ (by first | with_reducible assumption | with_reducible exact Keeps.drew (by with_reducible assumption))).mono ?_); rintro e w5 ⟨lb,rfl,hat,hlb,hk5⟩; have HAT := Lib.hid (And.intro hat hlb); clear hat hlb))
      have HB5 := Lib.hid (HB3.out.keeps hk5 (by simp))
      have HP5 := Lib.hid (HP3.out.calm hk5)
      have HJ5 := Lib.hid (Blk.keeps HJ3.out hk5 (by simp))
      have HK5 := Lib.hid (HK3.out.trans hk5 (by simp))
      have m7 : w5.cell? ⟨b,7,none⟩ = some (.int .i64 2) := (HB5.out.cell 7).trans rfl
      have m9 : w5.cell? ⟨b,9,none⟩ = some (.pointer none) := (HB5.out.cell 9).trans rfl
      have f7 := HB5.out.frozen 7
      have f9 := HB5.out.frozen 9
      have hbl : b < wx.heap.size := HB3.out.lt
      have hlbG : Hid (lb ∉ G') := fun hx => by have h5 := HP3.out.lt lb hx; have h6 := HAT.out.2; omega
      have hlb0 : Hid (w.heap.size ≤ lb) := by unfold Hid; have h5 := HK3.out.size; have h6 := HAT.out.2; omega
      clear hk5 hkD HC5 QN HB3 HJ3 HQ3 HK3
      go_upto_region 8 with fail
      obtain ⟨w6,hw6⟩ : ∃ w6,(w5.setCell ⟨b,9,none⟩ (PT lb)).setCell ⟨b,7,none⟩ (.int .i64 3) = w6 := ⟨_,rfl⟩
      have HB6 : Hid (Blk w6 b 167 #[PT y.p,PT jb,.int .i64 sl,.int .i64 ge,.int .i64 th,.int .i64 st,.slice (some ⟨g,0,none⟩) m cw,.int .i64 3,.int .i64 nu,(PT lb),dp,.int .i64 at_,.int .i64 e0,.bool won]) := hw6 ▸ (HB5.out.set_ 9 (PT lb)).set_ 7 (.int .i64 3)
      have hk6 : Keeps [b] w5 w6 := hw6 ▸ ((Keeps.refl [b] w5).setCell (.inl (by simp)) _).setCell (.inl (by simp)) _
      try rw [hw6]
      have HP6 := Lib.hid (HP5.out.away hk6 (fun z hz => by simp at hz; subst hz; exact ⟨HB.out.2.2,HBG1.out,fun t ht => by rw [HB5.out.tyOf] at ht; injection ht with ht; subst ht; decide⟩))
      have HA6 := Lib.hid (HAT.out.1.keeps hk6 (by simp; have h5 := HAT.out.2; omega) (fun q hq => by simp [Value.ownBlock] at hq))
      have HJ6 := Lib.hid (Blk.keeps HJ5.out hk6 (by simp; exact HBJ.out.symm))
      have HK6 := Lib.hid (HK5.out.mono (T := b :: jb :: G) (fun z hz => .inl (by simp [hz])) |>.trans hk6 (fun z hz => .inl (by simp at hz; simp [hz])))
      have hcn6 : S'.c.slots = (n : Int) := by rw [HSC.out.1,← HSC.out.2.2.2.2]; exact HSC.out.2.1
      have QX := Lib.hid (Ld.done HA6.out HP6.out hcn6)
      clear hw6 hk6 m7 m9 f7 f9 HB5 HP5 HJ5 HK5 hbl
      go_wp2_with fail
      refine QX.out.mono ?_
      rintro e w7 ⟨rfl,hk7⟩
      have HB7 := Lib.hid (HB6.out.keeps hk7 (by simp))
      have HP7 := Lib.hid (HP6.out.calm hk7)
      have HA7 := Lib.hid (HA6.out.calm hk7)
      have HJ7 := Lib.hid (Blk.keeps HJ6.out hk7 (by simp))
      have HK7 := Lib.hid (HK6.out.trans hk7 (by simp))
      clear hk7 QX
      cases htu : (Lk.new n sl sg0).turns with
      | cons t r =>
        have HT := Lib.hid htu
        clear htu
        try simp only [List.isEmpty_cons]
        go_wp2_with fail
        go_end0
        exact ⟨rfl,G',HP7.out,HK7.out,HN1.out,.inr ⟨HGOOD.out,lb,HA7.out,hlb0.out,hlbG.out,.inl ⟨by rw [HT.out]; simp,HB7.out,HJ7.out⟩⟩⟩
      | nil =>
        have HT := Lib.hid htu
        clear htu
        try simp only [List.isEmpty_nil]
        have QJ := Lib.hid (judged_walk HP7.out hcn6 HB7.out HBG1.out HA7.out HJ7.out HJG1.out HJ.out.2.2 HSC.out.2.2.2.1 HDD.out.1 HDD.out.2 (vs := []) rfl (fun v hv => by simp at hv) HSL.out.2 (by simp))
        go_wp2_with fail
        refine QJ.out.mono ?_
        rintro e w8 ⟨rfl,hjw⟩
        have HJW := Lib.hid hjw
        clear hjw
        go_wp2_with fail
        go_end0
        have hkj := HJW.out.2.1
        have hp9 := HP7.out.away hkj (fun z hz => by
         simp at hz
         rcases hz with hz | hz
         · subst hz; exact ⟨HB.out.2.2,HBG1.out,fun t ht => by rw [HB7.out.tyOf] at ht; injection ht with ht; subst ht; decide⟩
         · subst hz; exact ⟨HJ.out.2.2,HJG1.out,fun t ht => by rw [HJ7.out.tyOf] at ht; injection ht with ht; subst ht; decide⟩)
        have hla := HA7.out.keeps hkj (fun hx => by
         simp at hx
         rcases hx with hx | hx
         · have e1 := HA7.out.ty; rw [hx,HB7.out.tyOf] at e1; injection e1 with e1; exact absurd e1 (by decide)
         · have e1 := HA7.out.ty; rw [hx,HJ7.out.tyOf] at e1; injection e1 with e1; exact absurd e1 (by decide)) (fun q hq => by simp [Value.ownBlock] at hq)
        exact ⟨rfl,G',hp9,HK7.out.trans hkj (fun z hz => .inl (by simp at hz; rcases hz with hz | hz <;> simp [hz])),HN1.out,.inr ⟨HGOOD.out,lb,hla,hlb0.out,hlbG.out,.inr ⟨HT.out,w7,HK7.out.size,HJW.out⟩⟩⟩
   ·
    have e2 : (hv.gen != ge) = true := by simpa using h2
    have HBAD : Hid (hv.state ≠ 2 ∨ hv.gen ≠ ge ∨ hv.doomed = true) := .inr (.inl h2)
    clear h1 h2
    go_upto_region 1 with fail
    go_quiet (fail)
    go_wp2_with fail
    go_returns
    have hd : ∀ i,Keeps [b] wa (((wa.drewN i).setCell ⟨b,12,none⟩ (.int .i64 7)).setCell ⟨b,7,none⟩ (.int .i64 7)) := fun i => (((Keeps.refl [b] wa).drewN i).setCell (.inl (by simp)) _).setCell (.inl (by simp)) _
    have hb9 : ∀ i,Blk (((wa.drewN i).setCell ⟨b,12,none⟩ (.int .i64 7)).setCell ⟨b,7,none⟩ (.int .i64 7)) b 167 #[PT y.p,PT jb,.int .i64 sl,.int .i64 ge,.int .i64 th,.int .i64 st,.slice (some ⟨g,0,none⟩) m cw,.int .i64 7,.int .i64 nu,(.pointer none),dp,.int .i64 at_,.int .i64 7,.bool won] := fun i => ((HB1.out.drewN i).set_ 12 (.int .i64 7)).set_ 7 (.int .i64 7)
    have hp9 : ∀ i,RP w0 (((wa.drewN i).setCell ⟨b,12,none⟩ (.int .i64 7)).setCell ⟨b,7,none⟩ (.int .i64 7)) y G' S' := fun i => HP1.out.away (hd i) (fun z hz => by simp at hz; subst hz; exact ⟨HB.out.2.2,HBG1.out,fun t ht => by rw [HB1.out.tyOf] at ht; injection ht with ht; subst ht; decide⟩)
    have hj9 := fun i => Blk.keeps HJ1.out (hd i) (by simp; exact HBJ.out.symm)
    have hkk := fun i => (HK1.out.mono (T := b :: jb :: G) (fun z hz => .inl (by simp [hz]))).trans (hd i) (fun z hz => .inl (by simp at hz; simp [hz]))
    exact ⟨rfl,G',hp9 _,hkk _,HN1.out,.inl ⟨HBAD.out,hb9 _,hj9 _⟩⟩
  ·
   have e1 : (hv.state != 2) = true := by simpa using h1
   have HBAD : Hid (hv.state ≠ 2 ∨ hv.gen ≠ ge ∨ hv.doomed = true) := .inl h1
   clear h1
   go_upto_region 1 with fail
   go_quiet (fail)
   go_wp2_with fail
   go_returns
   have hd : ∀ i,Keeps [b] wa (((wa.drewN i).setCell ⟨b,12,none⟩ (.int .i64 7)).setCell ⟨b,7,none⟩ (.int .i64 7)) := fun i => (((Keeps.refl [b] wa).drewN i).setCell (.inl (by simp)) _).setCell (.inl (by simp)) _
   have hb9 : ∀ i,Blk (((wa.drewN i).setCell ⟨b,12,none⟩ (.int .i64 7)).setCell ⟨b,7,none⟩ (.int .i64 7)) b 167 #[PT y.p,PT jb,.int .i64 sl,.int .i64 ge,.int .i64 th,.int .i64 st,.slice (some ⟨g,0,none⟩) m cw,.int .i64 7,.int .i64 nu,(.pointer none),dp,.int .i64 at_,.int .i64 7,.bool won] := fun i => ((HB1.out.drewN i).set_ 12 (.int .i64 7)).set_ 7 (.int .i64 7)
   have hp9 : ∀ i,RP w0 (((wa.drewN i).setCell ⟨b,12,none⟩ (.int .i64 7)).setCell ⟨b,7,none⟩ (.int .i64 7)) y G' S' := fun i => HP1.out.away (hd i) (fun z hz => by simp at hz; subst hz; exact ⟨HB.out.2.2,HBG1.out,fun t ht => by rw [HB1.out.tyOf] at ht; injection ht with ht; subst ht; decide⟩)
   have hj9 := fun i => Blk.keeps HJ1.out (hd i) (by simp; exact HBJ.out.symm)
   have hkk := fun i => (HK1.out.mono (T := b :: jb :: G) (fun z hz => .inl (by simp [hz]))).trans (hd i) (fun z hz => .inl (by simp at hz; simp [hz]))
   exact ⟨rfl,G',hp9 _,hkk _,HN1.out,.inl ⟨HBAD.out,hb9 _,hj9 _⟩⟩
end
end Cd
end Go.Proofs.YtmlnedilbneekaaGreat