/- quashlaw10.told: two begins that are the same tell the same. -/
import Derived.Test.YtdhgiohjdhcedaaGreatStartAw
import Derived.Test.YtdhgiohjdhcedaaGreatRst
import Derived.Test.YtdhgiohjdhcedaaGreatRaw10
import Derived.Test.YtdhgiohjdhcedaaGreatSame10
import Derived.Test.YtdhgiohjdhcedaaGreatRpNew
import Derived.Test.YtdhgiohjdhcedaaGreatSlotsRaw
namespace Go.Proofs.YtdhgiohjdhcedaaGreat
open Go.RowKit
set_option linter.unusedVariables false
set_option linter.unusedSimpArgs false
theorem i64_and3 (n : Int) : bits .and .i64 n 3 = n % 4 := by
  have hm : (BitVec.ofInt 64 3).toNat = 2 ^ 2 - 1 := by decide
  have key : (BitVec.ofInt 64 n &&& BitVec.ofInt 64 3).toNat = (n % ((2 ^ 64 : Nat) : Int)).toNat % 2 ^ 2 := by
    rw [BitVec.toNat_and, BitVec.toNat_ofInt, hm, Nat.and_two_pow_sub_one_eq_mod]
  show IntKind.i64.wrap ((BitVec.ofInt 64 n &&& BitVec.ofInt 64 3).toNat : Nat) = n % 4
  rw [key, IntKind.wrap_i64]
  omega
/-- A function, but for one place. -/
def upd' {ι α : Type} [DecidableEq ι] (f : ι → α) (i : ι) (x : α) : ι → α := fun j => if j = i then x else f j
theorem upd_at {ι α : Type} [DecidableEq ι] (f : ι → α) (i : ι) (x : α) : upd' f i x i = x := if_pos rfl
theorem upd_off {ι α : Type} [DecidableEq ι] (f : ι → α) (i : ι) (x : α) {j : ι} (h : j ≠ i) : upd' f i x j = f j := if_neg h
namespace SR
/-- The parts: the space, the document's, the two arrays, a step's box, the machines. -/
inductive Pt
  | s | r | xs | ys | o
  | m (i : Nat)
  | d (i : Nat)
deriving DecidableEq
abbrev Mc := Option (Nat × St)
def pv : Mc → Value
  | none => .pointer none
  | some (a, _) => PT a
def arr (M : Nat → Mc) : Array Value := #[pv (M 0), pv (M 1), pv (M 2), pv (M 3)]
abbrev TX : TypeId := 134
abbrev TY : TypeId := 136
abbrev TO : TypeId := 138
def mPart (P : World → Nat → St → Prop) : Mc → World → List Nat → Prop
  | none => fun w F => F = []
  | some (a, x) => fun w F => F = [a] ∧ P w a x
def oPart : Option (Nat × Array Value) → World → List Nat → Prop
  | none => fun w F => F = []
  | some (b, cs) => fun w F => F = [b] ∧ Blk w b TO cs
theorem oPart_lies {w0 : World} : ∀ q, Lies w0 (oPart q)
  | none => lies_none
  | some (b, cs) => lies_blk b TO cs
theorem mPart_lies {w0 : World} (z : Sb) : ∀ q, Lies w0 (mPart (fun w a x => StAt w z a x) q)
  | none => lies_none
  | some (a, x) => lies_blk a _ _
theorem dPart_lies {w0 : World} (y : Rb) : ∀ q, Lies w0 (mPart (fun w a x => RstAt w y a x) q)
  | none => lies_none
  | some (a, x) => lies_blk a _ _
def parts (w0 : World) (z : Sb) (y : Rb) (xb yb : Nat) (O : Option (Nat × Array Value)) (S T : Sp) (M N : Nat → Mc) : Pt → World → List Nat → Prop
  | .s => fun w F => SP w0 w z F S
  | .r => fun w F => RP w0 w y F T
  | .xs => fun w F => F = [xb] ∧ Blk w xb TX (arr M)
  | .ys => fun w F => F = [yb] ∧ Blk w yb TY (arr N)
  | .o => oPart O
  | .m i => mPart (fun w a x => StAt w z a x) (M i)
  | .d i => mPart (fun w a x => RstAt w y a x) (N i)
theorem parts_lies (w0 : World) (z : Sb) (y : Rb) (xb yb : Nat) (O : Option (Nat × Array Value)) (S T : Sp) (M N : Nat → Mc) : ∀ p, Lies w0 (parts w0 z y xb yb O S T M N p)
  | .s => lies_sp z S
  | .r => lies_rp y T
  | .xs => lies_blk xb TX (arr M)
  | .ys => lies_blk yb TY (arr N)
  | .o => oPart_lies O
  | .m i => mPart_lies z (M i)
  | .d i => dPart_lies y (N i)
section
variable {w0 : World} {z : Sb} {y : Rb} {xb yb : Nat} {O : Option (Nat × Array Value)} {S T : Sp} {M N : Nat → Mc}
theorem parts_m (i : Nat) : parts w0 z y xb yb O S T M N (.m i) = mPart (fun w a x => StAt w z a x) (M i) := rfl
theorem parts_d (i : Nat) : parts w0 z y xb yb O S T M N (.d i) = mPart (fun w a x => RstAt w y a x) (N i) := rfl
theorem parts_xs : parts w0 z y xb yb O S T M N .xs = fun w F => F = [xb] ∧ Blk w xb TX (arr M) := rfl
theorem parts_ys : parts w0 z y xb yb O S T M N .ys = fun w F => F = [yb] ∧ Blk w yb TY (arr N) := rfl
end
structure Rig (w0 w : World) (z : Sb) (y : Rb) (xb yb : Nat) (O : Option (Nat × Array Value)) (S T : Sp) (M N : Nat → Mc) : Prop where
  ex : ∃ G, Sep w0 w (parts w0 z y xb yb O S T M N) G
theorem arr_same {M : Nat → Mc} {i a : Nat} {x x' : St} (h : M i = some (a, x)) : arr (upd' M i (some (a, x'))) = arr M := by
  have hp : ∀ k, pv (upd' M i (some (a, x')) k) = pv (M k) := fun k => by
    by_cases e : k = i
    · subst e; rw [upd_at, h]; rfl
    · rw [upd_off _ _ _ e]
  unfold arr
  rw [hp, hp, hp, hp]
theorem arr_get (M : Nat → Mc) {j : Nat} (h : j < 4) : (arr M)[j]? = some (pv (M j)) := by
  have : j = 0 ∨ j = 1 ∨ j = 2 ∨ j = 3 := by omega
  rcases this with rfl | rfl | rfl | rfl <;> rfl
theorem arr_set (M : Nat → Mc) {j : Nat} (h : j < 4) (q : Mc) : (arr M).setIfInBounds j (pv q) = arr (upd' M j q) := by
  have : j = 0 ∨ j = 1 ∨ j = 2 ∨ j = 3 := by omega
  rcases this with rfl | rfl | rfl | rfl <;> simp [arr, upd']
section
variable {w0 w w1 w' : World} {z : Sb} {y : Rb} {xb yb k : Nat} {O : Option (Nat × Array Value)} {S S' T T' : Sp} {M N : Nat → Mc} {G : Pt → List Nat}
theorem Rig.calm (h : Rig w0 w z y xb yb O S T M N) (hk : Keeps [] w w') : Rig w0 w' z y xb yb O S T M N := by
  obtain ⟨G, hs⟩ := h
  exact ⟨G, hs.calm hk⟩
theorem Rig.keep (h : Rig w0 w z y xb yb O S T M N) : Keeps [] w0 w := by
  obtain ⟨G, hs⟩ := h
  exact hs.keep
theorem Rig.xs (h : Rig w0 w z y xb yb O S T M N) : Blk w xb TX (arr M) := by
  obtain ⟨G, hs⟩ := h
  exact (hs.at_ .xs).2
theorem Rig.ys (h : Rig w0 w z y xb yb O S T M N) : Blk w yb TY (arr N) := by
  obtain ⟨G, hs⟩ := h
  exact (hs.at_ .ys).2
theorem Rig.sp (h : Rig w0 w z y xb yb O S T M N) : ∃ F, SP w0 w z F S := by
  obtain ⟨G, hs⟩ := h
  exact ⟨_, hs.at_ .s⟩
theorem Rig.rp (h : Rig w0 w z y xb yb O S T M N) : ∃ F, RP w0 w y F T := by
  obtain ⟨G, hs⟩ := h
  exact ⟨_, hs.at_ .r⟩
theorem Rig.box {b : Nat} {cs : Array Value} (h : Rig w0 w z y xb yb (some (b, cs)) S T M N) : Blk w b TO cs := by
  obtain ⟨G, hs⟩ := h
  exact (hs.at_ .o).2
theorem space (hs : Sep w0 w (parts w0 z y xb yb O S T M N) G) (hw : Went w0 w w' z (G .s) S') : Rig w0 w' z y xb yb O S' T M N := by
  obtain ⟨F', h1, h2, h3⟩ := hw
  refine ⟨upd' G .s F', hs.one .s h2 (fun q hq => hq) (fun j hj => ⟨?_, upd_off _ _ _ hj⟩) ?_ (parts_lies _ _ _ _ _ _ _ _ _ _ _) ?_ ?_⟩
  · cases j <;> first | rfl | exact absurd rfl hj
  · rw [upd_at]; exact h1
  · rw [upd_at]; exact h1.apart
  · rw [upd_at]; exact h3
theorem doc (hs : Sep w0 w (parts w0 z y xb yb O S T M N) G) (hw : RWent w0 w w' y (G .r) T') : Rig w0 w' z y xb yb O S T' M N := by
  obtain ⟨F', h1, h2, h3⟩ := hw
  refine ⟨upd' G .r F', hs.one .r h2 (fun q hq => hq) (fun j hj => ⟨?_, upd_off _ _ _ hj⟩) ?_ (parts_lies _ _ _ _ _ _ _ _ _ _ _) ?_ ?_⟩
  · cases j <;> first | rfl | exact absurd rfl hj
  · rw [upd_at]; exact h1
  · rw [upd_at]; exact h1.apart
  · rw [upd_at]; exact h3
theorem Rig.turn (h : Rig w0 w z y xb yb O S T M N) (t : Int) : Calls Tryz.prog 44 #[PT z.p, .int .i64 t] w fun e w' => e = .returned (.tuple #[]) ∧ Rig w0 w' z y xb yb O (S.begin t) T M N := by
  obtain ⟨G, hs⟩ := h
  exact (sp_turn (hs.at_ .s) t).mono fun e w' ⟨he, hw⟩ => ⟨he, space hs hw⟩
theorem Rig.begin (h : Rig w0 w z y xb yb O S T M N) (t : Int) : Calls Tryz.prog 61 #[PT y.m, .int .i64 t] w fun e w' => e = .returned (.tuple #[]) ∧ Rig w0 w' z y xb yb O S (T.begin t) M N := by
  obtain ⟨G, hs⟩ := h
  exact (rp_begin (hs.at_ .r) t).mono fun e w' ⟨he, hw⟩ => ⟨he, doc hs hw⟩
/-- Two spaces that hold the same, as a pair. -/
theorem two (hs : Sep w0 w (parts w0 z y xb yb O S S M N) G) : Two w0 w z (G .s) y (G .r) S S := ⟨hs.at_ .s, hs.at_ .r, fun x hx => hs.dif .s .r (by decide) x hx⟩
theorem Rig.raw (h : Rig w0 w z y xb yb O S S M N) (hf : Fit k S) (hk : k ≤ 1099511627776) (kd m i n x : Int) : Calls Tryz.prog 66 #[PT z.p, PT y.p, .agg #[.int .i64 kd, .int .i64 m, .int .i64 i, .int .i64 n, .int .i64 x]] w fun e w' => e = .returned (.bool true) ∧ Rig w0 w' z y xb yb O (S.raw kd i n x) (S.raw kd i n x) M N := by
  obtain ⟨G, hs⟩ := h
  refine (Raw10.any (two hs) hf hk kd m i n x).mono fun e w' ⟨he, F', G', h1, h2, h3, h4⟩ => ⟨he, upd' (upd' G .s F') .r G', ?_⟩
  refine hs.two .s .r (by decide) h2 (fun q hq => by rw [List.mem_append] at hq; exact hq) (fun j h5 h6 => ⟨?_, by rw [upd_off _ _ _ h6, upd_off _ _ _ h5]⟩) ?_ (parts_lies _ _ _ _ _ _ _ _ _ _ _) ?_ ?_ ?_ (parts_lies _ _ _ _ _ _ _ _ _ _ _) ?_ ?_ ?_
  · cases j <;> first | rfl | exact absurd rfl h5 | exact absurd rfl h6
  · rw [upd_off _ _ _ (by decide), upd_at]; exact h1.sp
  · rw [upd_off _ _ _ (by decide), upd_at]; exact h1.sp.apart
  · rw [upd_off _ _ _ (by decide), upd_at]; exact fun q hq => (h3 q hq).imp Or.inl id
  · rw [upd_at]; exact h1.rp
  · rw [upd_at]; exact h1.rp.apart
  · rw [upd_at]; exact fun q hq => (h4 q hq).imp Or.inr id
  · rw [upd_off _ _ _ (by decide), upd_at, upd_at]; exact h1.far
theorem Rig.same (h : Rig w0 w z y xb yb O S S M N) (hf : Fit k S) (hk : k ≤ 1099511627776) : Calls Tryz.prog 68 #[PT z.p, PT y.p] w fun e w' => e = .returned (.bool true) ∧ Keeps [] w w' := by
  obtain ⟨G, hs⟩ := h
  exact Same10.any (two hs) hf hk
/-- A box is laid. -/
theorem Rig.laid (h : Rig w0 w z y xb yb none S T M N) (cs : Array Value) : Rig w0 (w.alloc (.cells cs TO)) z y xb yb (some (w.heap.size, cs)) S T M N := by
  obtain ⟨G, hs⟩ := h
  refine ⟨upd' G .o [w.heap.size], hs.one .o ((Keeps.refl [] w).alloc _) (by simp) (fun j hj => ⟨?_, upd_off _ _ _ hj⟩) ?_ (parts_lies _ _ _ _ _ _ _ _ _ _ _) ?_ ?_⟩
  · cases j <;> first | rfl | exact absurd rfl hj
  · rw [upd_at]; exact ⟨rfl, Blk.new _ _ _⟩
  · rw [upd_at]; exact apart_blk (Blk.new w TO cs) hs.keep.size (by decide)
  · rw [upd_at]; exact fun q hq => .inr (by simp at hq; omega)
theorem Rig.left (h : Rig w0 w z y xb yb O S T M N) : Rig w0 w z y xb yb none S T M N := by
  obtain ⟨G, hs⟩ := h
  refine ⟨upd' G .o [], hs.one .o (Keeps.refl [] w) (by simp) (fun j hj => ⟨?_, upd_off _ _ _ hj⟩) ?_ (parts_lies _ _ _ _ _ _ _ _ _ _ _) ?_ ?_⟩
  · cases j <;> first | rfl | exact absurd rfl hj
  · rw [upd_at]; exact rfl
  · rw [upd_at]; exact Apart.nil
  · rw [upd_at]; simp
/-- A step of the program's machine i. -/
theorem Rig.step {i a : Nat} {x : St} (h : Rig w0 w z y xb yb O S T M N) (hm : M i = some (a, x)) (hf : Fit k S) (hk : k ≤ 1099511627776) (hx : x.Ok) :
    Calls Tryz.prog 64 #[PT a] w fun e w' => e = .returned (.int .i64 (x.step S).1) ∧ Rig w0 w' z y xb yb O (x.step S).2.2 T (upd' M i (some (a, (x.step S).2.1))) N := by
  obtain ⟨G, hs⟩ := h
  have hq := hs.at_ (.m i)
  simp only [parts_m, parts_d] at hq
  rw [hm] at hq
  obtain ⟨hg, ha⟩ := hq
  have hlow : w0.heap.size ≤ a := (hs.apart (.m i)).low a (by rw [hg]; simp)
  refine (st_step (hs.at_ .s) hf hk ha hlow hx).mono fun e w' ⟨he, ⟨F', h1, h2, h3⟩, h4⟩ => ⟨he, upd' (upd' G .s F') (.m i) [a], ?_⟩
  have hao : a ∉ F' := h1.footT.out (Blk.tyOf h4) (by decide)
  refine hs.two .s (.m i) (by simp) h2 (fun q hq => by rw [List.mem_cons] at hq; rw [hg]; exact hq.elim (fun e => .inr (by simp [e])) .inl) (fun j h5 h6 => ⟨?_, by rw [upd_off _ _ _ h6, upd_off _ _ _ h5]⟩) ?_ (parts_lies _ _ _ _ _ _ _ _ _ _ _) ?_ ?_ ?_ (parts_lies _ _ _ _ _ _ _ _ _ _ _) ?_ ?_ ?_
  · cases j with
    | s => exact absurd rfl h5
    | m q =>
      have hqi : q ≠ i := fun e => h6 (e ▸ rfl)
      simp only [parts_m, parts_d, parts_xs, parts_ys]
      rw [upd_off _ _ _ hqi]
    | xs => simp only [parts_m, parts_d, parts_xs, parts_ys]; rw [arr_same hm]
    | _ => rfl
  · rw [upd_off _ _ _ (by simp), upd_at]; exact h1
  · rw [upd_off _ _ _ (by simp), upd_at]; exact h1.apart
  · rw [upd_off _ _ _ (by simp), upd_at]; exact fun q hq => (h3 q hq).imp Or.inl id
  · rw [upd_at]; simp only [parts_m, parts_d, parts_xs, parts_ys]; rw [upd_at]; exact ⟨rfl, h4⟩
  · rw [upd_at]; exact apart_blk h4 hlow (by decide)
  · rw [upd_at, hg]; exact fun q hq => .inl (.inr hq)
  · rw [upd_off _ _ _ (by simp), upd_at, upd_at]; exact fun q hq hq2 => by simp at hq2; subst hq2; exact hao hq
/-- A step of the document's machine i. -/
theorem Rig.dstep {i a : Nat} {x : St} (h : Rig w0 w z y xb yb O S T M N) (hm : N i = some (a, x)) (hf : Fit k T) (hk : k ≤ 1099511627776) (hx : x.J T.c.slots) :
    Calls Tryz.prog 65 #[PT a] w fun e w' => e = .returned (.int .i64 (x.step T).1) ∧ Rig w0 w' z y xb yb O S (x.step T).2.2 M (upd' N i (some (a, (x.step T).2.1))) := by
  obtain ⟨G, hs⟩ := h
  have hq := hs.at_ (.d i)
  simp only [parts_m, parts_d] at hq
  rw [hm] at hq
  obtain ⟨hg, ha⟩ := hq
  have hlow : w0.heap.size ≤ a := (hs.apart (.d i)).low a (by rw [hg]; simp)
  refine (rst_step (hs.at_ .r) hf hk ha hlow hx).mono fun e w' ⟨he, ⟨F', h1, h2, h3⟩, h4⟩ => ⟨he, upd' (upd' G .r F') (.d i) [a], ?_⟩
  have hao : a ∉ F' := h1.footT.out (Blk.tyOf h4) (by decide)
  refine hs.two .r (.d i) (by simp) h2 (fun q hq => by rw [List.mem_cons] at hq; rw [hg]; exact hq.elim (fun e => .inr (by simp [e])) .inl) (fun j h5 h6 => ⟨?_, by rw [upd_off _ _ _ h6, upd_off _ _ _ h5]⟩) ?_ (parts_lies _ _ _ _ _ _ _ _ _ _ _) ?_ ?_ ?_ (parts_lies _ _ _ _ _ _ _ _ _ _ _) ?_ ?_ ?_
  · cases j with
    | r => exact absurd rfl h5
    | d q =>
      have hqi : q ≠ i := fun e => h6 (e ▸ rfl)
      simp only [parts_m, parts_d, parts_xs, parts_ys]
      rw [upd_off _ _ _ hqi]
    | ys => simp only [parts_m, parts_d, parts_xs, parts_ys]; rw [arr_same hm]
    | _ => rfl
  · rw [upd_off _ _ _ (by simp), upd_at]; exact h1
  · rw [upd_off _ _ _ (by simp), upd_at]; exact h1.apart
  · rw [upd_off _ _ _ (by simp), upd_at]; exact fun q hq => (h3 q hq).imp Or.inl id
  · rw [upd_at]; simp only [parts_m, parts_d, parts_xs, parts_ys]; rw [upd_at]; exact ⟨rfl, h4⟩
  · rw [upd_at]; exact apart_blk h4 hlow (by decide)
  · rw [upd_at, hg]; exact fun q hq => .inl (.inr hq)
  · rw [upd_off _ _ _ (by simp), upd_at, upd_at]; exact fun q hq hq2 => by simp at hq2; subst hq2; exact hao hq
/-- What New leaves in block a (or nothing), made since w. -/
def Fresh (w w' : World) (P : World → Nat → St → Prop) : Mc → Prop
  | none => True
  | some (a, x) => P w' a x ∧ w.heap.size ≤ a
/-- Machine j is made anew, on both sides. -/
theorem Rig.renew {j : Nat} (hj : j < 4) {p q : Mc} (h : Rig w0 w z y xb yb O S T M N) (hk : Keeps [] w w1) (hp : Fresh w w1 (fun w a x => StAt w z a x) p) (hq : Fresh w w1 (fun w a x => RstAt w y a x) q) :
    Rig w0 ((w1.setCell ⟨xb, j, none⟩ (pv p)).setCell ⟨yb, j, none⟩ (pv q)) z y xb yb O S T (upd' M j p) (upd' N j q) := by
  obtain ⟨G, hs⟩ := h
  have hbx := (hs.at_ .xs).2
  have hby := (hs.at_ .ys).2
  have hgx := (hs.at_ .xs).1
  have hgy := (hs.at_ .ys).1
  have hxy : xb ≠ yb := hbx.ne_ hby (by decide)
  have hlx := hbx.lt
  have hly := hby.lt
  have hsz := hk.size
  obtain ⟨w2, hw2⟩ : ∃ v, (w1.setCell ⟨xb, j, none⟩ (pv p)).setCell ⟨yb, j, none⟩ (pv q) = v := ⟨_, rfl⟩
  have kk : Keeps [xb, yb] w1 w2 := hw2 ▸ ((Keeps.refl _ _).setCell (.inl (by simp)) _).setCell (.inl (by simp)) _
  have bx : Blk w2 xb TX (arr (upd' M j p)) := by
    rw [← hw2, ← arr_set M hj p]
    exact ((hbx.keeps hk (by simp)).set_ j (pv p)).far hxy _
  have byy : Blk w2 yb TY (arr (upd' N j q)) := by
    rw [← hw2, ← arr_set N hj q]
    exact ((hby.keeps hk (by simp)).far (fun e => hxy e.symm) _).set_ j (pv q)
  rw [hw2]
  let gm : List Nat := match p with
    | none => []
    | some (a, _) => [a]
  let gd : List Nat := match q with
    | none => []
    | some (a, _) => [a]
  have hgm : ∀ u, u ∈ gm → w.heap.size ≤ u ∧ tyOf w2 u = some 263 := fun u hu => by
    cases p with
    | none => simp [gm] at hu
    | some v =>
      simp [gm] at hu
      subst hu
      have h9 : v.1 ∉ [xb, yb] := by have := hp.2; simp; omega
      exact ⟨hp.2, tyOf_keeps (Blk.tyOf hp.1) kk h9⟩
  have hgd : ∀ u, u ∈ gd → w.heap.size ≤ u ∧ tyOf w2 u = some 265 := fun u hu => by
    cases q with
    | none => simp [gd] at hu
    | some v =>
      simp [gd] at hu
      subst hu
      have h9 : v.1 ∉ [xb, yb] := by have := hq.2; simp; omega
      exact ⟨hq.2, tyOf_keeps (Blk.tyOf hq.1) kk h9⟩
  have hpm : parts w0 z y xb yb O S T (upd' M j p) (upd' N j q) (.m j) w2 gm := by
    simp only [parts_m, parts_d, parts_xs, parts_ys]
    rw [upd_at]
    cases p with
    | none => rfl
    | some v =>
      have h9 : v.1 ∉ [xb, yb] := by have := hp.2; simp; omega
      exact ⟨rfl, Blk.keeps hp.1 kk h9⟩
  have hpd : parts w0 z y xb yb O S T (upd' M j p) (upd' N j q) (.d j) w2 gd := by
    simp only [parts_m, parts_d, parts_xs, parts_ys]
    rw [upd_at]
    cases q with
    | none => rfl
    | some v =>
      have h9 : v.1 ∉ [xb, yb] := by have := hq.2; simp; omega
      exact ⟨rfl, Blk.keeps hq.1 kk h9⟩
  have hbase := hs.keep.size
  refine ⟨upd' (upd' G (.m j) gm) (.d j) gd, hs.step (fun u => u = .xs ∨ u = .ys ∨ u = .m j ∨ u = .d j) ((hk.mono (T := [xb, yb]) (by simp)).trans kk (fun u hu => .inl hu)) (fun u hu => ?_) (fun u hu => ?_) (fun u hu => ?_) (fun u v hu hv huv => ?_)⟩
  · simp at hu
    rcases hu with rfl | rfl
    · exact ⟨.xs, by simp, by rw [hgx]; simp⟩
    · exact ⟨.ys, by simp, by rw [hgy]; simp⟩
  · refine ⟨?_, by rw [upd_off _ _ _ (fun e => hu (by simp [e])), upd_off _ _ _ (fun e => hu (by simp [e]))]⟩
    cases u with
    | m q =>
      have : q ≠ j := fun e => hu (by simp [e])
      simp only [parts_m, parts_d, parts_xs, parts_ys]
      rw [upd_off _ _ _ this]
    | d q =>
      have : q ≠ j := fun e => hu (by simp [e])
      simp only [parts_m, parts_d, parts_xs, parts_ys]
      rw [upd_off _ _ _ this]
    | xs => exact absurd (.inl rfl) hu
    | ys => exact absurd (.inr (.inl rfl)) hu
    | _ => rfl
  · rcases hu with rfl | rfl | rfl | rfl
    · rw [upd_off _ _ _ (by simp), upd_off _ _ _ (by simp)]
      exact ⟨⟨hgx, bx⟩, parts_lies _ _ _ _ _ _ _ _ _ _ _, by rw [hgx]; exact apart_blk bx ((hs.apart .xs).low xb (by rw [hgx]; simp)) (by decide), fun u hu => .inl ⟨.xs, by simp, hu⟩⟩
    · rw [upd_off _ _ _ (by simp), upd_off _ _ _ (by simp)]
      exact ⟨⟨hgy, byy⟩, parts_lies _ _ _ _ _ _ _ _ _ _ _, by rw [hgy]; exact apart_blk byy ((hs.apart .ys).low yb (by rw [hgy]; simp)) (by decide), fun u hu => .inl ⟨.ys, by simp, hu⟩⟩
    · rw [upd_off _ _ _ (by simp), upd_at]
      exact ⟨hpm, parts_lies _ _ _ _ _ _ _ _ _ _ _, ⟨fun u hu => by have := (hgm u hu).1; omega, fun u hu => ⟨_, (hgm u hu).2, by decide⟩⟩, fun u hu => .inr (hgm u hu).1⟩
    · rw [upd_at]
      exact ⟨hpd, parts_lies _ _ _ _ _ _ _ _ _ _ _, ⟨fun u hu => by have := (hgd u hu).1; omega, fun u hu => ⟨_, (hgd u hu).2, by decide⟩⟩, fun u hu => .inr (hgd u hu).1⟩
  · have hold : ∀ u, u ∈ G .xs ∨ u ∈ G .ys → u < w.heap.size := fun u hu => hu.elim (hs.lt .xs u) (hs.lt .ys u)
    have hgx' : upd' (upd' G (.m j) gm) (.d j) gd .xs = G .xs := by rw [upd_off _ _ _ (by simp), upd_off _ _ _ (by simp)]
    have hgy' : upd' (upd' G (.m j) gm) (.d j) gd .ys = G .ys := by rw [upd_off _ _ _ (by simp), upd_off _ _ _ (by simp)]
    have hgm' : upd' (upd' G (.m j) gm) (.d j) gd (.m j) = gm := by rw [upd_off _ _ _ (by simp), upd_at]
    have hgd' : upd' (upd' G (.m j) gm) (.d j) gd (.d j) = gd := by rw [upd_at]
    have hmd : ∀ u, u ∈ gm → u ∈ gd → False := fun u h1 h2 => by
      have e1 := (hgm u h1).2
      rw [(hgd u h2).2] at e1
      revert e1
      decide
    intro c hc hd
    rcases hu with rfl | rfl | rfl | rfl <;> rcases hv with rfl | rfl | rfl | rfl <;> first | exact huv rfl | skip
    all_goals
      simp only [hgx', hgy', hgm', hgd'] at hc hd
    · exact hs.dif .xs .ys (by simp) c hc hd
    · have := hold c (.inl hc); have := (hgm c hd).1; omega
    · have := hold c (.inl hc); have := (hgd c hd).1; omega
    · exact hs.dif .xs .ys (by simp) c hd hc
    · have := hold c (.inr hc); have := (hgm c hd).1; omega
    · have := hold c (.inr hc); have := (hgd c hd).1; omega
    · have := hold c (.inl hd); have := (hgm c hc).1; omega
    · have := hold c (.inr hd); have := (hgm c hc).1; omega
    · exact hmd c hc hd
    · have := hold c (.inl hd); have := (hgd c hc).1; omega
    · have := hold c (.inr hd); have := (hgd c hc).1; omega
    · exact hmd c hd hc
end
end SR
end Go.Proofs.YtdhgiohjdhcedaaGreat

namespace Go.Proofs.YtdhgiohjdhcedaaGreat
open Go.RowKit
set_option linter.unusedVariables false
set_option linter.unusedSimpArgs false
namespace SR
section
variable {w0 w w' : World} {z : Sb} {y : Rb} {a b : Nat} {x : St} {n : Int}
set_option maxRecDepth 100000 in
theorem told_yes (ha : StAt w z a x) (hb : RstAt w y b x) (hj : x.J n) : Calls Tryz.prog 67 #[PT a, PT b] w fun e w' => e = .returned (.bool true) ∧ Keeps [] w w' := by
  have HA := Lib.hid ha
  have HB := Lib.hid (And.intro hb hj)
  clear ha hb hj
  go_enter Tryz.func67, Tryz.ntmps67
  go_wp2_with fail
  refine (st_slot HA.out).mono ?_
  rintro e w1 ⟨rfl, hk1⟩
  have hb1 : RstAt w1 y b x := Blk.keeps HB.out.1 hk1 (by simp)
  have HB1 := Lib.hid hb1
  have HK1 := Lib.hid hk1
  clear hb1 hk1
  go_wp2_with fail
  refine (rst_slot HB1.out HB.out.2).mono ?_
  rintro e w2 ⟨rfl, hk2⟩
  have HK2 := Lib.hid (HK1.out.trans hk2 (by simp))
  have HC := Lib.hid (show ∀ w', Keeps [] w2 w' → w'.cell? ⟨b, 6, none⟩ = some (.bool (x.state == 3)) from fun w' hk => keeps_cell0 hk (rst_over (Blk.keeps HB1.out hk2 (by simp))))
  have QD : Hid (∀ w', Keeps [] w2 w' → Calls Tryz.prog 140 #[PT a] w' fun e w'' => e = .returned (.bool (x.state == 3)) ∧ Keeps [] w2 w'') := fun w' hk => (st_done (z := z) (Blk.keeps HA.out (HK2.out.trans hk (by simp)) (by simp))).mono fun e w'' ⟨he, h2⟩ => ⟨he, h2 ▸ hk⟩
  have hkB : Keeps [] w2 w2 := Keeps.refl _ _
  clear hk2
  generalize (x.state == 3) = bd at *
  go_wp2_with fail
  go_region_held3 (fun w' => w'.cell? ⟨b, 6, none⟩ = some (.bool bd)) (first | with_reducible exact HC.out _ (by first | with_reducible assumption | with_reducible exact Keeps.drew (by with_reducible assumption)) | go_keep) ((go_at_call 140; (with_reducible refine (QD.out _ (by first | with_reducible assumption | with_reducible exact Keeps.drew (by with_reducible assumption))).mono ?_); rintro e wd ⟨rfl, hkd⟩))
  all_goals
    go_wp2_with fail
    go_ret
    exact ⟨rfl, HK2.out.trans (by first | with_reducible assumption | with_reducible exact Keeps.drew (by with_reducible assumption)) (by simp)⟩
end
end SR
end Go.Proofs.YtdhgiohjdhcedaaGreat
