/- What the walks over tables share: masks, arrays of eight cells, the shapes of heads. -/
import Derived.Test.YtdkbdlhfhmgenaaSlotsTS
namespace Go.Proofs.Ytdkbdlhfhmgenaa
open Go.RowKit
set_option linter.unusedVariables false
theorem i64_and1 (n : Int) : bits .and .i64 n 1 = n % 2 := by
  have hm : (BitVec.ofInt 64 1).toNat = 2 ^ 1 - 1 := by decide
  have key : (BitVec.ofInt 64 n &&& BitVec.ofInt 64 1).toNat = (n % ((2 ^ 64 : Nat) : Int)).toNat % 2 ^ 1 := by
    rw [BitVec.toNat_and, BitVec.toNat_ofInt, hm, Nat.and_two_pow_sub_one_eq_mod]
  show IntKind.i64.wrap ((BitVec.ofInt 64 n &&& BitVec.ofInt 64 1).toNat : Nat) = n % 2
  rw [key, IntKind.wrap_i64]
  omega
theorem i64_and7 (n : Int) : bits .and .i64 n 7 = n % 8 := by
  have hm : (BitVec.ofInt 64 7).toNat = 2 ^ 3 - 1 := by decide
  have key : (BitVec.ofInt 64 n &&& BitVec.ofInt 64 7).toNat = (n % ((2 ^ 64 : Nat) : Int)).toNat % 2 ^ 3 := by
    rw [BitVec.toNat_and, BitVec.toNat_ofInt, hm, Nat.and_two_pow_sub_one_eq_mod]
  show IntKind.i64.wrap ((BitVec.ofInt 64 n &&& BitVec.ofInt 64 7).toNat : Nat) = n % 8
  rw [key, IntKind.wrap_i64]
  omega
theorem i64_and255 (n : Int) : bits .and .i64 n 255 = n % 256 := by
  have hm : (BitVec.ofInt 64 255).toNat = 2 ^ 8 - 1 := by decide
  have key : (BitVec.ofInt 64 n &&& BitVec.ofInt 64 255).toNat = (n % ((2 ^ 64 : Nat) : Int)).toNat % 2 ^ 8 := by
    rw [BitVec.toNat_and, BitVec.toNat_ofInt, hm, Nat.and_two_pow_sub_one_eq_mod]
  show IntKind.i64.wrap ((BitVec.ofInt 64 n &&& BitVec.ofInt 64 255).toNat : Nat) = n % 256
  rw [key, IntKind.wrap_i64]
  omega
theorem i64_and1023 (n : Int) : bits .and .i64 n 1023 = n % 1024 := by
  have hm : (BitVec.ofInt 64 1023).toNat = 2 ^ 10 - 1 := by decide
  have key : (BitVec.ofInt 64 n &&& BitVec.ofInt 64 1023).toNat = (n % ((2 ^ 64 : Nat) : Int)).toNat % 2 ^ 10 := by
    rw [BitVec.toNat_and, BitVec.toNat_ofInt, hm, Nat.and_two_pow_sub_one_eq_mod]
  show IntKind.i64.wrap ((BitVec.ofInt 64 n &&& BitVec.ofInt 64 1023).toNat : Nat) = n % 1024
  rw [key, IntKind.wrap_i64]
  omega
/-- An array of eight cells in the block z. -/
def Arr (w : World) (z : Nat) (ty : TypeId) (f : Nat → Value) : Prop := Blk w z ty ((List.range 8).map f).toArray
section
variable {w w' : World} {z : Nat} {ty : TypeId} {f f' : Nat → Value}
theorem Arr.cell (h : Arr w z ty f) {j : Nat} (hj : j < 8) : w.cell? ⟨z, j, none⟩ = some (f j) :=
  (Blk.cell h j).trans (by simp [List.getElem?_range hj])
theorem Arr.frozen (h : Arr w z ty f) (j : Nat) : w.frozen? ⟨z, j, none⟩ = false := Blk.frozen h j
theorem Arr.keeps (h : Arr w z ty f) {S : List Nat} (hk : Keeps S w w') (hz : z ∉ S) : Arr w' z ty f := Blk.keeps h hk hz
theorem Arr.lt (h : Arr w z ty f) : z < w.heap.size := Blk.lt h
theorem Arr.same (h : Arr w z ty f) (e : ∀ i, i < 8 → f' i = f i) : Arr w z ty f' := by
  have : (List.range 8).map f' = (List.range 8).map f := by
    apply List.map_congr_left
    intro i hi
    exact e i (by simpa using hi)
  unfold Arr
  rw [this]
  exact h
theorem Arr.set (h : Arr w z ty f) {j : Nat} (hj : j < 8) (v : Value) (e : ∀ i, i < 8 → f' i = if i = j then v else f i) : Arr (w.setCell ⟨z, j, none⟩ v) z ty f' := by
  have h1 := Blk.set_ h j v
  have h2 : (((List.range 8).map f).toArray.setIfInBounds j v) = ((List.range 8).map f').toArray := by
    apply Array.ext
    · simp
    · intro i hi1 hi2
      have hi : i < 8 := by simpa using hi2
      simp only [List.getElem_toArray, List.setIfInBounds_toArray, List.getElem_set, List.getElem_map, List.getElem_range]
      rw [e i hi]
      simp [eq_comm]
  unfold Arr
  rw [← h2]
  exact h1
end
/-- The head of a slot; none: the zero head. -/
def hg (H : List Hd) (j : Nat) : Hd := H[j]?.getD Hd.zero
theorem hg_set (H : List Hd) (k : Nat) (y : Hd) (hk : k < H.length) (i : Nat) : hg (H.set k y) i = if i = k then y else hg H i := by
  unfold hg
  rw [List.getElem?_set]
  by_cases h : i = k
  · subst h; simp [hk]
  · simp [h, Ne.symm h]
theorem hg_of {H : List Hd} {k : Nat} {x : Hd} (h : H[k]? = some x) : hg H k = x := by simp [hg, h]
theorem hg_rep (n j : Nat) : hg (List.replicate n Hd.zero) j = Hd.zero := by
  unfold hg
  rw [List.getElem?_replicate]
  by_cases h : j < n <;> simp [h]
/-- The shapes of a head: free, held, live, live and doomed. -/
def Hd.shape (x : Hd) : Prop :=
  (∃ g, x = ⟨g, 0, 0, 0, false, 0⟩) ∨ (∃ g t, t ≠ 0 ∧ x = ⟨g, 1, 0, t, false, 0⟩) ∨ (∃ g s t, s ≠ 0 ∧ t ≠ 0 ∧ x = ⟨g, 2, s, t, false, 0⟩) ∨ (∃ g s t b, s ≠ 0 ∧ t ≠ 0 ∧ b ≠ 0 ∧ x = ⟨g, 2, s, t, true, b⟩)
/-- A head after k steps. -/
structure Fine (k : Nat) (x : Hd) : Prop where
  g0 : 0 ≤ x.gen
  g1 : x.gen ≤ k
  sh : x.shape
theorem Fine.next {k : Nat} {x : Hd} (h : Fine k x) : Fine (k + 1) x := ⟨h.g0, by have := h.g1; omega, h.sh⟩
theorem fine_set {k s : Nat} {H : List Hd} {y : Hd} (h : ∀ (j : Nat) (x : Hd), H[j]? = some x → Fine k x) (hy : Fine (k + 1) y) : ∀ (j : Nat) (x : Hd), (H.set s y)[j]? = some x → Fine (k + 1) x := by
  intro j x hx
  rw [List.getElem?_set] at hx
  split at hx
  · split at hx
    · injection hx with hx; subst hx; exact hy
    · cases hx
  · exact (h j x hx).next
/-- That three blocks lie beside a table and beside one another. -/
structure Dist (w0 : World) (t : Tb) (zg zh zd : Nat) : Prop where
  og : w0.heap.size ≤ zg ∧ zg ≠ t.q ∧ zg ≠ t.r ∧ zg ≠ t.b ∧ zg ≠ t.s ∧ zg ≠ t.c
  oh : w0.heap.size ≤ zh ∧ zh ≠ t.q ∧ zh ≠ t.r ∧ zh ≠ t.b ∧ zh ≠ t.s ∧ zh ≠ t.c
  od : w0.heap.size ≤ zd ∧ zd ≠ t.q ∧ zd ≠ t.r ∧ zd ≠ t.b ∧ zd ≠ t.s ∧ zd ≠ t.c
  gh : zg ≠ zh
  gd : zg ≠ zd
  hd : zh ≠ zd
/-- The three arrays of SlotsHolds: generations, held, doomed. -/
structure Arrs (w : World) (zg zh zd : Nat) (A : List Hd) : Prop where
  g : Arr w zg 54 (fun j => .int .i64 (hg A j).gen)
  h : Arr w zh 55 (fun j => .bool ((hg A j).state != 0))
  d : Arr w zd 55 (fun j => .bool (hg A j).doomed)
section
variable {w0 w w' : World} {t : Tb} {zg zh zd : Nat} {H A : List Hd} {W : List Int}
theorem Arrs.keeps (h : Arrs w zg zh zd A) {S : List Nat} (hk : Keeps S w w') (h1 : zg ∉ S) (h2 : zh ∉ S) (h3 : zd ∉ S) : Arrs w' zg zh zd A := ⟨h.g.keeps hk h1, h.h.keeps hk h2, h.d.keeps hk h3⟩
theorem Arrs.tab (h : Arrs w zg zh zd A) (d : Dist w0 t zg zh zd) (hk : Keeps [t.b, t.c] w w') : Arrs w' zg zh zd A :=
  h.keeps hk (by have := d.og; simp; omega) (by have := d.oh; simp; omega) (by have := d.od; simp; omega)
/-- What is read at a slot. -/
theorem Arrs.at_ (h : Arrs w zg zh zd A) {s : Nat} (hs : s < 8) {x : Hd} (hx : A[s]? = some x) :
    w.cell? ⟨zg, s, none⟩ = some (.int .i64 x.gen) ∧ w.cell? ⟨zh, s, none⟩ = some (.bool (x.state != 0)) ∧ w.cell? ⟨zd, s, none⟩ = some (.bool x.doomed) ∧ w.frozen? ⟨zg, s, none⟩ = false ∧ w.frozen? ⟨zh, s, none⟩ = false ∧ w.frozen? ⟨zd, s, none⟩ = false := by
  have e := hg_of hx
  refine ⟨(h.g.cell hs).trans (by simp only [e]), (h.h.cell hs).trans (by simp only [e]), (h.d.cell hs).trans (by simp only [e]), h.g.frozen s, h.h.frozen s, h.d.frozen s⟩
theorem Arrs.put_g (h : Arrs w zg zh zd A) (d : Dist w0 t zg zh zd) {s : Nat} (hs : s < 8) (ha : s < A.length) {x : Hd} (hx : A[s]? = some x) (g : Int) : Arrs (w.setCell ⟨zg, s, none⟩ (.int .i64 g)) zg zh zd (A.set s { x with gen := g }) := by
  have k : Keeps [zg] w (w.setCell ⟨zg, s, none⟩ (.int .i64 g)) := (Keeps.refl _ _).setCell (.inl (by simp)) _
  have e := hg_of hx
  refine ⟨h.g.set hs _ (fun i hi => ?_), (h.h.keeps k (by have := d.gh; simp; omega)).same (fun i hi => ?_), (h.d.keeps k (by have := d.gd; simp; omega)).same (fun i hi => ?_)⟩
  all_goals rw [hg_set A s _ ha]
  all_goals by_cases hi' : i = s
  all_goals simp [hi', e]
theorem Arrs.put_d (h : Arrs w zg zh zd A) (d : Dist w0 t zg zh zd) {s : Nat} (hs : s < 8) (ha : s < A.length) {x : Hd} (hx : A[s]? = some x) (b : Bool) : Arrs (w.setCell ⟨zd, s, none⟩ (.bool b)) zg zh zd (A.set s { x with doomed := b }) := by
  have k : Keeps [zd] w (w.setCell ⟨zd, s, none⟩ (.bool b)) := (Keeps.refl _ _).setCell (.inl (by simp)) _
  have e := hg_of hx
  refine ⟨(h.g.keeps k (by have := d.gd; simp; omega)).same (fun i hi => ?_), (h.h.keeps k (by have := d.hd; simp; omega)).same (fun i hi => ?_), h.d.set hs _ (fun i hi => ?_)⟩
  all_goals rw [hg_set A s _ ha]
  all_goals by_cases hi' : i = s
  all_goals simp [hi', e]
theorem Arrs.put_h (h : Arrs w zg zh zd A) (d : Dist w0 t zg zh zd) {s : Nat} (hs : s < 8) (ha : s < A.length) {x : Hd} (hx : A[s]? = some x) (b : Bool) : Arrs (w.setCell ⟨zh, s, none⟩ (.bool b)) zg zh zd (A.set s { x with state := if b then 1 else 0 }) := by
  have k : Keeps [zh] w (w.setCell ⟨zh, s, none⟩ (.bool b)) := (Keeps.refl _ _).setCell (.inl (by simp)) _
  have e := hg_of hx
  refine ⟨(h.g.keeps k (by have := d.gh; simp; omega)).same (fun i hi => ?_), h.h.set hs _ (fun i hi => ?_), (h.d.keeps k (by have := d.hd; simp; omega)).same (fun i hi => ?_)⟩
  all_goals rw [hg_set A s _ ha]
  all_goals by_cases hi' : i = s
  all_goals cases b
  all_goals simp [hi', e]
/-- Arrays see of a head its generation, whether it is held and whether it is doomed. -/
theorem Arrs.like (h : Arrs w zg zh zd A) {B : List Hd} (e : ∀ i, i < 8 → (hg B i).gen = (hg A i).gen ∧ ((hg B i).state != 0) = ((hg A i).state != 0) ∧ (hg B i).doomed = (hg A i).doomed) : Arrs w zg zh zd B :=
  ⟨h.g.same (fun i hi => by rw [(e i hi).1]), h.h.same (fun i hi => by rw [(e i hi).2.1]), h.d.same (fun i hi => by rw [(e i hi).2.2])⟩
theorem Arrs.like_set {s : Nat} {x : Hd} (h : Arrs w zg zh zd (A.set s x)) (ha : s < A.length) {y : Hd} (e1 : y.gen = x.gen) (e2 : (y.state != 0) = (x.state != 0)) (e3 : y.doomed = x.doomed) : Arrs w zg zh zd (A.set s y) :=
  h.like (fun i hi => by rw [hg_set A s _ ha, hg_set A s _ ha]; by_cases hi' : i = s <;> simp [hi', e1, e2, e3])
theorem Arrs.like_one (h : Arrs w zg zh zd A) {s : Nat} (ha : s < A.length) {x y : Hd} (hx : A[s]? = some x) (e1 : y.gen = x.gen) (e2 : (y.state != 0) = (x.state != 0)) (e3 : y.doomed = x.doomed) : Arrs w zg zh zd (A.set s y) :=
  h.like (fun i hi => by rw [hg_set A s _ ha]; by_cases hi' : i = s <;> simp [hi', e1, e2, e3, hg_of hx])
end
section
variable {w0 w : World} {t : Tb} {zg zh zd : Nat} {A : List Hd} {s : Nat} {x y : Hd}
theorem Arrs.claim (h : Arrs w zg zh zd A) (d : Dist w0 t zg zh zd) (hs : s < 8) (hx : A[s]? = some x) (e1 : (y.state != 0) = true) (e2 : y.doomed = x.doomed) : Arrs ((w.setCell ⟨zh, s, none⟩ (.bool true)).setCell ⟨zg, s, none⟩ (.int .i64 y.gen)) zg zh zd (A.set s y) := by
  have ha := (List.getElem?_eq_some_iff.1 hx).1
  have h1 := h.put_h d hs ha hx true
  have h2 := h1.put_g d hs (by simpa using ha) (x := { x with state := if true = true then 1 else 0 }) (by simp [ha]) y.gen
  rw [List.set_set] at h2
  exact h2.like_set ha rfl (by rw [e1]; rfl) e2
theorem Arrs.doom (h : Arrs w zg zh zd A) (d : Dist w0 t zg zh zd) (hs : s < 8) (hx : A[s]? = some x) (e0 : y.gen = x.gen) (e1 : (y.state != 0) = (x.state != 0)) : Arrs (w.setCell ⟨zd, s, none⟩ (.bool y.doomed)) zg zh zd (A.set s y) := by
  have ha := (List.getElem?_eq_some_iff.1 hx).1
  exact (h.put_d d hs ha hx y.doomed).like_set ha e0 e1 rfl
theorem Arrs.free (h : Arrs w zg zh zd A) (d : Dist w0 t zg zh zd) (hs : s < 8) (hx : A[s]? = some x) (e0 : y.gen = x.gen) (e1 : (y.state != 0) = false) (e2 : y.doomed = false) : Arrs ((w.setCell ⟨zh, s, none⟩ (.bool false)).setCell ⟨zd, s, none⟩ (.bool false)) zg zh zd (A.set s y) := by
  have ha := (List.getElem?_eq_some_iff.1 hx).1
  have h1 := h.put_h d hs ha hx false
  have h2 := h1.put_d d hs (by simpa using ha) (x := { x with state := if false = true then 1 else 0 }) (by simp [ha]) false
  rw [List.set_set] at h2
  exact h2.like_set ha e0 (by rw [e1]; rfl) e2
theorem set_self {H : List Hd} {s : Nat} {x : Hd} (hx : H[s]? = some x) : H.set s x = H := by
  apply List.ext_getElem?
  intro i
  rw [List.getElem?_set]
  split
  · rename_i e; subst e; split
    · exact hx.symm
    · rename_i h; rw [List.getElem?_eq_none (by omega)]
  · rfl
end
/-- What SlotsHolds' loop keeps. -/
structure HI (w0 w : World) (t : Tb) (zg zh zd : Nat) (H : List Hd) (W : List Int) (n k : Nat) : Prop where
  ts : TS w0 w t H W
  arr : Arrs w zg zh zd H
  dist : Dist w0 t zg zh zd
  len : H.length = n
  fine : ∀ (j : Nat) (x : Hd), H[j]? = some x → Fine k x
section
variable {w0 w w4 w5 : World} {t : Tb} {zg zh zd : Nat} {H H' : List Hd} {W W' : List Int} {n k s : Nat} {x y : Hd}
theorem HI.calm (h : HI w0 w t zg zh zd H W n k) (hk : Keeps [] w w4) : HI w0 w4 t zg zh zd H W n k := ⟨h.ts.calm hk, h.arr.keeps hk (by simp) (by simp) (by simp), h.dist, h.len, h.fine⟩
/-- A step: the table's, then the arrays'. -/
theorem HI.step (h : HI w0 w t zg zh zd H W n k) (ht : TS w0 w4 t (H.set s y) W') (hk : Keeps [zg, zh, zd] w4 w5) (ha : Arrs w5 zg zh zd (H.set s y)) (hy : Fine (k + 1) y) : HI w0 w5 t zg zh zd (H.set s y) W' n (k + 1) := by
  refine ⟨ht.far hk ?_, ha, h.dist, by simpa using h.len, fine_set h.fine hy⟩
  intro z hz
  simp only [List.mem_cons, List.not_mem_nil, or_false] at hz
  rcases hz with rfl | rfl | rfl
  · exact h.dist.og
  · exact h.dist.oh
  · exact h.dist.od
theorem HI.still (h : HI w0 w t zg zh zd H W n k) (hx : H[s]? = some x) (ht : TS w0 w4 t H W') (hk : Keeps [zg, zh, zd] w4 w5) (ha : Arrs w5 zg zh zd H) : HI w0 w5 t zg zh zd H W' n (k + 1) := by
  refine ⟨ht.far hk ?_, ha, h.dist, h.len, fun j x hx => (h.fine j x hx).next⟩
  intro z hz
  simp only [List.mem_cons, List.not_mem_nil, or_false] at hz
  rcases hz with rfl | rfl | rfl
  · exact h.dist.og
  · exact h.dist.oh
  · exact h.dist.od
end
end Go.Proofs.Ytdkbdlhfhmgenaa
