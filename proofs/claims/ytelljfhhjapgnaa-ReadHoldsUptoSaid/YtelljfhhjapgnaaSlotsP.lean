/- What the walks over tables share: masks, arrays of eight cells, the shapes of heads. -/
import Derived.Test.YtelljfhhjapgnaaSlotsTS
namespace Go.Proofs.Ytelljfhhjapgnaa
open Go.RowKit
set_option linter.unusedVariables false
theorem i64_and1 (n : Int) : bits .and .i64 n 1 = n % 2 := by
  have hm : (BitVec.ofInt 64 1).toNat = 2 ^ 1 - 1 := by decide
  have key : (BitVec.ofInt 64 n &&& BitVec.ofInt 64 1).toNat = (n % ((2 ^ 64 : Nat) : Int)).toNat % 2 ^ 1 := by
    rw [BitVec.toNat_and, BitVec.toNat_ofInt, hm, Nat.and_two_pow_sub_one_eq_mod]
  show IntKind.i64.wrap ((BitVec.ofInt 64 n &&& BitVec.ofInt 64 1).toNat : Nat) = n % 2
  rw [key, IntKind.wrap_i64]
  omega
theorem i64_and7 (n : Int) : bits .and .i64 n 7 = n % 8 := by
  have hm : (BitVec.ofInt 64 7).toNat = 2 ^ 3 - 1 := by decide
  have key : (BitVec.ofInt 64 n &&& BitVec.ofInt 64 7).toNat = (n % ((2 ^ 64 : Nat) : Int)).toNat % 2 ^ 3 := by
    rw [BitVec.toNat_and, BitVec.toNat_ofInt, hm, Nat.and_two_pow_sub_one_eq_mod]
  show IntKind.i64.wrap ((BitVec.ofInt 64 n &&& BitVec.ofInt 64 7).toNat : Nat) = n % 8
  rw [key, IntKind.wrap_i64]
  omega
theorem i64_and255 (n : Int) : bits .and .i64 n 255 = n % 256 := by
  have hm : (BitVec.ofInt 64 255).toNat = 2 ^ 8 - 1 := by decide
  have key : (BitVec.ofInt 64 n &&& BitVec.ofInt 64 255).toNat = (n % ((2 ^ 64 : Nat) : Int)).toNat % 2 ^ 8 := by
    rw [BitVec.toNat_and, BitVec.toNat_ofInt, hm, Nat.and_two_pow_sub_one_eq_mod]
  show IntKind.i64.wrap ((BitVec.ofInt 64 n &&& BitVec.ofInt 64 255).toNat : Nat) = n % 256
  rw [key, IntKind.wrap_i64]
  omega
theorem i64_and1023 (n : Int) : bits .and .i64 n 1023 = n % 1024 := by
  have hm : (BitVec.ofInt 64 1023).toNat = 2 ^ 10 - 1 := by decide
  have key : (BitVec.ofInt 64 n &&& BitVec.ofInt 64 1023).toNat = (n % ((2 ^ 64 : Nat) : Int)).toNat % 2 ^ 10 := by
    rw [BitVec.toNat_and, BitVec.toNat_ofInt, hm, Nat.and_two_pow_sub_one_eq_mod]
  show IntKind.i64.wrap ((BitVec.ofInt 64 n &&& BitVec.ofInt 64 1023).toNat : Nat) = n % 1024
  rw [key, IntKind.wrap_i64]
  omega
/-- An array of eight cells in the block z. -/
def Arr (w : World) (z : Nat) (ty : TypeId) (f : Nat → Value) : Prop := Blk w z ty ((List.range 8).map f).toArray
section
variable {w w' : World} {z : Nat} {ty : TypeId} {f f' : Nat → Value}
theorem Arr.cell (h : Arr w z ty f) {j : Nat} (hj : j < 8) : w.cell? ⟨z, j, none⟩ = some (f j) :=
  (Blk.cell h j).trans (by simp [List.getElem?_range hj])
theorem Arr.frozen (h : Arr w z ty f) (j : Nat) : w.frozen? ⟨z, j, none⟩ = false := Blk.frozen h j
theorem Arr.keeps (h : Arr w z ty f) {S : List Nat} (hk : Keeps S w w') (hz : z ∉ S) : Arr w' z ty f := Blk.keeps h hk hz
theorem Arr.lt (h : Arr w z ty f) : z < w.heap.size := Blk.lt h
theorem Arr.same (h : Arr w z ty f) (e : ∀ i, i < 8 → f' i = f i) : Arr w z ty f' := by
  have : (List.range 8).map f' = (List.range 8).map f := by
    apply List.map_congr_left
    intro i hi
    exact e i (by simpa using hi)
  unfold Arr
  rw [this]
  exact h
theorem Arr.set (h : Arr w z ty f) {j : Nat} (hj : j < 8) (v : Value) (e : ∀ i, i < 8 → f' i = if i = j then v else f i) : Arr (w.setCell ⟨z, j, none⟩ v) z ty f' := by
  have h1 := Blk.set_ h j v
  have h2 : (((List.range 8).map f).toArray.setIfInBounds j v) = ((List.range 8).map f').toArray := by
    apply Array.ext
    · simp
    · intro i hi1 hi2
      have hi : i < 8 := by simpa using hi2
      simp only [List.getElem_toArray, List.setIfInBounds_toArray, List.getElem_set, List.getElem_map, List.getElem_range]
      rw [e i hi]
      simp [eq_comm]
  unfold Arr
  rw [← h2]
  exact h1
end
/-- The head of a slot; none: the zero head. -/
def hg (H : List Hd) (j : Nat) : Hd := H[j]?.getD Hd.zero
theorem hg_set (H : List Hd) (k : Nat) (y : Hd) (hk : k < H.length) (i : Nat) : hg (H.set k y) i = if i = k then y else hg H i := by
  unfold hg
  rw [List.getElem?_set]
  by_cases h : i = k
  · subst h; simp [hk]
  · simp [h, Ne.symm h]
theorem hg_of {H : List Hd} {k : Nat} {x : Hd} (h : H[k]? = some x) : hg H k = x := by simp [hg, h]
theorem hg_rep (n j : Nat) : hg (List.replicate n Hd.zero) j = Hd.zero := by
  unfold hg
  rw [List.getElem?_replicate]
  by_cases h : j < n <;> simp [h]
/-- The shapes of a head: free, held, live, live and doomed. -/
def Hd.shape (x : Hd) : Prop :=
  (∃ g, x = ⟨g, 0, 0, 0, false, 0⟩) ∨ (∃ g t, t ≠ 0 ∧ x = ⟨g, 1, 0, t, false, 0⟩) ∨ (∃ g s t, s ≠ 0 ∧ t ≠ 0 ∧ x = ⟨g, 2, s, t, false, 0⟩) ∨ (∃ g s t b, s ≠ 0 ∧ t ≠ 0 ∧ b ≠ 0 ∧ x = ⟨g, 2, s, t, true, b⟩)
/-- A head after k steps. -/
structure Fine (k : Nat) (x : Hd) : Prop where
  g0 : 0 ≤ x.gen
  g1 : x.gen ≤ k
  sh : x.shape
theorem Fine.next {k : Nat} {x : Hd} (h : Fine k x) : Fine (k + 1) x := ⟨h.g0, by have := h.g1; omega, h.sh⟩
theorem fine_set {k s : Nat} {H : List Hd} {y : Hd} (h : ∀ (j : Nat) (x : Hd), H[j]? = some x → Fine k x) (hy : Fine (k + 1) y) : ∀ (j : Nat) (x : Hd), (H.set s y)[j]? = some x → Fine (k + 1) x := by
  intro j x hx
  rw [List.getElem?_set] at hx
  split at hx
  · split at hx
    · injection hx with hx; subst hx; exact hy
    · cases hx
  · exact (h j x hx).next
theorem set_self {H : List Hd} {s : Nat} {x : Hd} (hx : H[s]? = some x) : H.set s x = H := by
  apply List.ext_getElem?
  intro i
  rw [List.getElem?_set]
  split
  · rename_i e; subst e; split
    · exact hx.symm
    · rename_i h; rw [List.getElem?_eq_none (by omega)]
  · rfl
end Go.Proofs.Ytelljfhhjapgnaa
