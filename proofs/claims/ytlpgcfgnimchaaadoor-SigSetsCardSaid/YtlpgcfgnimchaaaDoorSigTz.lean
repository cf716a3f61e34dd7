/- math/bits.TrailingZeros64 of a word that is not 0. -/
import Derived.Test.YtlpgcfgnimchaaaDoorSigFrom
import Derived.Shelf.Spec.TrailingZeros
namespace Go.Proofs.YtlpgcfgnimchaaaDoor
open Go.RowKit
set_option linter.unusedVariables false

/-- The table of the library's stands. -/
def Tab (w : World) : Prop := 1 ≤ w.heap.size ∧ TabAt 0 Lib.deBruijn64tab w
theorem Tab.keeps {w w' : World} (h : Tab w) (hk : Keeps [] w w') : Tab w' :=
  ⟨Nat.le_trans h.1 hk.size, fun j hj => (keeps_cell hk (by show 0 < w.heap.size; exact h.1) (by simp)).trans (h.2 j hj)⟩

set_option maxHeartbeats 1000000 in
theorem tz_core (x k idx : Nat) (w : World) (hx0 : ((x : Int) == 0) = false)
    (key : IntKind.u64.wrap (bits BinOp.and IntKind.u64 (x : Int) (IntKind.u64.wrap (-(x : Int))) * 285870213051353865) / 288230376151711744 = (idx : Int))
    (hi : idx < 64) (hk : k < 64) (hcell : w.cell? ⟨0, idx, none⟩ = some (.int .u8 k)) :
    Calls Tryd.prog 37 #[.int .u64 x] w fun e w' => e = .returned (.int .i64 k) ∧ w' = w := by
  go_enter Tryd.func37, Tryd.ntmps37
  go_wp2_with (simp only [key])
  go_ret
  exact ⟨rfl, rfl⟩
theorem tz_any (w : World) (hT : Tab w) (x : Nat) (hx : x < 18446744073709551616) (hx0 : x ≠ 0) :
    Calls Tryd.prog 37 #[.int .u64 x] w fun e w' => e = .returned (.int .i64 (Lib.ctz 64 x : Nat)) ∧ w = w' := by
  obtain ⟨hlow, hk⟩ := Lib.lowest_bit 64 x hx0 hx
  obtain ⟨hi, htab⟩ := Lib.deBruijn64_at _ hk
  have hcell := hT.2 _ hi
  rw [htab] at hcell
  refine (tz_core x _ _ w (by simp; omega) (tz64_key x _ hx hx0 hlow) hi hk hcell).mono ?_
  rintro e w' ⟨h1, h2⟩
  exact ⟨h1, h2.symm⟩

/-- A word without its lowest bit. -/
def low (x : Nat) : Nat := x &&& (x - 1)
theorem low_lt {x : Nat} (h : x ≠ 0) : low x < x := Nat.lt_of_le_of_lt Nat.and_le_right (by omega)
theorem and_pred (k m : Nat) : (2 ^ k * (2 * m + 1)) &&& (2 ^ k * (2 * m + 1) - 1) = 2 ^ k * (2 * m) := by
  have hp : 0 < 2 ^ k := Nat.two_pow_pos k
  have e : 2 ^ k * (2 * m + 1) - 1 = 2 ^ k * (2 * m) + (2 ^ k - 1) := by rw [Nat.mul_add]; omega
  rw [e]
  apply Nat.eq_of_testBit_eq
  intro i
  rw [Nat.testBit_and, Nat.testBit_two_pow_mul_add (2 * m) (by omega : 2 ^ k - 1 < 2 ^ k) i, Nat.testBit_two_pow_mul, Nat.testBit_two_pow_mul]
  by_cases hik : k ≤ i
  · have hn : ¬ i < k := by omega
    simp only [hik, hn, decide_true, Bool.true_and, if_false]
    by_cases he : i = k
    · subst he; simp
    · obtain ⟨j, hj⟩ : ∃ j, i - k = j + 1 := ⟨i - k - 1, by omega⟩
      rw [hj, Nat.testBit_succ, Nat.testBit_succ]
      have d1 : (2 * m + 1) / 2 = m := by omega
      have d2 : (2 * m) / 2 = m := by omega
      rw [d1, d2]; simp
  · simp [hik]
theorem low_spec (x : Nat) (h0 : x ≠ 0) (h : x < 18446744073709551616) : x = low x + 2 ^ Lib.ctz 64 x ∧ Lib.ctz 64 x < 64 ∧ ∀ i, x.testBit i = ((low x).testBit i || decide (i = Lib.ctz 64 x)) ∧ (i ≤ Lib.ctz 64 x → (low x).testBit i = false) := by
  obtain ⟨m, hm, hk⟩ := Lib.ctzFrom_spec 64 x (by omega) h
  have e : Lib.ctz 64 x = Lib.ctzFrom 64 x := by simp [Lib.ctz, h0]
  rw [e]
  obtain ⟨k, hkk⟩ : ∃ k, Lib.ctzFrom 64 x = k := ⟨_, rfl⟩
  rw [hkk] at hm hk ⊢
  have hl : low x = 2 ^ k * (2 * m) := by unfold low; rw [hm]; exact and_pred k m
  refine ⟨by rw [hl]; conv => { lhs; rw [hm] }; rw [Nat.mul_add, Nat.mul_one], hk, fun i => ?_⟩
  have h1 : x.testBit i = (decide (i ≥ k) && (2 * m + 1).testBit (i - k)) := by conv => { lhs; rw [hm] }; rw [Nat.testBit_two_pow_mul]
  have h2 : (low x).testBit i = (decide (i ≥ k) && (2 * m).testBit (i - k)) := by rw [hl, Nat.testBit_two_pow_mul]
  rw [h1, h2]
  by_cases hik : k ≤ i
  · by_cases he : i = k
    · subst he; simp
    · obtain ⟨j, hj⟩ : ∃ j, i - k = j + 1 := ⟨i - k - 1, by omega⟩
      rw [hj, Nat.testBit_succ, Nat.testBit_succ]
      have d1 : (2 * m + 1) / 2 = m := by omega
      have d2 : (2 * m) / 2 = m := by omega
      rw [d1, d2]
      simp [he]
      intro h
      omega
  · have hne : ¬ i = k := by omega
    simp [hik, hne]

/-- The bits of a word, rising. -/
def bl (x : Nat) : List Nat := if h : x = 0 then [] else Lib.ctz 64 x :: bl (low x)
termination_by x
decreasing_by exact low_lt h
theorem bl_zero : bl 0 = [] := by rw [bl]; simp
theorem bl_cons {x : Nat} (h : x ≠ 0) : bl x = Lib.ctz 64 x :: bl (low x) := by rw [bl]; simp [h]
theorem bl_mem (x : Nat) (hx : x < 18446744073709551616) : ∀ i, i ∈ bl x ↔ x.testBit i = true := by
  induction x using Nat.strongRecOn with
  | _ x ih =>
    intro i
    by_cases h : x = 0
    · subst h; simp [bl_zero]
    · have hl := low_lt h
      rw [bl_cons h, List.mem_cons, ih _ hl (by omega) i, ((low_spec x h hx).2.2 i).1]
      simp [or_comm]
theorem bl_sorted (x : Nat) (hx : x < 18446744073709551616) : (bl x).Pairwise (· < ·) := by
  induction x using Nat.strongRecOn with
  | _ x ih =>
    by_cases h : x = 0
    · subst h; simp [bl_zero]
    · have hl := low_lt h
      rw [bl_cons h, List.pairwise_cons]
      refine ⟨fun i hi => ?_, ih _ hl (by omega)⟩
      rw [bl_mem _ (by omega)] at hi
      apply Nat.lt_of_not_le
      intro hle
      rw [((low_spec x h hx).2.2 i).2 hle] at hi
      cases hi
theorem bit_lt {x i : Nat} (hx : x < 18446744073709551616) (h : x.testBit i = true) : i < 64 := by
  apply Nat.lt_of_not_le
  intro hle
  have : x.testBit i = false := Nat.testBit_lt_two_pow (Nat.lt_of_lt_of_le hx (by show 2 ^ 64 ≤ 2 ^ i; exact Nat.pow_le_pow_right (by omega) hle))
  rw [this] at h; cases h
theorem eq_of_sorted : ∀ {a b : List Nat}, a.Pairwise (· < ·) → b.Pairwise (· < ·) → (∀ i, i ∈ a ↔ i ∈ b) → a = b
  | [], [], _, _, _ => rfl
  | [], y :: _, _, _, h => by have := (h y).2 (by simp); simp at this
  | x :: _, [], _, _, h => by have := (h x).1 (by simp); simp at this
  | x :: a, y :: b, ha, hb, h => by
    rw [List.pairwise_cons] at ha hb
    have hxy : x = y := by
      have h1 := (h x).1 (by simp)
      have h2 := (h y).2 (by simp)
      simp only [List.mem_cons] at h1 h2
      rcases h1 with h1 | h1
      · exact h1
      · rcases h2 with h2 | h2
        · exact h2.symm
        · have := hb.1 _ h1; have := ha.1 _ h2; omega
    subst hxy
    congr 1
    refine eq_of_sorted ha.2 hb.2 fun i => ?_
    have hi := h i
    simp only [List.mem_cons] at hi
    constructor
    · intro m
      have := ha.1 _ m
      rcases hi.1 (.inr m) with e | e
      · omega
      · exact e
    · intro m
      have := hb.1 _ m
      rcases hi.2 (.inr m) with e | e
      · omega
      · exact e
theorem bl_eq (x : Nat) (hx : x < 18446744073709551616) : bl x = (List.range 64).filter (fun i => x.testBit i) := by
  refine eq_of_sorted (bl_sorted x hx) ?_ fun i => ?_
  · exact List.Pairwise.filter _ List.pairwise_lt_range
  · rw [bl_mem x hx, List.mem_filter, List.mem_range]
    constructor
    · exact fun h => ⟨bit_lt hx h, h⟩
    · exact fun h => h.2
theorem bl_len (x : Nat) (hx : x < 18446744073709551616) : (bl x).length ≤ 64 := by
  rw [bl_eq x hx]
  exact Nat.le_trans (List.length_filter_le _ _) (by simp)
end Go.Proofs.YtlpgcfgnimchaaaDoor
