/- Plain facts on signatures' words. -/
import Derived.Test.YtlpgcfgnimchaaaDoorSigTouched
import Derived.Test.YtlpgcfgnimchaaaDoorSigParam
namespace Go.Proofs.YtlpgcfgnimchaaaDoor
set_option linter.unusedVariables false
theorem minusN_bit (x y : Nat) (hx : x < 18446744073709551616) (hy : y < 18446744073709551616) (i : Nat) : (minusN x y).testBit i = (x.testBit i && !y.testBit i) := by
  unfold minusN
  have e : 18446744073709551615 - y = 2 ^ 64 - (y + 1) := by omega
  rw [e, Nat.testBit_and, Nat.testBit_two_pow_sub_succ (by omega : y < 2 ^ 64)]
  by_cases hi : i < 64
  · simp [hi]
  · have : x.testBit i = false := by
      cases h : x.testBit i
      · rfl
      · exact absurd (bit_lt hx h) hi
    simp [this]
theorem minusN_lt (x y : Nat) (hx : x < 18446744073709551616) : minusN x y < 18446744073709551616 := and_lt _ _ hx
/-- No bit of b is new to a: a joined with b is a. -/
theorem minusN_zero (a b : Nat) (ha : a < 18446744073709551616) (hb : b < 18446744073709551616) : minusN b a = 0 ↔ a ||| b = a := by
  constructor
  · intro h
    apply Nat.eq_of_testBit_eq
    intro i
    have hi := minusN_bit b a hb ha i
    rw [h, Nat.zero_testBit] at hi
    rw [Nat.testBit_or]
    cases h1 : a.testBit i <;> cases h2 : b.testBit i <;> simp_all
  · intro h
    apply Nat.eq_of_testBit_eq
    intro i
    rw [minusN_bit b a hb ha i, Nat.zero_testBit]
    have hi : (a ||| b).testBit i = a.testBit i := by rw [h]
    rw [Nat.testBit_or] at hi
    cases h1 : a.testBit i <;> cases h2 : b.testBit i <;> simp_all
/-- What they meet in and what is left make it up again. -/
theorem meet_minus (a b : Nat) (ha : a < 18446744073709551616) (hb : b < 18446744073709551616) : (a &&& b) ||| minusN a b = a := by
  apply Nat.eq_of_testBit_eq
  intro i
  rw [Nat.testBit_or, Nat.testBit_and, minusN_bit a b ha hb i]
  cases a.testBit i <;> cases b.testBit i <;> rfl
/-- What is left does not meet the other. -/
theorem minus_meet (a b : Nat) (ha : a < 18446744073709551616) (hb : b < 18446744073709551616) : minusN a b &&& b = 0 := by
  apply Nat.eq_of_testBit_eq
  intro i
  rw [Nat.testBit_and, minusN_bit a b ha hb i, Nat.zero_testBit]
  cases a.testBit i <;> cases b.testBit i <;> rfl
theorem meet_in_left (a b : Nat) (ha : a < 18446744073709551616) (hb : b < 18446744073709551616) : minusN (a &&& b) a = 0 := by
  apply Nat.eq_of_testBit_eq
  intro i
  rw [minusN_bit _ _ (and_lt _ _ ha) ha i, Nat.testBit_and, Nat.zero_testBit]
  cases a.testBit i <;> cases b.testBit i <;> rfl
theorem meet_in_right (a b : Nat) (ha : a < 18446744073709551616) (hb : b < 18446744073709551616) : minusN (a &&& b) b = 0 := by
  apply Nat.eq_of_testBit_eq
  intro i
  rw [minusN_bit _ _ (and_lt _ _ ha) hb i, Nat.testBit_and, Nat.zero_testBit]
  cases a.testBit i <;> cases b.testBit i <;> rfl
open Go.RowKit in
/-- Where a row of the call's own lies. -/
theorem RowAt.at {w wr : World} {v : Value} {l : List Int} (h : RowAt w wr v l) : (l = [] ∧ v = .slice none 0 0) ∨ ∃ g c, v = .slice (some ⟨g, 0, none⟩) l.length c ∧ w.heap.size ≤ g ∧ g < wr.heap.size ∧ l.length ≤ c ∧ ∀ (k : Nat) (x : Int), l[k]? = some x → wr.cell? ⟨g, k, none⟩ = some (.int .i64 x) := by
  rcases h.1.2 with ⟨h0, h1⟩ | ⟨g, cap, cur, h0, hb, hg, h1, h2, h3, h4⟩
  · exact .inl ⟨List.eq_nil_of_length_eq_zero h1, h0⟩
  · subst h0
    refine .inr ⟨g, cap, rfl, hb, (Array.getElem?_eq_some_iff.1 hg).1, h1, fun k x hx => ?_⟩
    have hc := h.1.cells (g := g) rfl k (.int .i64 x) (by rw [List.getElem?_map, hx]; rfl)
    have e : (⟨g, 0, none⟩ : Addr).add k = ⟨g, 0 + k, none⟩ := by unfold Addr.add; split <;> simp_all
    rw [e, Nat.zero_add] at hc
    exact hc
end Go.Proofs.YtlpgcfgnimchaaaDoor
