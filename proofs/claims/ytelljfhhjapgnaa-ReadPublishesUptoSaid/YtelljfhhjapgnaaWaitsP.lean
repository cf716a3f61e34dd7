/- ReadWaits: one access a step; which, and what is answered. Plain Lean. -/
import Derived.Test.YtelljfhhjapgnaaRdAl
namespace Go.Proofs.Ytelljfhhjapgnaa
open Go.RowKit
set_option linter.unusedVariables false
set_option linter.unusedSimpArgs false
/-- One reader of one slot. -/
structure WS (S : Sp) (x : Rd) : Prop where
  i : RI x
  h1 : S.H.length = 1
  w2 : S.W.length = 2
  slot : x.f.slot = 0
  c0 : 0 ≤ x.cell
  c1 : x.cell < S.cells.length
section
variable {S : Sp} {x : Rd}
theorem nth_in {α : Type} {l : List α} {i : Int} (h0 : 0 ≤ i) (h1 : i < l.length) : ∃ y, nth l i = some y := by
  unfold nth
  rw [if_pos h0]
  exact ⟨_, List.getElem?_eq_getElem (by omega)⟩
theorem WS.one (h : WS S x) (ho : x.over = false) : ∃ kd p o b, (x.step S).2.2.met = S.met.note kd p o b ∧ ((x.step S).1 = 2 ∧ kd = 2 ∧ S.gate.number % 2 = 1 ∨ (x.step S).1 = 1 ∧ (kd ≠ 2 ∨ S.gate.number % 2 = 0)) := by
  rcases h.i.ways ho with ⟨hn, w, l, hw⟩ | ⟨hn, hw⟩ | ⟨hn, hw⟩ | ⟨hn, hw⟩
  · rw [Rd.step_pub ho hn hw, h.slot]
    have hw01 := h.i.ok.words w (by rw [hw]; simp)
    obtain ⟨y, hy⟩ : ∃ y, wnth S 0 w = some y := by
      unfold wnth
      have := h.h1
      have := h.w2
      rw [if_pos ⟨⟨by decide, by omega⟩, by omega, by omega⟩]
      exact ⟨_, List.getElem?_eq_getElem (by omega)⟩
    refine ⟨4, 2 * 0 + w, 2, true, ?_, .inr ⟨rfl, .inl (by decide)⟩⟩
    unfold Sp.put
    rw [hy]
    rfl
  · rw [Rd.step_load ho hn]
    obtain ⟨y, hy⟩ := nth_in h.c0 h.c1
    refine ⟨1, x.cell, 1, true, ?_, .inr ⟨rfl, .inl (by decide)⟩⟩
    unfold Sp.load
    rw [hy]
    rfl
  · rw [Rd.step_gate ho hn]
    refine ⟨2, 0, 1, true, rfl, ?_⟩
    by_cases e : S.gate.number % 2 = 1
    · exact .inl ⟨if_pos e, rfl, e⟩
    · exact .inr ⟨if_neg e, .inr (by omega)⟩
  · rw [Rd.step_head ho hn, h.slot]
    obtain ⟨y, hy⟩ : ∃ y, nth S.H 0 = some y := nth_in (by decide) (by have := h.h1; omega)
    refine ⟨3, 0, 1, true, ?_, .inr ⟨rfl, .inl (by decide)⟩⟩
    unfold Sp.look
    rw [hy]
    rfl
theorem put_len (S : Sp) (i j x : Int) : (S.put i j x).2.W.length = S.W.length := by unfold Sp.put; split <;> simp
theorem WS.step (h : WS S x) : WS (x.step S).2.2 (x.step S).2.1 := by
  obtain ⟨s1, s2, s3, s4⟩ := h.i.sp S
  obtain ⟨r1, r2, r3, r4⟩ := h.i.same S
  refine ⟨h.i.step S, by rw [s4]; exact h.h1, ?_, r2.trans h.slot, by rw [r1]; exact h.c0, by rw [r1, s3]; exact h.c1⟩
  cases ho : x.over with
  | true => rw [Rd.step_fin ho]; exact h.w2
  | false =>
    rcases h.i.ways ho with ⟨hn, w, l, hw⟩ | ⟨hn, hw⟩ | ⟨hn, hw⟩ | ⟨hn, hw⟩
    · rw [Rd.step_pub ho hn hw]; exact (put_len S _ _ _).trans h.w2
    · rw [Rd.step_load ho hn]
      have : (S.load x.cell).2.W = S.W := by unfold Sp.load; split <;> rfl
      show (S.load x.cell).2.W.length = 2
      rw [this]; exact h.w2
    · rw [Rd.step_gate ho hn]; exact h.w2
    · rw [Rd.step_head ho hn]
      have : (S.look x.f.slot).2.W = S.W := by unfold Sp.look; split <;> rfl
      show (S.look x.f.slot).2.W.length = 2
      rw [this]; exact h.w2
/-- The gate moves, the meter turns. -/
theorem WS.same (h : WS S x) {S' : Sp} (e1 : S'.H = S.H) (e2 : S'.W = S.W) (e3 : S'.cells = S.cells) : WS S' x := ⟨h.i, by rw [e1]; exact h.h1, by rw [e2]; exact h.w2, h.slot, h.c0, by rw [e3]; exact h.c1⟩
theorem take_same (S : Sp) (t : Int) : (S.take t).2.H = S.H ∧ (S.take t).2.W = S.W ∧ (S.take t).2.cells = S.cells := by unfold Sp.take; split; exact ⟨rfl, rfl, rfl⟩; split <;> exact ⟨rfl, rfl, rfl⟩
theorem give_same (S : Sp) (t : Int) : (S.give t).2.H = S.H ∧ (S.give t).2.W = S.W ∧ (S.give t).2.cells = S.cells := by unfold Sp.give; split; exact ⟨rfl, rfl, rfl⟩; split <;> exact ⟨rfl, rfl, rfl⟩
end
end Go.Proofs.Ytelljfhhjapgnaa
