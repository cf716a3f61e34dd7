/- Slices of ints that are read. -/
import Derived.Test.YtcoekpomiljofaaOpen
namespace Go.Proofs.Ytcoekpomiljofaa
open Go.RowKit
set_option linter.unusedVariables false

/-- A slice whose first cells are xs. -/
def Slc (w : World) (A : Option Addr) (xs : List Int) : Prop :=
  xs.length ≤ maxLen ∧ (xs = [] ∨ ∃ b off, A = some ⟨b, off, none⟩ ∧ b < w.heap.size ∧ ∀ k x, xs[k]? = some x → w.cell? ⟨b, off + k, none⟩ = some (.int .i64 x))

theorem keeps_cell {S : List Nat} {w w' : World} (h : Keeps S w w') {p : Addr} (hp : p.block < w.heap.size) (hS : p.block ∉ S) : w'.cell? p = w.cell? p := World.cell?_of_block (h.block p.block hp hS)
theorem Slc.keeps {w w' : World} {A : Option Addr} {xs : List Int} (h : Slc w A xs) (hk : Keeps [] w w') : Slc w' A xs := by
  refine ⟨h.1, ?_⟩
  rcases h.2 with h | ⟨b, off, hA, hb, hc⟩
  · exact .inl h
  · exact .inr ⟨b, off, hA, Nat.lt_of_lt_of_le hb hk.size, fun k x hx => (keeps_cell hk hb (by simp)).trans (hc k x hx)⟩
theorem Slc.of_ints {w : World} {A : Option Addr} {n cap : Nat} {xs : List Int} (h : Ints .i64 w A n cap xs) : Slc w A xs := by
  obtain ⟨h1, h2, h3, _, h4⟩ := h
  refine ⟨by omega, ?_⟩
  by_cases hn : n = 0
  · exact .inl (List.eq_nil_of_length_eq_zero (by omega))
  · obtain ⟨ad, rfl, hlt, hc⟩ := h4 (by omega)
    have hx : ∀ k x, xs[k]? = some x → w.cell? (ad.add k) = some (.int .i64 x) := fun k x hx => hc k _ (by rw [List.getElem?_map, hx]; rfl)
    obtain ⟨x0, hx0⟩ : ∃ x, xs[0]? = some x := ⟨_, List.getElem?_eq_getElem (by omega)⟩
    have hs := World.cell?_spot (hx 0 x0 hx0)
    obtain ⟨b, off, sp⟩ := ad
    simp [Addr.add] at hs
    subst hs
    refine .inr ⟨b, off, rfl, hlt, fun k x hk => ?_⟩
    have := hx k x hk
    have e : (⟨b, off, none⟩ : Addr).add k = ⟨b, off + k, none⟩ := by unfold Addr.add; split <;> simp_all
    rwa [e] at this
theorem Slc.of_own {w : World} {base n e : Nat} {v : Value} {l : List Int} (h : w.ownsRow base e 1 v n (l.map (Value.int .i64))) (hf : l.length ≤ maxLen) : ∃ A c, v = .slice A n c ∧ n = l.length ∧ Slc w A l := by
  have hn : n = l.length := by have := h.1; simp at this; omega
  rcases h.2 with ⟨rfl, h0⟩ | ⟨g, cap, cur, rfl, hb, hg, h1, h2, h3, h4⟩
  · exact ⟨none, 0, by rw [h0], hn, hf, .inl (List.eq_nil_of_length_eq_zero (by omega))⟩
  · refine ⟨_, _, rfl, hn, hf, .inr ⟨g, 0, rfl, (Array.getElem?_eq_some_iff.1 hg).1, fun k x hx => ?_⟩⟩
    have hc := h.cells (g := g) rfl k (.int .i64 x) (by rw [List.getElem?_map, hx]; rfl)
    have e : (⟨g, 0, none⟩ : Addr).add k = ⟨g, 0 + k, none⟩ := by unfold Addr.add; split <;> simp_all
    rwa [e] at hc
end Go.Proofs.Ytcoekpomiljofaa
