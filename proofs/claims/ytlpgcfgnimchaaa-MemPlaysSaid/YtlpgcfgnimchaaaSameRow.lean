/- quashlaw01.sameRow over two slices that hold the same; slices read. -/
import Derived.Test.YtlpgcfgnimchaaaOpen
import Derived.Test.YtlpgcfgnimchaaaRowIDefs
import Derived.Test.YtlpgcfgnimchaaaProg
import Derived.BigQuiet
import Derived.Deep.QuietTactic
import Derived.Outline
import Derived.Handy
namespace Go.Proofs.Ytlpgcfgnimchaaa
open Go.RowKit
set_option linter.unusedVariables false

/-- A slice whose first cells are xs. -/
def Slc (w : World) (A : Option Addr) (xs : List Int) : Prop :=
  xs.length ≤ maxLen ∧ (xs = [] ∨ ∃ b off, A = some ⟨b, off, none⟩ ∧ b < w.heap.size ∧ ∀ k x, xs[k]? = some x → w.cell? ⟨b, off + k, none⟩ = some (.int .i64 x))

theorem keeps_cell {S : List Nat} {w w' : World} (h : Keeps S w w') {p : Addr} (hp : p.block < w.heap.size) (hS : p.block ∉ S) : w'.cell? p = w.cell? p := World.cell?_of_block (h.block p.block hp hS)
theorem Slc.keeps {w w' : World} {A : Option Addr} {xs : List Int} (h : Slc w A xs) (hk : Keeps [] w w') : Slc w' A xs := by
  refine ⟨h.1, ?_⟩
  rcases h.2 with h | ⟨b, off, hA, hb, hc⟩
  · exact .inl h
  · exact .inr ⟨b, off, hA, Nat.lt_of_lt_of_le hb hk.size, fun k x hx => (keeps_cell hk hb (by simp)).trans (hc k x hx)⟩
theorem Slc.of_ints {w : World} {A : Option Addr} {n cap : Nat} {xs : List Int} (h : Ints .i64 w A n cap xs) : Slc w A xs := by
  obtain ⟨h1, h2, h3, _, h4⟩ := h
  refine ⟨by omega, ?_⟩
  by_cases hn : n = 0
  · exact .inl (List.eq_nil_of_length_eq_zero (by omega))
  · obtain ⟨ad, rfl, hlt, hc⟩ := h4 (by omega)
    have hx : ∀ k x, xs[k]? = some x → w.cell? (ad.add k) = some (.int .i64 x) := fun k x hx => hc k _ (by rw [List.getElem?_map, hx]; rfl)
    obtain ⟨x0, hx0⟩ : ∃ x, xs[0]? = some x := ⟨_, List.getElem?_eq_getElem (by omega)⟩
    have hs := World.cell?_spot (hx 0 x0 hx0)
    obtain ⟨b, off, sp⟩ := ad
    simp [Addr.add] at hs
    subst hs
    refine .inr ⟨b, off, rfl, hlt, fun k x hk => ?_⟩
    have := hx k x hk
    have e : (⟨b, off, none⟩ : Addr).add k = ⟨b, off + k, none⟩ := by unfold Addr.add; split <;> simp_all
    rwa [e] at this
theorem Slc.of_blk {w : World} {b : Nat} {l : List Int} (h : Blk w b 2 (l.flatMap RowI.cells).toArray) (hf : l.length ≤ maxLen) : Slc w (some ⟨b, 0, none⟩) l :=
  ⟨hf, .inr ⟨b, 0, rfl, h.lt, fun k x hx => by rw [Nat.zero_add, h.cell]; simpa using RowI.cells_get l k x hx⟩⟩
theorem Slc.of_own {w : World} {base n : Nat} {v : Value} {l : List Int} (h : w.ownsRow base 2 1 v n (l.flatMap RowI.cells)) (hf : l.length ≤ maxLen) : ∃ A c, v = .slice A n c ∧ n = l.length ∧ Slc w A l := by
  have hn : n = l.length := by have := h.1; rw [RowI.cells_map] at this; simp at this; omega
  rcases h.2 with ⟨rfl, h0⟩ | ⟨g, cap, cur, rfl, hb, hg, h1, h2, h3, h4⟩
  · exact ⟨none, 0, by rw [h0], hn, hf, .inl (List.eq_nil_of_length_eq_zero (by omega))⟩
  · refine ⟨_, _, rfl, hn, hf, .inr ⟨g, 0, rfl, (Array.getElem?_eq_some_iff.1 hg).1, fun k x hx => ?_⟩⟩
    have hc := h.cells (g := g) rfl k (.int .i64 x) (by rw [RowI.cells_map, List.getElem?_map, hx]; rfl)
    have e : (⟨g, 0, none⟩ : Addr).add k = ⟨g, 0 + k, none⟩ := by unfold Addr.add; split <;> simp_all
    rwa [e] at hc

theorem sameRow_yes (w : World) (A B : Option Addr) (xs : List Int) (c d : Nat) (hA : Slc w A xs) (hB : Slc w B xs) :
    Calls Try.prog 31 #[.slice A xs.length c, .slice B xs.length d] w fun e w' => e = .returned (.bool true) ∧ Keeps [] w w' := by
  have hlen := hA.1
  have HA := Lib.hid hA
  have HB := Lib.hid hB
  clear hA hB
  unfold maxLen at hlen
  go_enter Try.func31, Try.ntmps31
  go_wp2
  go_loopw [5] (fun i wr => ∃ k : Nat, k ≤ xs.length ∧ i = .int .i64 k ∧ Keeps [] w wr) (fun i _ => xs.length - (intOf i).toNat)
  case atStart => exact ⟨0, Nat.zero_le _, rfl, Keeps.refl _ _⟩
  case round =>
    obtain ⟨k, hk, rfl, hkr⟩ := hrel
    have HK := Lib.hid hkr
    clear hkr
    by_cases hlt : k < xs.length
    · obtain ⟨x, hx⟩ : ∃ x, xs[k]? = some x := ⟨_, List.getElem?_eq_getElem hlt⟩
      rcases (HA.out.keeps HK.out).2 with h0 | ⟨b, off, rfl, hb, hc⟩
      · subst h0; simp at hlt
      rcases (HB.out.keeps HK.out).2 with h0 | ⟨b', off', rfl, hb', hc'⟩
      · subst h0; simp at hlt
      have d1 := hc k x hx
      have d2 := hc' k x hx
      clear hc hc' hx
      have g1 : (0 : Int) ≤ (k : Int) := by omega
      have g2 : (k : Int) < (xs.length : Int) := by omega
      go_wp2
      go_quiet (fail)
      go_wp2
      go_roundw
      case rel => exact ⟨k + 1, by omega, by go_num, HK.out.drewN _⟩
      case measure => simp [intOf]; omega
    · have hge : ¬ ((k : Int) < (xs.length : Int)) := by omega
      go_wp2
      go_ret
      exact ⟨rfl, HK.out⟩
end Go.Proofs.Ytlpgcfgnimchaaa
