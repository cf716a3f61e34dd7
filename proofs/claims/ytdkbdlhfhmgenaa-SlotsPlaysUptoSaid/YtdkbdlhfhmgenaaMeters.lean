/- quashlaw01.meters, quashref01.Same: two meters that hold the same say so; two logs that are the same are the same. -/
import Derived.Test.YtdkbdlhfhmgenaaMeter
import Derived.BigQuiet
import Derived.Deep.QuietTactic
namespace Go.Proofs.Ytdkbdlhfhmgenaa
open Go.RowKit
set_option linter.unusedVariables false

/-- A slice of accesses at the head of a block. -/
def LogSlc (w : World) (A : Option Addr) (l : List Acc) : Prop :=
  l.length ≤ 2199023255552 ∧ (l = [] ∨ ∃ b, A = some ⟨b, 0, none⟩ ∧ b < w.heap.size ∧ ∀ k x, l[k]? = some x → ∀ j u, x.cells[j]? = some u → w.cell? ⟨b, k * 6 + j, none⟩ = some u)
theorem LogSlc.keeps {w w' : World} {A : Option Addr} {l : List Acc} (h : LogSlc w A l) (hk : Keeps [] w w') : LogSlc w' A l := by
  refine ⟨h.1, h.2.imp id ?_⟩
  rintro ⟨b, hA, hb, hc⟩
  exact ⟨b, hA, Nat.lt_of_lt_of_le hb hk.size, fun k x hx j u hu => (World.cell?_of_block (hk.block b hb (by simp))).trans (hc k x hx j u hu)⟩
theorem logCells_get (l : List Acc) (k : Nat) (x : Acc) (hx : l[k]? = some x) (j : Nat) (u : Value) (hu : x.cells[j]? = some u) : (logCells l)[k * 6 + j]? = some u := by
  induction l generalizing k with
  | nil => simp at hx
  | cons y l ih =>
    have hj : j < 6 := by have := (List.getElem?_eq_some_iff.1 hu).1; simpa [Acc.cells] using this
    have e : logCells (y :: l) = y.cells ++ logCells l := by simp [logCells]
    rw [e]
    cases k with
    | zero =>
      simp at hx
      subst hx
      rw [Nat.zero_mul, Nat.zero_add, List.getElem?_append_left (by simpa [Acc.cells] using hj)]
      exact hu
    | succ k =>
      rw [List.getElem?_append_right (by simp [Acc.cells]; omega)]
      have := ih k (by simpa using hx)
      have e2 : (k + 1) * 6 + j - y.cells.length = k * 6 + j := by simp [Acc.cells]; omega
      rw [e2]
      exact this
theorem LogSlc.of_own {w : World} {base n : Nat} {v : Value} {l : List Acc} (h : w.ownsRow base 101 6 v n (logCells l)) (hl : l.length ≤ 2199023255552) : ∃ A c, v = .slice A n c ∧ n = l.length ∧ LogSlc w A l := by
  have hn : n = l.length := by have := h.1; rw [logCells_length] at this; omega
  rcases h.2 with ⟨rfl, h0⟩ | ⟨g, cap, cur, rfl, hb, hg, h1, h2, h3, h4⟩
  · exact ⟨none, 0, by rw [h0], hn, hl, .inl (List.eq_nil_of_length_eq_zero (by omega))⟩
  · refine ⟨_, _, rfl, hn, hl, .inr ⟨g, rfl, (Array.getElem?_eq_some_iff.1 hg).1, fun k x hx j u hu => ?_⟩⟩
    have hc := h.cells (g := g) rfl (k * 6 + j) u (logCells_get l k x hx j u hu)
    have e : (⟨g, 0, none⟩ : Addr).add (k * 6 + j) = ⟨g, k * 6 + j, none⟩ := by unfold Addr.add; split <;> simp_all
    rwa [e] at hc

theorem same_yes (w : World) (A B : Option Addr) (l : List Acc) (c d : Nat) (hA : LogSlc w A l) (hB : LogSlc w B l) :
    Calls Try.prog 21 #[.slice A l.length c, .slice B l.length d] w fun e w' => e = .returned (.bool true) ∧ Keeps [] w w' := by
  have hlen := hA.1
  have HA := Lib.hid hA
  have HB := Lib.hid hB
  clear hA hB
  go_enter Try.func21, Try.ntmps21
  go_wp2
  go_loopw [5] (fun i wr => ∃ k : Nat, k ≤ l.length ∧ i = .int .i64 k ∧ Keeps [] w wr) (fun i _ => l.length - (intOf i).toNat)
  case atStart => exact ⟨0, Nat.zero_le _, rfl, Keeps.refl _ _⟩
  case round =>
    obtain ⟨k, hk, rfl, hkr⟩ := hrel
    have HK := Lib.hid hkr
    clear hkr
    by_cases hlt : k < l.length
    · obtain ⟨x, hx⟩ : ∃ x, l[k]? = some x := ⟨_, List.getElem?_eq_getElem hlt⟩
      rcases (HA.out.keeps HK.out).2 with h0 | ⟨b, rfl, hb, hc⟩
      · subst h0; simp at hlt
      rcases (HB.out.keeps HK.out).2 with h0 | ⟨b', rfl, hb', hc'⟩
      · subst h0; simp at hlt
      have d0 : wr.cell? ⟨b, k * 6, none⟩ = some (.int .i64 x.step) := hc k x hx 0 _ rfl
      have d1 : wr.cell? ⟨b, k * 6 + 1, none⟩ = some (.int .i64 x.thread) := hc k x hx 1 _ rfl
      have d2 : wr.cell? ⟨b, k * 6 + 2, none⟩ = some (.int .i64 x.kind) := hc k x hx 2 _ rfl
      have d3 : wr.cell? ⟨b, k * 6 + 3, none⟩ = some (.int .i64 x.place) := hc k x hx 3 _ rfl
      have d4 : wr.cell? ⟨b, k * 6 + 4, none⟩ = some (.int .i64 x.op) := hc k x hx 4 _ rfl
      have d5 : wr.cell? ⟨b, k * 6 + 5, none⟩ = some (.bool x.ok) := hc k x hx 5 _ rfl
      have e0 : wr.cell? ⟨b', k * 6, none⟩ = some (.int .i64 x.step) := hc' k x hx 0 _ rfl
      have e1 : wr.cell? ⟨b', k * 6 + 1, none⟩ = some (.int .i64 x.thread) := hc' k x hx 1 _ rfl
      have e2 : wr.cell? ⟨b', k * 6 + 2, none⟩ = some (.int .i64 x.kind) := hc' k x hx 2 _ rfl
      have e3 : wr.cell? ⟨b', k * 6 + 3, none⟩ = some (.int .i64 x.place) := hc' k x hx 3 _ rfl
      have e4 : wr.cell? ⟨b', k * 6 + 4, none⟩ = some (.int .i64 x.op) := hc' k x hx 4 _ rfl
      have e5 : wr.cell? ⟨b', k * 6 + 5, none⟩ = some (.bool x.ok) := hc' k x hx 5 _ rfl
      clear hc hc' hx
      have g1 : (0 : Int) ≤ (k : Int) := by omega
      have g2 : (k : Int) < (l.length : Int) := by omega
      go_wp2
      go_quiet (fail)
      go_wp2
      go_roundw
      case rel => exact ⟨k + 1, by omega, by go_num, HK.out.drewN _⟩
      case measure => simp [intOf]; omega
    · have hge : ¬ ((k : Int) < (l.length : Int)) := by omega
      go_wp2
      go_ret
      exact ⟨rfl, HK.out⟩
end Go.Proofs.Ytdkbdlhfhmgenaa
