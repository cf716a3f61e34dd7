/- What MemPlays asks at its end; a log that is written over. -/
import Derived.Test.YtlpgcfgnimchaaaDuo
import Derived.Laws.OwnMore
namespace Go.Proofs.Ytlpgcfgnimchaaa
open Go.RowKit
set_option linter.unusedVariables false
theorem log_held {wB w : World} (g lb : Nat) (s : MS) (hm : MetAt MT w (some g) lb s) (hl : s.log.length ≤ 2199023255552) (hk : Keeps [] wB w) :
    Calls Try.prog 21 #[.pointer (some ⟨g, 0, none⟩)] w fun e w' => ∃ A c, e = .returned (.slice A s.log.length c) ∧ LogSlc w' A s.log ∧ Keeps [] wB w' :=
  (log_some w g lb s hm hl).mono fun e w' ⟨v, he, h1, h2⟩ => by
    obtain ⟨A, c, hv, _, h3⟩ := LogSlc.of_own h1 hl
    exact ⟨A, c, by rw [he, hv], h3, hk.trans h2 (by simp)⟩
theorem same_held {wB w : World} (A B : Option Addr) (l : List Acc) (c d : Nat) (hA : LogSlc w A l) (hB : LogSlc w B l) (hk : Keeps [] wB w) :
    Calls Try.prog 28 #[.slice A l.length c, .slice B l.length d] w fun e w' => e = .returned (.bool true) ∧ Keeps [] wB w' :=
  (same_yes w A B l c d hA hB).mono fun e w' ⟨he, h2⟩ => ⟨he, hk.trans h2 (by simp)⟩
theorem len_held {wB w : World} (r b : Nat) (kind : Int) (mp : Option Nat) (l : List Int) (n : Nat) (hn : l.length = n) (hr : RowI.At RowI.R w r b kind mp l) (hk : Keeps [] wB w) :
    Calls Try.prog 30 #[.pointer (some ⟨r, 0, none⟩)] w fun e w' => e = .returned (.int .i64 n) ∧ Keeps [] wB w' :=
  (RowI.len_any w r b kind mp l hr).mono fun e w' ⟨he, h2⟩ => ⟨by rw [he, hn], h2 ▸ hk⟩
theorem all_held {wB w : World} (r b : Nat) (kind : Int) (mp : Option Nat) (l : List Int) (n : Nat) (hn : l.length = n) (hr : RowI.At RowI.R w r b kind mp l) (hk : Keeps [] wB w) :
    Calls Try.prog 32 #[.pointer (some ⟨r, 0, none⟩)] w fun e w' => ∃ A c, e = .returned (.slice A n c) ∧ Slc w' A l ∧ Keeps [] wB w' :=
  (RowI.all_any w r b kind mp l hr).mono fun e w' ⟨v, he, h1, h2⟩ => by
    obtain ⟨A, c, hv, _, h3⟩ := Slc.of_own h1 (by have := hr.fits; unfold maxLen; omega)
    exact ⟨A, c, by rw [he, hv, hn], h3, hk.trans h2 (by simp)⟩
theorem sameRow_held {wB w : World} (A B : Option Addr) (xs : List Int) (n c d : Nat) (hn : xs.length = n) (hA : Slc w A xs) (hB : Slc w B xs) (hk : Keeps [] wB w) :
    Calls Try.prog 31 #[.slice A n c, .slice B n d] w fun e w' => e = .returned (.bool true) ∧ Keeps [] wB w' := by
  subst hn
  exact (sameRow_yes w A B xs c d hA hB).mono fun e w' ⟨he, h2⟩ => ⟨he, hk.trans h2 (by simp)⟩
/-- A log of the call's own that is written over. -/
def OverA (wB : World) (S : List Nat) (v : Value) (n : Nat) (wr : World) : Prop := (∃ cs : List Value, wr.ownsRow 0 59 6 v n cs) ∧ Keeps S wB wr
theorem OverA.spot {wB wr : World} {S : List Nat} {A : Option Addr} {n c : Nat} (h : OverA wB S (.slice A n c) n wr) {k : Nat} (hk : k < n) : ∃ g, A = some ⟨g, 0, none⟩ ∧ ∀ j, j < 6 → (∃ u, wr.cell? ⟨g, k * 6 + j, none⟩ = some u) ∧ wr.frozen? ⟨g, k * 6 + j, none⟩ = false := by
  obtain ⟨⟨cs, ho⟩, _⟩ := h
  have hl : cs.length = n * 6 := ho.1
  rcases ho.2 with ⟨h0, h1⟩ | ⟨g, cap, cur, h0, _⟩
  · omega
  · injection h0 with h1 h2 h3
    subst h1 h3
    refine ⟨g, rfl, fun j hj => ⟨?_, ho.frozenAt _⟩⟩
    have hlt : k * 6 + j < n * 6 := by omega
    have hc := ho.cellAt (k * 6 + j) hlt
    rw [List.getElem?_eq_getElem (by omega)] at hc
    exact ⟨_, hc⟩
theorem OverA.put {wB wr : World} {S : List Nat} {g n c : Nat} (h : OverA wB S (.slice (some ⟨g, 0, none⟩) n c) n wr) (hS : g ∈ S) (k : Nat) (u : Value) : OverA wB S (.slice (some ⟨g, 0, none⟩) n c) n (wr.setCell ⟨g, k, none⟩ u) := by
  obtain ⟨⟨cs, ho⟩, hk⟩ := h
  exact ⟨⟨_, (ho.stored k u).1⟩, hk.setCell (.inl hS) _⟩
theorem OverA.of {wr : World} {v : Value} {n base : Nat} {cs : List Value} {S : List Nat} (h : wr.ownsRow base 59 6 v n cs) : OverA wr S v n wr := ⟨⟨cs, own_base h (fun k _ => Nat.zero_le k)⟩, Keeps.refl _ _⟩
theorem acc_row (w : World) (k : Nat) (hk : w.heap.size = k) : (w.alloc (.cells #[.int .i64 (-1), .int .i64 0, .int .i64 0, .int .i64 0, .int .i64 0, .bool false] 59)).ownsRow 0 59 6 (.slice (some ⟨k, 0, none⟩) 1 1) 1 [.int .i64 (-1), .int .i64 0, .int .i64 0, .int .i64 0, .int .i64 0, .bool false] := by
  subst hk
  exact ⟨rfl, .inr ⟨w.heap.size, 1, _, rfl, Nat.zero_le _, heap_alloc_new w _, Nat.le_refl _, by decide, rfl, rfl⟩⟩
theorem acc_ones : ∀ u ∈ [Value.int .i64 (-1), .int .i64 0, .int .i64 0, .int .i64 0, .int .i64 0, .bool false], u.oneCell' = true := by
  intro u hu
  simp only [List.mem_cons, List.not_mem_nil, or_false] at hu
  rcases hu with rfl | rfl | rfl | rfl | rfl | rfl <;> rfl
end Go.Proofs.Ytlpgcfgnimchaaa
