/- A slice of bools that came in: what its elements hold, how it is opened. -/
import Derived.Test.YtcoekpomiljofaaGreatOpenS
namespace Go.Proofs.YtcoekpomiljofaaGreat
open Go.ChangeShapes Go.WideShapes Go.Deep Go.RowKit
set_option linter.unusedVariables false
/-- A slice of bools. -/
def LstFlag (w : World) (A : Option Addr) (n cap : Nat) (l : List Bool) : Prop :=
  l.length = n ∧ n ≤ cap ∧ n ≤ 1048576 ∧ cap ≤ maxLen ∧ (0 < n → ∃ b off, A = some ⟨b, off, none⟩ ∧ b < w.heap.size ∧ ∀ i p, l[i]? = some p → w.cell? ⟨b, off + i, none⟩ = some (.bool p))
theorem LstFlag.at_ {w : World} {A : Option Addr} {n cap : Nat} {l : List Bool} (h : LstFlag w A n cap l) {k : Nat} (hk : k < n) :
    ∃ b off p, A = some ⟨b, off, none⟩ ∧ l[k]? = some p ∧ ∀ w', Keeps [] w w' → w'.cell? ⟨b, off + k, none⟩ = some (.bool p) := by
  obtain ⟨hl, _, _, _, h⟩ := h
  obtain ⟨b, off, hA, hb, hc⟩ := h (by omega)
  have hx : l[k]? = some (l[k]'(by omega)) := List.getElem?_eq_getElem (by omega)
  exact ⟨b, off, _, hA, hx, fun w' hw => (World.cell?_of_block (hw.block b hb (by simp))).trans (hc k _ hx)⟩
section
variable {H : Type} {enc : TypeId × Value → H} {w : World} {base : Nat} {spare : Nat → Bool} {held : Bool}
theorem lstFlag_open {fuel : Nat} {A : Option Addr} {n cap : Nat} {x : DataW H × List MemPlace} (h : DataW.trod enc Tryz.prog w base spare held fuel 23 [.slice A n cap] = some x) (hsz : Rows.uptoBulk x.1 ≤ 1048576) : ∃ l, LstFlag w A n cap l := by
  have hbn : n ≤ 1048576 := by
    rcases open_slice Tryz.underlying23 h with ⟨hcs, _⟩ | ⟨a, len, c, m, q, D, Pl, hcs, _, _, _, _, hx, _⟩
    · simp at hcs
      omega
    · simp at hcs
      obtain ⟨rfl, rfl, rfl⟩ := hcs
      rw [hx] at hsz
      have h1 := Nat.le_trans (bulks.slice_le ((List.range n).map D) ((List.range (m - n)).map fun j => D (n + j))) hsz
      simp only [List.length_map, List.length_range] at h1
      omega
  rcases open_els Tryz.underlying23 (C := 1) (by kernel_rfl) h with hcs | ⟨a, len, c, hcs, hl, hm, hf⟩
  · simp at hcs
    obtain ⟨rfl, rfl, rfl⟩ := hcs
    exact ⟨[], rfl, Nat.le_refl _, by omega, by decide, fun h => absurd h (by omega)⟩
  · simp at hcs
    obtain ⟨rfl, rfl, rfl⟩ := hcs
    have one : ∀ i, i < n → ∃ p : Bool, (i = 0 → a = ⟨a.block, a.off, none⟩) ∧ a.block < w.heap.size ∧ w.cell? ⟨a.block, a.off + i, none⟩ = some (.bool p) := by
      intro i hi
      obtain ⟨m, cs', y, hlen, hcell, ht⟩ := hf i hi
      obtain ⟨c0, rfl⟩ : ∃ c0, cs' = [c0] := by
        match cs', hlen with
        | [c0], _ => exact ⟨_, rfl⟩
      obtain ⟨p, e0, _⟩ := DataW.trod_bool Tryz.underlying4 ht
      simp at e0
      subst e0
      have k0 := hcell 0 _ rfl
      have k1 := addAt k0
      rw [Nat.mul_one, Nat.add_zero] at k1
      refine ⟨p, fun hi0 => ?_, ?_, k1⟩
      · subst hi0; exact addrNone (by simpa using k0)
      · have := World.block_lt_of_cell? w _ k0
        rwa [block_add] at this
    obtain ⟨F, hF⟩ := choose_lt one
    refine ⟨(List.range n).map F, by simp, hl, hbn, hm, fun hn => ⟨a.block, a.off, ?_, (hF 0 hn).2.1, ?_⟩⟩
    · exact congrArg some ((hF 0 hn).1 rfl)
    · intro i p hp
      rw [List.getElem?_map] at hp
      by_cases hi : i < n
      · rw [List.getElem?_range hi] at hp
        simp at hp
        subst hp
        exact (hF i hi).2.2
      · rw [List.getElem?_eq_none (by simp; omega)] at hp
        cases hp
end
end Go.Proofs.YtcoekpomiljofaaGreat
