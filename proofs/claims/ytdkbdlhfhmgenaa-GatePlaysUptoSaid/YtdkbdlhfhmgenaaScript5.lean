/- A script of quashlaw05.Op: what its steps hold, and how it is opened under the second form's bound. -/
import Derived.Test.YtdkbdlhfhmgenaaOpen
import Derived.Test.YtdkbdlhfhmgenaaBulk
import Derived.Test.YtdkbdlhfhmgenaaProg
namespace Go.Proofs.Ytdkbdlhfhmgenaa
open Go.ChangeShapes Go.WideShapes Go.Deep Go.RowKit
set_option linter.unusedVariables false
/-- A step. -/
structure Op5 where
  other : Bool
  kind : Int
  thread : Int
instance : Inhabited Op5 := ⟨⟨false, 0, 0⟩⟩
/-- The step in the block b from the offset o on. -/
structure Op5.At (w : World) (b o : Nat) (p : Op5) : Prop where
  c0 : w.cell? ⟨b, o, none⟩ = some (.bool p.other)
  c1 : w.cell? ⟨b, o + 1, none⟩ = some (.int .i64 p.kind)
  c2 : w.cell? ⟨b, o + 2, none⟩ = some (.int .i64 p.thread)
  w1 : (Lit.int IntKind.i64 p.kind).wf = true
  w2 : (Lit.int IntKind.i64 p.thread).wf = true
/-- A slice of steps. -/
def Script5 (w : World) (A : Option Addr) (n cap : Nat) (ops : List Op5) : Prop :=
  ops.length = n ∧ n ≤ cap ∧ n ≤ 1048576 ∧ cap ≤ maxLen ∧ (0 < n → ∃ b off, A = some ⟨b, off, none⟩ ∧ b < w.heap.size ∧ ∀ i p, ops[i]? = some p → Op5.At w b (off + i * 3) p)
theorem Op5.At.below {w w' : World} {b o : Nat} {p : Op5} (h : Op5.At w b o p) (hb : b < w.heap.size) (hw : Below w.heap.size w w') : Op5.At w' b o p := by
  obtain ⟨h0, h1, h2, k1, k2⟩ := h
  exact ⟨(hw.cell hb).trans h0, (hw.cell hb).trans h1, (hw.cell hb).trans h2, k1, k2⟩
theorem Script5.at_ {w : World} {A : Option Addr} {n cap : Nat} {ops : List Op5} (h : Script5 w A n cap ops) {k : Nat} (hk : k < n) :
    ∃ b off p, A = some ⟨b, off, none⟩ ∧ ops[k]? = some p ∧ ∀ w', Below w.heap.size w w' → Op5.At w' b (off + k * 3) p := by
  obtain ⟨hl, _, _, _, h⟩ := h
  obtain ⟨b, off, hA, hb, hc⟩ := h (by omega)
  have hx : ops[k]? = some (ops[k]'(by omega)) := List.getElem?_eq_getElem (by omega)
  exact ⟨b, off, _, hA, hx, fun w' hw => (hc k _ hx).below hb hw⟩
section
variable {H : Type} {enc : TypeId × Value → H} {w : World} {base : Nat} {spare : Nat → Bool} {held : Bool}
theorem add_at5 {w : World} {a : Addr} {k : Nat} {v : Value} (h : w.cell? (a.add k) = some v) : w.cell? ⟨a.block, a.off + k, none⟩ = some v := by
  have hs := World.cell?_spot h
  obtain ⟨b, o, s⟩ := a
  by_cases hk : k = 0
  · subst hk
    simp [Addr.add] at hs
    subst hs
    simpa [Addr.add] using h
  · simpa [Addr.add, hk] using h
theorem addr_none5 {w : World} {a : Addr} {v : Value} (h : w.cell? (a.add 0) = some v) : a = ⟨a.block, a.off, none⟩ := by
  have hs := World.cell?_spot h
  obtain ⟨b, o, s⟩ := a
  simp [Addr.add] at hs
  simp [hs]
theorem script5_open {fuel : Nat} {A : Option Addr} {n cap : Nat} {x : DataW H × List MemPlace} (h : DataW.trod enc Try.prog w base spare held fuel 22 [.slice A n cap] = some x)
    (hsz : Rows.uptoBulk x.1 ≤ 1048576) : ∃ ops, Script5 w A n cap ops := by
  have hbn : n ≤ 1048576 := by
    rcases open_slice Try.underlying22 h with ⟨hcs, _⟩ | ⟨a, len, c, m, q, D, Pl, hcs, _, _, _, _, hx, _⟩
    · simp at hcs
      omega
    · simp at hcs
      obtain ⟨rfl, rfl, rfl⟩ := hcs
      rw [hx] at hsz
      have h1 := Nat.le_trans (bulks.slice_le ((List.range n).map D) ((List.range (m - n)).map fun j => D (n + j))) hsz
      simp only [List.length_map, List.length_range] at h1
      omega
  rcases open_rows Try.underlying22 Try.underlying29 (by kernel_rfl) (by kernel_rfl) h with hcs | ⟨a, len, c, hcs, hl, hm, _, hf⟩
  · simp at hcs
    obtain ⟨rfl, rfl, rfl⟩ := hcs
    exact ⟨[], rfl, Nat.le_refl _, by omega, by decide, fun h => absurd h (by omega)⟩
  · simp at hcs
    obtain ⟨rfl, rfl, rfl⟩ := hcs
    have one : ∀ i, i < n → ∃ p : Op5, (i = 0 → a = ⟨a.block, a.off, none⟩) ∧ a.block < w.heap.size ∧ Op5.At w a.block (a.off + i * 3) p := by
      intro i hi
      obtain ⟨m, hm⟩ := hf i hi
      obtain ⟨v0, y0, k0, t0, s0⟩ := hm 0 _ rfl
      obtain ⟨v1, y1, k1, t1, s1⟩ := hm 1 _ rfl
      obtain ⟨v2, y2, k2, t2, s2⟩ := hm 2 _ rfl
      obtain ⟨x0, e0, _⟩ := DataW.trod_bool Try.underlying4 t0
      obtain ⟨x1, e1, _, q1⟩ := DataW.trod_int Try.underlying3 t1
      obtain ⟨x2, e2, _, q2⟩ := DataW.trod_int Try.underlying3 t2
      simp at e0 e1 e2
      subst e0 e1 e2
      refine ⟨⟨x0, x1, x2⟩, fun hi0 => ?_, ?_, ?_⟩
      · subst hi0; exact addr_none5 k0
      · have := World.block_lt_of_cell? w _ k0
        rwa [block_add] at this
      · exact ⟨add_at5 k0, add_at5 k1, add_at5 k2, q1, q2⟩
    obtain ⟨F, hF⟩ := choose_lt one
    refine ⟨(List.range n).map F, by simp, hl, hbn, hm, fun hn => ⟨a.block, a.off, ?_, (hF 0 hn).2.1, ?_⟩⟩
    · exact congrArg some ((hF 0 hn).1 rfl)
    · intro i p hp
      rw [List.getElem?_map] at hp
      by_cases hi : i < n
      · rw [List.getElem?_range hi] at hp
        simp at hp
        subst hp
        exact (hF i hi).2.2
      · rw [List.getElem?_eq_none (by simp; omega)] at hp
        cases hp
end
end Go.Proofs.Ytdkbdlhfhmgenaa
