/- A script of quashlaw10.Op: what its steps hold, and how it is opened under the second form's bound. -/
import Derived.Test.YtdhgiohjdhcedaaGreatOpen
import Derived.Test.YtdhgiohjdhcedaaGreatOpenS
import Derived.Test.YtdhgiohjdhcedaaGreatProg
namespace Go.Proofs.YtdhgiohjdhcedaaGreat
open Go.ChangeShapes Go.WideShapes Go.Deep Go.RowKit
set_option linter.unusedVariables false
/-- A step. -/
structure Op10 where
  kind : Int
  mm : Int
  i : Int
  n : Int
  x : Int
instance : Inhabited Op10 := ⟨⟨0, 0, 0, 0, 0⟩⟩
/-- The step in the block b from the offset o on. -/
structure Op10.At (w : World) (b o : Nat) (p : Op10) : Prop where
  c0 : w.cell? ⟨b, o, none⟩ = some (.int .i64 p.kind)
  c1 : w.cell? ⟨b, o + 1, none⟩ = some (.int .i64 p.mm)
  c2 : w.cell? ⟨b, o + 2, none⟩ = some (.int .i64 p.i)
  c3 : w.cell? ⟨b, o + 3, none⟩ = some (.int .i64 p.n)
  c4 : w.cell? ⟨b, o + 4, none⟩ = some (.int .i64 p.x)
  w0 : (Lit.int IntKind.i64 p.kind).wf = true
  w1 : (Lit.int IntKind.i64 p.mm).wf = true
  w2 : (Lit.int IntKind.i64 p.i).wf = true
  w3 : (Lit.int IntKind.i64 p.n).wf = true
  w4 : (Lit.int IntKind.i64 p.x).wf = true
/-- A slice of steps. -/
def Script10 (w : World) (A : Option Addr) (n cap : Nat) (ops : List Op10) : Prop :=
  ops.length = n ∧ n ≤ cap ∧ n ≤ 1048576 ∧ cap ≤ maxLen ∧ (0 < n → ∃ b off, A = some ⟨b, off, none⟩ ∧ b < w.heap.size ∧ ∀ i p, ops[i]? = some p → Op10.At w b (off + i * 5) p)
theorem Op10.At.below {w w' : World} {b o : Nat} {p : Op10} (h : Op10.At w b o p) (hb : b < w.heap.size) (hw : Below w.heap.size w w') : Op10.At w' b o p := by
  obtain ⟨h0, h1, h2, h3, h4, k0, k1, k2, k3, k4⟩ := h
  exact ⟨(hw.cell hb).trans h0, (hw.cell hb).trans h1, (hw.cell hb).trans h2, (hw.cell hb).trans h3, (hw.cell hb).trans h4, k0, k1, k2, k3, k4⟩
theorem Script10.at_ {w : World} {A : Option Addr} {n cap : Nat} {ops : List Op10} (h : Script10 w A n cap ops) {k : Nat} (hk : k < n) :
    ∃ b off p, A = some ⟨b, off, none⟩ ∧ ops[k]? = some p ∧ ∀ w', Below w.heap.size w w' → Op10.At w' b (off + k * 5) p := by
  obtain ⟨hl, _, _, _, h⟩ := h
  obtain ⟨b, off, hA, hb, hc⟩ := h (by omega)
  have hx : ops[k]? = some (ops[k]'(by omega)) := List.getElem?_eq_getElem (by omega)
  exact ⟨b, off, _, hA, hx, fun w' hw => (hc k _ hx).below hb hw⟩
section
variable {H : Type} {enc : TypeId × Value → H} {w : World} {base : Nat} {spare : Nat → Bool} {held : Bool}
theorem add_at10 {w : World} {a : Addr} {k : Nat} {v : Value} (h : w.cell? (a.add k) = some v) : w.cell? ⟨a.block, a.off + k, none⟩ = some v := by
  have hs := World.cell?_spot h
  obtain ⟨b, o, s⟩ := a
  by_cases hk : k = 0
  · subst hk
    simp [Addr.add] at hs
    subst hs
    simpa [Addr.add] using h
  · simpa [Addr.add, hk] using h
theorem addr_none10 {w : World} {a : Addr} {v : Value} (h : w.cell? (a.add 0) = some v) : a = ⟨a.block, a.off, none⟩ := by
  have hs := World.cell?_spot h
  obtain ⟨b, o, s⟩ := a
  simp [Addr.add] at hs
  simp [hs]
theorem script10_open {fuel : Nat} {A : Option Addr} {n cap : Nat} {x : DataW H × List MemPlace} (h : DataW.trod enc Tryz.prog w base spare held fuel 132 [.slice A n cap] = some x)
    (hsz : Rows.uptoBulk x.1 ≤ 1048576) : ∃ ops, Script10 w A n cap ops := by
  have hbn : n ≤ 1048576 := by
    rcases open_slice Tryz.underlying132 h with ⟨hcs, _⟩ | ⟨a, len, c, m, q, D, Pl, hcs, _, _, _, _, hx, _⟩
    · simp at hcs
      omega
    · simp at hcs
      obtain ⟨rfl, rfl, rfl⟩ := hcs
      rw [hx] at hsz
      have h1 := Nat.le_trans (bulks.slice_le ((List.range n).map D) ((List.range (m - n)).map fun j => D (n + j))) hsz
      simp only [List.length_map, List.length_range] at h1
      omega
  rcases open_rows Tryz.underlying132 Tryz.underlying138 (by kernel_rfl) (by kernel_rfl) h with hcs | ⟨a, len, c, hcs, hl, hm, _, hf⟩
  · simp at hcs
    obtain ⟨rfl, rfl, rfl⟩ := hcs
    exact ⟨[], rfl, Nat.le_refl _, by omega, by decide, fun h => absurd h (by omega)⟩
  · simp at hcs
    obtain ⟨rfl, rfl, rfl⟩ := hcs
    have one : ∀ i, i < n → ∃ p : Op10, (i = 0 → a = ⟨a.block, a.off, none⟩) ∧ a.block < w.heap.size ∧ Op10.At w a.block (a.off + i * 5) p := by
      intro i hi
      obtain ⟨m, hm⟩ := hf i hi
      obtain ⟨v0, y0, k0, t0, s0⟩ := hm 0 _ rfl
      obtain ⟨v1, y1, k1, t1, s1⟩ := hm 1 _ rfl
      obtain ⟨v2, y2, k2, t2, s2⟩ := hm 2 _ rfl
      obtain ⟨v3, y3, k3, t3, s3⟩ := hm 3 _ rfl
      obtain ⟨v4, y4, k4, t4, s4⟩ := hm 4 _ rfl
      obtain ⟨x0, e0, _, q0⟩ := DataW.trod_int Tryz.underlying3 t0
      obtain ⟨x1, e1, _, q1⟩ := DataW.trod_int Tryz.underlying3 t1
      obtain ⟨x2, e2, _, q2⟩ := DataW.trod_int Tryz.underlying3 t2
      obtain ⟨x3, e3, _, q3⟩ := DataW.trod_int Tryz.underlying3 t3
      obtain ⟨x4, e4, _, q4⟩ := DataW.trod_int Tryz.underlying2 t4
      simp at e0 e1 e2 e3 e4
      subst e0 e1 e2 e3 e4
      refine ⟨⟨x0, x1, x2, x3, x4⟩, fun hi0 => ?_, ?_, ?_⟩
      · subst hi0; exact addr_none10 k0
      · have := World.block_lt_of_cell? w _ k0
        rwa [block_add] at this
      · exact ⟨add_at10 k0, add_at10 k1, add_at10 k2, add_at10 k3, add_at10 k4, q0, q1, q2, q3, q4⟩
    obtain ⟨F, hF⟩ := choose_lt one
    refine ⟨(List.range n).map F, by simp, hl, hbn, hm, fun hn => ⟨a.block, a.off, ?_, (hF 0 hn).2.1, ?_⟩⟩
    · exact congrArg some ((hF 0 hn).1 rfl)
    · intro i p hp
      rw [List.getElem?_map] at hp
      by_cases hi : i < n
      · rw [List.getElem?_range hi] at hp
        simp at hp
        subst hp
        exact (hF i hi).2.2
      · rw [List.getElem?_eq_none (by simp; omega)] at hp
        cases hp
end
end Go.Proofs.YtdhgiohjdhcedaaGreat
