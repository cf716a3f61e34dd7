/- A slice of api.Pair that came in: what its elements hold, how it is opened. -/
import Derived.Test.YtcoekpomiljofaaGreatOpenS
namespace Go.Proofs.YtcoekpomiljofaaGreat
open Go.ChangeShapes Go.WideShapes Go.Deep Go.RowKit
set_option linter.unusedVariables false
structure ElPair where
  cell : Int
  x : Int
instance : Inhabited ElPair := ⟨⟨0, 0⟩⟩
def ElPair.cells (p : ElPair) : List Value := [.int .i64 p.cell, .int .i64 p.x]
/-- The element in the block b from the offset o on. -/
structure ElPair.At (w : World) (b o : Nat) (p : ElPair) : Prop where
  c0 : w.cell? ⟨b, o, none⟩ = some (.int .i64 p.cell)
  c1 : w.cell? ⟨b, o + 1, none⟩ = some (.int .i64 p.x)
  w0 : (Lit.int IntKind.i64 p.cell).wf = true
  w1 : (Lit.int IntKind.i64 p.x).wf = true
/-- A slice of them. -/
def LstPair (w : World) (A : Option Addr) (n cap : Nat) (l : List ElPair) : Prop :=
  l.length = n ∧ n ≤ cap ∧ cap ≤ maxLen ∧ (0 < n → ∃ b off, A = some ⟨b, off, none⟩ ∧ b < w.heap.size ∧ ∀ i p, l[i]? = some p → ElPair.At w b (off + i * 2) p)
theorem ElPair.At.keeps {w w' : World} {b o : Nat} {p : ElPair} (h : ElPair.At w b o p) (hb : b < w.heap.size) (hk : Keeps [] w w') : ElPair.At w' b o p := by
  have hc : ∀ o, w'.cell? ⟨b, o, none⟩ = w.cell? ⟨b, o, none⟩ := fun o => World.cell?_of_block (hk.block b hb (by simp))
  obtain ⟨h0, h1, k0, k1⟩ := h
  exact ⟨(hc _).trans h0, (hc _).trans h1, k0, k1⟩
theorem LstPair.at_ {w : World} {A : Option Addr} {n cap : Nat} {l : List ElPair} (h : LstPair w A n cap l) {k : Nat} (hk : k < n) :
    ∃ b off p, A = some ⟨b, off, none⟩ ∧ l[k]? = some p ∧ ∀ w', Keeps [] w w' → ElPair.At w' b (off + k * 2) p := by
  obtain ⟨hl, _, _, h⟩ := h
  obtain ⟨b, off, hA, hb, hc⟩ := h (by omega)
  have hx : l[k]? = some (l[k]'(by omega)) := List.getElem?_eq_getElem (by omega)
  exact ⟨b, off, _, hA, hx, fun w' hw => (hc k _ hx).keeps hb hw⟩
section
variable {H : Type} {enc : TypeId × Value → H} {w : World} {base : Nat} {spare : Nat → Bool} {held : Bool}
theorem elPair_open {n : Nat} {cs : List Value} {y : DataW H × List MemPlace} (hl : cs.length = 2) (h : DataW.trod enc Tryz.prog w base spare held n 62 cs = some y) : ∃ p : ElPair, cs = p.cells ∧ (Lit.int IntKind.i64 p.cell).wf = true ∧ (Lit.int IntKind.i64 p.x).wf = true := by
  obtain ⟨c0, c1, rfl⟩ : ∃ c0 c1, cs = [c0, c1] := by
    match cs, hl with
    | [c0, c1], _ => exact ⟨_, _, rfl⟩
  obtain ⟨n0, y0, t0⟩ := trod_field Tryz.underlying62 h 0 _ rfl 1 (by kernel_rfl) [c0] rfl
  obtain ⟨x0, e0, _, q0⟩ := DataW.trod_int Tryz.underlying3 t0
  simp at e0
  obtain ⟨n1, y1, t1⟩ := trod_field Tryz.underlying62 h 1 _ rfl 1 (by kernel_rfl) [c1] rfl
  obtain ⟨x1, e1, _, q1⟩ := DataW.trod_int Tryz.underlying2 t1
  simp at e1
  exact ⟨⟨x0, x1⟩, by rw [e0, e1]; rfl, q0, q1⟩
theorem lstPair_open {fuel : Nat} {A : Option Addr} {n cap : Nat} {x : DataW H × List MemPlace} (h : DataW.trod enc Tryz.prog w base spare held fuel 22 [.slice A n cap] = some x) : ∃ l, LstPair w A n cap l := by
  rcases open_els Tryz.underlying22 (C := 2) (by kernel_rfl) h with hcs | ⟨a, len, c, hcs, hl, hm, hf⟩
  · simp at hcs
    obtain ⟨rfl, rfl, rfl⟩ := hcs
    exact ⟨[], rfl, Nat.le_refl _, by decide, fun h => absurd h (by omega)⟩
  · simp at hcs
    obtain ⟨rfl, rfl, rfl⟩ := hcs
    have one : ∀ i, i < n → ∃ p : ElPair, (i = 0 → a = ⟨a.block, a.off, none⟩) ∧ a.block < w.heap.size ∧ ElPair.At w a.block (a.off + i * 2) p := by
      intro i hi
      obtain ⟨m, cs', y, hlen, hcell, ht⟩ := hf i hi
      obtain ⟨p, rfl, v0, v1⟩ := elPair_open hlen ht
      have k0 := hcell 0 _ rfl
      refine ⟨p, fun hi0 => ?_, ?_, ?_⟩
      · subst hi0; exact addrNone (by simpa using k0)
      · have := World.block_lt_of_cell? w _ k0
        rwa [block_add] at this
      · exact ⟨addAt (hcell 0 _ rfl), addAt (hcell 1 _ rfl), v0, v1⟩
    obtain ⟨F, hF⟩ := choose_lt one
    refine ⟨(List.range n).map F, by simp, hl, hm, fun hn => ⟨a.block, a.off, ?_, (hF 0 hn).2.1, ?_⟩⟩
    · exact congrArg some ((hF 0 hn).1 rfl)
    · intro i p hp
      rw [List.getElem?_map] at hp
      by_cases hi : i < n
      · rw [List.getElem?_range hi] at hp
        simp at hp
        subst hp
        exact (hF i hi).2.2
      · rw [List.getElem?_eq_none (by simp; omega)] at hp
        cases hp
end
end Go.Proofs.YtcoekpomiljofaaGreat
