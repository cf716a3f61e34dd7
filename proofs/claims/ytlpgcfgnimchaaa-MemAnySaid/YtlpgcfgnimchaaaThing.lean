/- A block that holds one thing: told in one word, 'td w z = some x'. -/
import Derived.Test.YtlpgcfgnimchaaaRowSDefs
namespace Go.Proofs.Ytlpgcfgnimchaaa
open Go.RowKit
set_option linter.unusedVariables false
/-- A thing's cells. -/
def tcs (x : Th) : Array Value := #[.string x.s, .int .i64 x.a, .int .i64 x.b]
theorem tcs_inj {x y : Th} (h : tcs x = tcs y) : x = y := by
  obtain ⟨a, b, c⟩ := x
  obtain ⟨a', b', c'⟩ := y
  simp [tcs] at h
  simp [h]
open Classical in
/-- Which thing block z is. -/
noncomputable def td (w : World) (z : Nat) : Option Th := if h : ∃ x, Blk w z 31 (tcs x) then some (Classical.choose h) else none
theorem td_iff {w : World} {z : Nat} {x : Th} : td w z = some x ↔ Blk w z 31 (tcs x) := by
  unfold td
  split
  · rename_i h
    have h1 := Classical.choose_spec h
    constructor
    · intro e; injection e with e; rw [← e]; exact h1
    · intro hx
      have e : some (Obj.cells (tcs (Classical.choose h)) 31 (0, 0)) = some (Obj.cells (tcs x) 31 (0, 0)) := h1.symm.trans hx
      injection e with e
      injection e with e
      rw [tcs_inj e]
  · rename_i h
    constructor
    · intro e; cases e
    · intro hx; exact absurd ⟨x, hx⟩ h
theorem td_of {w : World} {z : Nat} {x : Th} (h : Blk w z 31 #[.string x.s, .int .i64 x.a, .int .i64 x.b]) : td w z = some x := td_iff.2 h
theorem td_some {w : World} {z : Nat} (h : (td w z).isSome = true) : Blk w z 31 (tcs ((td w z).getD Th.zero)) := by
  obtain ⟨x, hx⟩ := Option.isSome_iff_exists.1 h
  rw [hx]
  exact td_iff.1 hx
section
variable {w : World} {z : Nat}
theorem td_c0 (h : (td w z).isSome = true) : w.cell? ⟨z, 0, none⟩ = some (.string ((td w z).getD Th.zero).s) := ((td_some h).cell 0).trans rfl
theorem td_c1 (h : (td w z).isSome = true) : w.cell? ⟨z, 1, none⟩ = some (.int .i64 ((td w z).getD Th.zero).a) := ((td_some h).cell 1).trans rfl
theorem td_c2 (h : (td w z).isSome = true) : w.cell? ⟨z, 2, none⟩ = some (.int .i64 ((td w z).getD Th.zero).b) := ((td_some h).cell 2).trans rfl
theorem td_free (j : Nat) (h : (td w z).isSome = true) : w.frozen? ⟨z, j, none⟩ = false := (td_some h).frozen j
end
theorem td_keeps {S : List Nat} {w w' : World} {z : Nat} {x : Th} (h : td w z = some x) (hk : Keeps S w w') (hz : z ∉ S) : td w' z = some x := td_iff.2 ((td_iff.1 h).keeps hk hz)
theorem td_new (w : World) (x : Th) : td (w.alloc (.cells #[.string x.s, .int .i64 x.a, .int .i64 x.b] 31)) w.heap.size = some x := td_of (Blk.new _ _ _)
theorem td_lt {w : World} {z : Nat} {x : Th} (h : td w z = some x) : z < w.heap.size := (td_iff.1 h).lt
/-- The world behind a thing's three stores. -/
def put3 (w : World) (z : Nat) (x : Th) : World := ((w.setCell ⟨z, 0, none⟩ (.string x.s)).setCell ⟨z, 1, none⟩ (.int .i64 x.a)).setCell ⟨z, 2, none⟩ (.int .i64 x.b)
theorem put3_keeps (w : World) (z : Nat) (x : Th) : Keeps [z] w (put3 w z x) := (((Keeps.refl _ _).setCell (.inl (by simp)) _).setCell (.inl (by simp)) _).setCell (.inl (by simp)) _
theorem td_put3 (w : World) (z : Nat) (x y : Th) (h : td w z = some y) : td (put3 w z x) z = some x := by
  refine td_of ?_
  have h1 := ((((td_iff.1 h).set_ 0 (.string x.s)).set_ 1 (.int .i64 x.a)).set_ 2 (.int .i64 x.b))
  simpa [tcs, put3] using h1
end Go.Proofs.Ytlpgcfgnimchaaa
