/- A block that holds one head: told in one word, 'rd w z = some x'. -/
import Derived.Test.YtmlnedilbneekaaGreatRowH
namespace Go.Proofs.YtmlnedilbneekaaGreat
open Go.RowKit
set_option linter.unusedVariables false
/-- A head's cells. -/
def hcs (x : Hd) : Array Value := #[.int .i64 x.gen, .int .i64 x.state, .int .i64 x.stamp, .int .i64 x.thread, .bool x.doomed, .int .i64 x.who]
theorem hcs_inj {x y : Hd} (h : hcs x = hcs y) : x = y := by
  obtain ⟨a, b, c, d, e, f⟩ := x
  obtain ⟨a', b', c', d', e', f'⟩ := y
  simp [hcs] at h
  simp [h]
open Classical in
/-- Which head block z is. -/
noncomputable def rd (w : World) (z : Nat) : Option Hd := if h : ∃ x, Blk w z 115 (hcs x) then some (Classical.choose h) else none
theorem rd_iff {w : World} {z : Nat} {x : Hd} : rd w z = some x ↔ Blk w z 115 (hcs x) := by
  unfold rd
  split
  · rename_i h
    have h1 := Classical.choose_spec h
    constructor
    · intro e; injection e with e; rw [← e]; exact h1
    · intro hx
      have e : some (Obj.cells (hcs (Classical.choose h)) 115 (0, 0)) = some (Obj.cells (hcs x) 115 (0, 0)) := h1.symm.trans hx
      injection e with e
      injection e with e
      rw [hcs_inj e]
  · rename_i h
    constructor
    · intro e; cases e
    · intro hx; exact absurd ⟨x, hx⟩ h
theorem rd_of {w : World} {z : Nat} {x : Hd} (h : Blk w z 115 #[.int .i64 x.gen, .int .i64 x.state, .int .i64 x.stamp, .int .i64 x.thread, .bool x.doomed, .int .i64 x.who]) : rd w z = some x := rd_iff.2 h
theorem rd_some {w : World} {z : Nat} (h : (rd w z).isSome = true) : Blk w z 115 (hcs ((rd w z).getD Hd.zero)) := by
  obtain ⟨x, hx⟩ := Option.isSome_iff_exists.1 h
  rw [hx]
  exact rd_iff.1 hx
section
variable {w : World} {z : Nat}
theorem rd_c0 (h : (rd w z).isSome = true) : w.cell? ⟨z, 0, none⟩ = some (.int .i64 ((rd w z).getD Hd.zero).gen) := ((rd_some h).cell 0).trans rfl
theorem rd_c1 (h : (rd w z).isSome = true) : w.cell? ⟨z, 1, none⟩ = some (.int .i64 ((rd w z).getD Hd.zero).state) := ((rd_some h).cell 1).trans rfl
theorem rd_c2 (h : (rd w z).isSome = true) : w.cell? ⟨z, 2, none⟩ = some (.int .i64 ((rd w z).getD Hd.zero).stamp) := ((rd_some h).cell 2).trans rfl
theorem rd_c3 (h : (rd w z).isSome = true) : w.cell? ⟨z, 3, none⟩ = some (.int .i64 ((rd w z).getD Hd.zero).thread) := ((rd_some h).cell 3).trans rfl
theorem rd_c4 (h : (rd w z).isSome = true) : w.cell? ⟨z, 4, none⟩ = some (.bool ((rd w z).getD Hd.zero).doomed) := ((rd_some h).cell 4).trans rfl
theorem rd_c5 (h : (rd w z).isSome = true) : w.cell? ⟨z, 5, none⟩ = some (.int .i64 ((rd w z).getD Hd.zero).who) := ((rd_some h).cell 5).trans rfl
theorem rd_free (j : Nat) (h : (rd w z).isSome = true) : w.frozen? ⟨z, j, none⟩ = false := (rd_some h).frozen j
end
theorem rd_keeps {S : List Nat} {w w' : World} {z : Nat} {x : Hd} (h : rd w z = some x) (hk : Keeps S w w') (hz : z ∉ S) : rd w' z = some x := rd_iff.2 ((rd_iff.1 h).keeps hk hz)
theorem rd_new (w : World) (x : Hd) : rd (w.alloc (.cells #[.int .i64 x.gen, .int .i64 x.state, .int .i64 x.stamp, .int .i64 x.thread, .bool x.doomed, .int .i64 x.who] 115)) w.heap.size = some x := rd_of (Blk.new _ _ _)
theorem rd_lt {w : World} {z : Nat} {x : Hd} (h : rd w z = some x) : z < w.heap.size := (rd_iff.1 h).lt
/-- The world behind a head's six stores. -/
def put6 (w : World) (z : Nat) (x : Hd) : World := (((((w.setCell ⟨z, 0, none⟩ (.int .i64 x.gen)).setCell ⟨z, 1, none⟩ (.int .i64 x.state)).setCell ⟨z, 2, none⟩ (.int .i64 x.stamp)).setCell ⟨z, 3, none⟩ (.int .i64 x.thread)).setCell ⟨z, 4, none⟩ (.bool x.doomed)).setCell ⟨z, 5, none⟩ (.int .i64 x.who)
theorem put6_keeps (w : World) (z : Nat) (x : Hd) : Keeps [z] w (put6 w z x) := ((((((Keeps.refl _ _).setCell (.inl (by simp)) _).setCell (.inl (by simp)) _).setCell (.inl (by simp)) _).setCell (.inl (by simp)) _).setCell (.inl (by simp)) _).setCell (.inl (by simp)) _
theorem rd_put6 (w : World) (z : Nat) (x y : Hd) (h : rd w z = some y) : rd (put6 w z x) z = some x := by
  refine rd_of ?_
  have h1 := (((((((rd_iff.1 h).set_ 0 (.int .i64 x.gen)).set_ 1 (.int .i64 x.state)).set_ 2 (.int .i64 x.stamp)).set_ 3 (.int .i64 x.thread)).set_ 4 (.bool x.doomed)).set_ 5 (.int .i64 x.who))
  simpa [hcs, put6] using h1
end Go.Proofs.YtmlnedilbneekaaGreat
