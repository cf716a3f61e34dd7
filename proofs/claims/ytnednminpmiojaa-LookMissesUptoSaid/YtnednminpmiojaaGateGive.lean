/- Package gate: Give, Look. -/
import Derived.Test.YtnednminpmiojaaGateTake
namespace Go.Proofs.Ytnednminpmiojaa
open Go.RowKit
set_option linter.unusedVariables false
/-- The world behind two blocks of gates. -/
def W2g (w : World) (a b : Gt) : World := (w.alloc (.cells #[.int .i64 a.number, .int .i64 a.owner] 38)).alloc (.cells #[.int .i64 b.number, .int .i64 b.owner] 38)
theorem W2g.keeps (w : World) (a b : Gt) : Keeps [] w (W2g w a b) := ((Keeps.refl _ _).alloc _).alloc _
theorem W2g.one (w : World) (a b : Gt) : Blk (W2g w a b) w.heap.size 38 #[.int .i64 a.number, .int .i64 a.owner] := (Blk.new _ _ _).alloc _
theorem W2g.two (w : World) (a b : Gt) : Blk (W2g w a b) (w.heap.size + 1) 38 #[.int .i64 b.number, .int .i64 b.owner] := new_at _ _ _ (by simp)
/-- The world behind a block that was written over. -/
def W4g (w : World) (z : Nat) : World := (w.setCell ⟨z, 0, none⟩ (.int .i64 (-1))).setCell ⟨z, 1, none⟩ (.int .i64 0)
theorem W4g.keeps (w : World) (z : Nat) : Keeps [z] w (W4g w z) := ((Keeps.refl [z] w).setCell (.inl (by simp)) _).setCell (.inl (by simp)) _
theorem W4g.two (w : World) (z : Nat) {x y : Value} (h : Blk w z 38 #[x, y]) : Blk (W4g w z) z 38 #[.int .i64 (-1), .int .i64 0] := by
  have h1 := (h.set_ 0 (.int .i64 (-1))).set_ 1 (.int .i64 0)
  unfold W4g
  simpa using h1
theorem W4g.one (w : World) (z k : Nat) (hk : k ≠ z) {cs : Array Value} {t : TypeId} (h : Blk w k t cs) : Blk (W4g w z) k t cs := (h.far hk _).far hk _
theorem neq_run (w : World) (n o t : Int) (ht : o ≠ t) : (Op.equalIn 10000 38 (.agg #[.int .i64 n, .int .i64 o]) (.agg #[.int .i64 n, .int .i64 t])).run Try.prog w = .ok false w := by
  have := RowG.eq_run w ⟨n, o⟩ ⟨n, t⟩
  rw [this, decide_eq_false (by intro e; injection e with _ e2; exact ht e2)]
theorem same_run (w : World) (n o : Int) : (Op.equalIn 10000 38 (.agg #[.int .i64 n, .int .i64 o]) (.agg #[.int .i64 n, .int .i64 o])).run Try.prog w = .ok true w := by
  have := RowG.eq_run w ⟨n, o⟩ ⟨n, o⟩
  rw [this, decide_eq_true rfl]

end Go.Proofs.Ytnednminpmiojaa
