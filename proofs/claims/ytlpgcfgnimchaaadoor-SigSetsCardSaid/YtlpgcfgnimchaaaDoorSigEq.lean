/- == of two signatures. -/
import Derived.Test.YtlpgcfgnimchaaaDoorSigBits
import Derived.Laws.StructEq
namespace Go.Proofs.YtlpgcfgnimchaaaDoor
open Go.RowKit
set_option linter.unusedVariables false
theorem sig_eq (w : World) (a b c d : Int) : (Op.equalIn 10000 31 (.agg #[.int .u64 a, .int .u64 b]) (.agg #[.int .u64 c, .int .u64 d])).run Tryd.prog w = .ok (a == c && b == d) w := by
  have hu : Tryd.prog.underlying 31 = some (.array 2 29) := by kernel_rfl
  have hp (x y : Value) : ∀ w, (part 29 #[x, y] 0).run Tryd.prog w = .ok x w := fun _ => by kernel_rfl
  have hq (x y : Value) : ∀ w, (part 29 #[x, y] 1).run Tryd.prog w = .ok y w := fun _ => by kernel_rfl
  have hs : ∀ w, (sizeOf 29).run Tryd.prog w = .ok 1 w := fun _ => by kernel_rfl
  have hi (x y : Int) : ∀ w, (Op.equalIn 9999 29 (.int .u64 x) (.int .u64 y)).run Tryd.prog w = .ok (x == y) w := fun w => run_equalIn_int w 9998 29 .u64 .u64 x y (by kernel_rfl)
  unfold Op.equalIn
  simp only [Sem.run_bind, run_underlying hu, Result.andThen_ok, hs]
  simp
  have hr : List.range' 0 2 = [0, 1] := by decide
  rw [hr]
  simp only [List.forIn_cons, List.forIn_nil, Sem.run_bind, hp, hi, Result.andThen_ok]
  cases h1 : (a == c) <;> cases h2 : (b == d) <;> simp [Sem.run_bind, hq, hi, h2]
theorem sig_same (w : World) (a b : Int) : (Op.equalIn 10000 31 (.agg #[.int .u64 a, .int .u64 b]) (.agg #[.int .u64 a, .int .u64 b])).run Tryd.prog w = .ok true w := by
  have h := sig_eq w a b a b
  simpa using h
end Go.Proofs.YtlpgcfgnimchaaaDoor
