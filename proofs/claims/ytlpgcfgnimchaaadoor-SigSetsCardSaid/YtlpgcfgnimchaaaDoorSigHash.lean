/- sig.Hash and the document's: contracts. -/
import Derived.Test.YtlpgcfgnimchaaaDoorWords
import Derived.Test.YtlpgcfgnimchaaaDoorProg
import Derived.Outline
import Derived.Handy
namespace Go.Proofs.YtlpgcfgnimchaaaDoor
open Go.RowKit
set_option linter.unusedVariables false

/-- The two bits of a cell. -/
def hA (c n : Int) : Int := (c + 1) * 40503 % 65536 * n / 65536
def hB (c n : Int) : Int := (c + 1) * 30011 % 65536 * n / 65536
theorem mul_rng (x n : Int) (h0 : 0 ≤ x) (h1 : x ≤ 65535) (h2 : 1 ≤ n) (h3 : n ≤ 128) : 0 ≤ x * n ∧ x * n ≤ 65535 * n := by
  exact ⟨Int.mul_nonneg h0 (by omega), Int.mul_le_mul_of_nonneg_right h1 (by omega)⟩
theorem hA_rng (c n : Int) (h2 : 1 ≤ n) (h3 : n ≤ 128) : 0 ≤ hA c n ∧ hA c n < n := by
  have := mul_rng ((c + 1) * 40503 % 65536) n (by omega) (by omega) h2 h3
  unfold hA
  omega
theorem hB_rng (c n : Int) (h2 : 1 ≤ n) (h3 : n ≤ 128) : 0 ≤ hB c n ∧ hB c n < n := by
  have := mul_rng ((c + 1) * 30011 % 65536) n (by omega) (by omega) h2 h3
  unfold hB
  omega

theorem hash_ok (w : World) (c n : Int) (c0 : 0 ≤ c) (c1 : c ≤ 255) (n0 : 1 ≤ n) (n1 : n ≤ 128) :
    Calls Tryd.prog 10 #[.int .i64 c, .int .i64 n] w fun e w' => e = .returned (.tuple #[.int .i64 (hA c n), .int .i64 (hB c n), .int .i64 0]) ∧ w = w' := by
  have m1 := mul_rng ((c + 1) * 40503 % 65536) n (by omega) (by omega) n0 n1
  have m2 := mul_rng ((c + 1) * 30011 % 65536) n (by omega) (by omega) n0 n1
  obtain ⟨p1, p2⟩ := m1
  obtain ⟨q1, q2⟩ := m2
  go_enter Tryd.func10, Tryd.ntmps10
  go_wp2
  go_ret3
  exact ⟨rfl, rfl⟩

theorem hash_arg (w : World) (c n : Int) (hn : n < 1 ∨ 128 < n) :
    Calls Tryd.prog 10 #[.int .i64 c, .int .i64 n] w fun e w' => e = .returned (.tuple #[.int .i64 0, .int .i64 0, .int .i64 1]) ∧ w = w' := by
  rcases hn with hn | hn
  · go_enter Tryd.func10, Tryd.ntmps10
    go_wp2
    go_ret3
    exact ⟨rfl, rfl⟩
  · have h1 : decide (n < 1) = false := by simp; omega
    go_enter Tryd.func10, Tryd.ntmps10
    go_wp2
    go_ret3
    exact ⟨rfl, rfl⟩
theorem hash_place (w : World) (c n : Int) (n0 : 1 ≤ n) (n1 : n ≤ 128) (hc : c < 0 ∨ 255 < c) :
    Calls Tryd.prog 10 #[.int .i64 c, .int .i64 n] w fun e w' => e = .returned (.tuple #[.int .i64 0, .int .i64 0, .int .i64 2]) ∧ w = w' := by
  rcases hc with hc | hc
  · go_enter Tryd.func10, Tryd.ntmps10
    go_wp2
    go_ret3
    exact ⟨rfl, rfl⟩
  · have h1 : decide (c < 0) = false := by simp; omega
    go_enter Tryd.func10, Tryd.ntmps10
    go_wp2
    go_ret3
    exact ⟨rfl, rfl⟩

theorem rhash_ok (w : World) (c n : Int) (c0 : 0 ≤ c) (c1 : c ≤ 255) (n0 : 1 ≤ n) (n1 : n ≤ 128) :
    Calls Tryd.prog 11 #[.int .i64 c, .int .i64 n] w fun e w' => e = .returned (.tuple #[.int .i64 (hA c n), .int .i64 (hB c n), .int .i64 0]) ∧ w = w' := by
  have m1 := mul_rng ((c + 1) * 40503 % 65536) n (by omega) (by omega) n0 n1
  have m2 := mul_rng ((c + 1) * 30011 % 65536) n (by omega) (by omega) n0 n1
  obtain ⟨p1, p2⟩ := m1
  obtain ⟨q1, q2⟩ := m2
  go_enter Tryd.func11, Tryd.ntmps11
  go_wp2
  go_ret3
  exact ⟨rfl, rfl⟩

theorem rhash_arg (w : World) (c n : Int) (hn : n < 1 ∨ 128 < n) :
    Calls Tryd.prog 11 #[.int .i64 c, .int .i64 n] w fun e w' => e = .returned (.tuple #[.int .i64 0, .int .i64 0, .int .i64 1]) ∧ w = w' := by
  rcases hn with hn | hn
  · go_enter Tryd.func11, Tryd.ntmps11
    go_wp2
    go_ret3
    exact ⟨rfl, rfl⟩
  · have h1 : decide (n < 1) = false := by simp; omega
    go_enter Tryd.func11, Tryd.ntmps11
    go_wp2
    go_ret3
    exact ⟨rfl, rfl⟩
theorem rhash_place (w : World) (c n : Int) (n0 : 1 ≤ n) (n1 : n ≤ 128) (hc : c < 0 ∨ 255 < c) :
    Calls Tryd.prog 11 #[.int .i64 c, .int .i64 n] w fun e w' => e = .returned (.tuple #[.int .i64 0, .int .i64 0, .int .i64 2]) ∧ w = w' := by
  rcases hc with hc | hc
  · go_enter Tryd.func11, Tryd.ntmps11
    go_wp2
    go_ret3
    exact ⟨rfl, rfl⟩
  · have h1 : decide (c < 0) = false := by simp; omega
    go_enter Tryd.func11, Tryd.ntmps11
    go_wp2
    go_ret3
    exact ⟨rfl, rfl⟩
end Go.Proofs.YtlpgcfgnimchaaaDoor
