/- quashlaw02's awake. -/
import Derived.Test.YtlpgcfgnimchaaaDoorSigEq
namespace Go.Proofs.YtlpgcfgnimchaaaDoor
open Go.RowKit
set_option linter.unusedVariables false

theorem awake_h1 (w : World) : Calls Tryd.prog 10 #[.int .i64 0, .int .i64 128] w fun e w' => e = .returned (.tuple #[.int .i64 79, .int .i64 58, .int .i64 0]) ∧ w = w' := by
  have h := hash_ok w 0 128 (by decide) (by decide) (by decide) (by decide)
  rw [show hA 0 128 = 79 by decide, show hB 0 128 = 58 by decide] at h
  exact h
theorem awake_h2 (w : World) : Calls Tryd.prog 10 #[.int .i64 1, .int .i64 128] w fun e w' => e = .returned (.tuple #[.int .i64 30, .int .i64 117, .int .i64 0]) ∧ w = w' := by
  have h := hash_ok w 1 128 (by decide) (by decide) (by decide) (by decide)
  rw [show hA 1 128 = 30 by decide, show hB 1 128 = 117 by decide] at h
  exact h
theorem awake_h3 (w : World) : Calls Tryd.prog 10 #[.int .i64 0, .int .i64 129] w fun e w' => e = .returned (.tuple #[.int .i64 0, .int .i64 0, .int .i64 1]) ∧ w = w' := hash_arg w 0 129 (.inr (by decide))
theorem awake_h4 (w : World) : Calls Tryd.prog 10 #[.int .i64 256, .int .i64 8] w fun e w' => e = .returned (.tuple #[.int .i64 0, .int .i64 0, .int .i64 2]) ∧ w = w' := hash_place w 256 8 (by decide) (by decide) (.inr (by decide))
theorem awake_of (w : World) (A : Option Addr) (hA : Slc w A [0]) : Calls Tryd.prog 13 #[.slice A 1 1, .int .i64 128] w fun e w' => e = .returned (.tuple #[.agg #[.int .u64 288230376151711744, .int .u64 32768], .int .i64 0]) ∧ Keeps [] w w' := by
  have h := of_any w A 1 [0] hA 128 (by decide) (by decide)
  have e1 : (ofR 128 [0]).val = .agg #[.int .u64 288230376151711744, .int .u64 32768] := by kernel_rfl
  have e2 : ofE [0] = 0 := by kernel_rfl
  rw [e1, e2] at h
  exact h
theorem awake_bits (w : World) (hT : Tab w) : Calls Tryd.prog 29 #[.agg #[.int .u64 288230376151711744, .int .u64 32768]] w fun e w' => ∃ g c, e = .returned (.slice (some ⟨g, 0, none⟩) 2 c) ∧ w'.cell? ⟨g, 0, none⟩ = some (.int .i64 58) ∧ Keeps [] w w' := by
  have h := bits_any w hT ⟨288230376151711744, 32768⟩ ⟨by decide, by decide⟩
  have e1 : bitsL ⟨288230376151711744, 32768⟩ = [58, 79] := by
    unfold bitsL
    rw [bl_eq _ (by decide), bl_eq _ (by decide)]
    decide +kernel
  rw [e1] at h
  refine h.mono ?_
  rintro e w' ⟨v, rfl, h1, h2⟩
  rcases h1.2 with ⟨rfl, h0⟩ | ⟨g, cap, cur, rfl, h3⟩
  · simp at h0
  · exact ⟨g, cap, rfl, by have := h1.cells (g := g) rfl 0 (.int .i64 58) rfl; simpa [Addr.add] using this, h2⟩
theorem slc_one (w : World) (x : Int) (k : Nat) (hk : w.heap.size = k) : Slc (w.alloc (.cells #[.int .i64 x] 3)) (some ⟨k, 0, none⟩) [x] := by
  subst hk
  refine ⟨by show 1 ≤ maxLen; decide, .inr ⟨w.heap.size, 0, rfl, by simp, ?_⟩⟩
  intro j y hy
  have hb := Blk.new w 3 #[.int .i64 x]
  rw [Nat.zero_add, hb.cell]
  cases j <;> simp_all

set_option maxHeartbeats 1000000 in
theorem awake_any (w : World) (hT : Tab w) : Calls Tryd.prog 9 #[] w fun e w' => e = .returned (.bool true) ∧ Keeps [] w w' := by
  have HT := Lib.hid hT
  clear hT
  have hse := fun w => sig_same w 288230376151711744 32768
  go_enter Tryd.func9, Tryd.ntmps9
  go_wp2_with fail
  refine (awake_h1 _).mono ?_
  rintro e w1 ⟨rfl, rfl⟩
  go_wp2_with fail
  refine (awake_h2 _).mono ?_
  rintro e w1 ⟨rfl, rfl⟩
  go_wp2_with fail
  refine (awake_h3 _).mono ?_
  rintro e w1 ⟨rfl, rfl⟩
  go_wp2_with fail
  refine (awake_h4 _).mono ?_
  rintro e w1 ⟨rfl, rfl⟩
  go_wp2_with fail
  refine (awake_of _ _ (slc_one _ _ _ rfl)).mono ?_
  rintro e w1 ⟨rfl, h1⟩
  have H1 := Lib.hid (((Keeps.refl [] w).alloc _).trans h1 (by simp))
  clear h1
  go_wp2_with fail
  refine (awake_bits _ (HT.out.keeps (H1.out.alloc _))).mono ?_
  rintro e w2 ⟨g, c, rfl, hc, h2⟩
  have hb := (Blk.new w1 31 #[.int .u64 288230376151711744, .int .u64 32768]).keeps h2 (by simp)
  have hs0 : w2.cell? ⟨w1.heap.size, 0, none⟩ = some (.int .u64 288230376151711744) := (hb.cell 0).trans rfl
  have hs1 : w2.cell? ⟨w1.heap.size, 1, none⟩ = some (.int .u64 32768) := (hb.cell 1).trans rfl
  have H2 := Lib.hid ((H1.out.alloc _).trans h2 (by simp))
  clear h2 hb
  go_wp2_with fail
  go_ret
  exact ⟨rfl, H2.out⟩
end Go.Proofs.YtlpgcfgnimchaaaDoor
