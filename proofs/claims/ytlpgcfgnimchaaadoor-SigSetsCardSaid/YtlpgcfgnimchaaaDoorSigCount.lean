/- math/bits.OnesCount64 and sig.Count. -/
import Derived.Test.YtlpgcfgnimchaaaDoorSigPop
import Derived.Laws.Bits128
namespace Go.Proofs.YtlpgcfgnimchaaaDoor
open Go.RowKit
set_option linter.unusedVariables false
theorem wrap_id (x : Int) (h0 : 0 ≤ x) (h1 : x < 18446744073709551616) : IntKind.u64.wrap x = x := by
  rw [IntKind.wrap_u64]
  exact Int.emod_eq_of_lt h0 h1
set_option maxHeartbeats 1000000 in
theorem ones_any (w : World) (x : Nat) (hx : x < 18446744073709551616) :
    Calls Tryd.prog 38 #[.int .u64 x] w fun e w' => e = .returned (.int .i64 (pc 64 x : Nat)) ∧ w = w' := by
  obtain ⟨y1, y2, y3, e1, u1, e2, u2, u3, e3, u4, u5, u6, e4⟩ := pop_law x hx
  have p1 := bits_and_u64_nat (x / 2) 6148914691236517205 (by omega) (by omega)
  have p2 := bits_and_u64_nat x 6148914691236517205 hx (by omega)
  have p3 := bits_and_u64_nat (y1 / 4) 3689348814741910323 (by omega) (by omega)
  have p4 := bits_and_u64_nat y1 3689348814741910323 u1 (by omega)
  have p5 := bits_and_u64_nat (y2 / 16 + y2) 1085102592571150095 u3 (by omega)
  rw [e3] at p5
  obtain ⟨a1, ha1⟩ : ∃ a, x / 2 &&& 6148914691236517205 = a := ⟨_, rfl⟩
  obtain ⟨a2, ha2⟩ : ∃ a, x &&& 6148914691236517205 = a := ⟨_, rfl⟩
  obtain ⟨a3, ha3⟩ : ∃ a, y1 / 4 &&& 3689348814741910323 = a := ⟨_, rfl⟩
  obtain ⟨a4, ha4⟩ : ∃ a, y1 &&& 3689348814741910323 = a := ⟨_, rfl⟩
  rw [ha1, ha2] at e1
  rw [ha3, ha4] at e2
  rw [ha1, Int.natCast_ediv] at p1
  rw [ha2] at p2
  rw [ha3, Int.natCast_ediv] at p3
  rw [ha4] at p4
  have p1 : bits .and .u64 ((x : Int) / 2) 6148914691236517205 = (a1 : Int) := p1
  have p2 : bits .and .u64 (x : Int) 6148914691236517205 = (a2 : Int) := p2
  have p3 : bits .and .u64 ((y1 : Int) / 4) 3689348814741910323 = (a3 : Int) := p3
  have p4 : bits .and .u64 (y1 : Int) 3689348814741910323 = (a4 : Int) := p4
  obtain ⟨z, hz⟩ : ∃ z, y2 / 16 + y2 = z := ⟨_, rfl⟩
  obtain ⟨s1, hs1⟩ : ∃ z, y3 + y3 / 256 = z := ⟨_, rfl⟩
  rw [hs1] at u4 u5 u6 e4
  obtain ⟨s2, hs2⟩ : ∃ z, s1 + s1 / 65536 = z := ⟨_, rfl⟩
  rw [hs2] at u5 u6 e4
  obtain ⟨s3, hs3⟩ : ∃ z, s2 + s2 / 4294967296 = z := ⟨_, rfl⟩
  rw [hs3] at u6 e4
  rw [hz] at p5 u3
  have p5 : bits .and .u64 (z : Int) 1085102592571150095 = (y3 : Int) := p5
  have w1 : IntKind.u64.wrap ((a1 : Int) + (a2 : Int)) = (y1 : Int) := by rw [wrap_id _ (by omega) (by omega)]; omega
  have w2 : IntKind.u64.wrap ((a3 : Int) + (a4 : Int)) = (y2 : Int) := by rw [wrap_id _ (by omega) (by omega)]; omega
  have w3 : IntKind.u64.wrap ((y2 : Int) / 16 + (y2 : Int)) = (z : Int) := by rw [wrap_id _ (by omega) (by omega)]; omega
  have w4 : IntKind.u64.wrap ((y3 : Int) + (y3 : Int) / 256) = (s1 : Int) := by rw [wrap_id _ (by omega) (by omega)]; omega
  have w5 : IntKind.u64.wrap ((s1 : Int) + (s1 : Int) / 65536) = (s2 : Int) := by rw [wrap_id _ (by omega) (by omega)]; omega
  have w6 : IntKind.u64.wrap ((s2 : Int) + (s2 : Int) / 4294967296) = (s3 : Int) := by rw [wrap_id _ (by omega) (by omega)]; omega
  have p6 := i64_and127 (s3 : Int)
  have e5 : (s3 : Int) % 128 = (pc 64 x : Nat) := by omega
  rw [e5] at p6
  have b0 : (0 : Int) ≤ (s3 : Int) := by omega
  have b1 : (s3 : Int) < 9223372036854775808 := by omega
  clear ha1 ha2 ha3 ha4 e1 e2 e3 e4 e5 hz hs1 hs2 hs3 u1 u2 u3 u4 u5
  go_enter Tryd.func38, Tryd.ntmps38
  go_wp2
  go_ret
  exact ⟨rfl, rfl⟩
def cnt (s : Sg) : Nat := pc 64 s.a + pc 64 s.b
theorem pc_le (n x : Nat) : pc n x ≤ n := by
  unfold pc
  exact Nat.le_trans List.countP_le_length (by simp)
theorem count_any (w : World) (s : Sg) (hs : s.ok) :
    Calls Tryd.prog 33 #[s.val] w fun e w' => e = .returned (.int .i64 (cnt s : Nat)) ∧ Keeps [] w w' := by
  have c0 := fun w => ones_any w s.a hs.1
  have c1 := fun w => ones_any w s.b hs.2
  have l0 := pc_le 64 s.a
  have l1 := pc_le 64 s.b
  unfold cnt
  generalize pc 64 s.a = p at *
  generalize pc 64 s.b = q at *
  have C0 := Lib.hid c0
  have C1 := Lib.hid c1
  clear c0 c1
  unfold Sg.val
  have i0' := ix0 (.int .u64 (s.a : Int)) (.int .u64 (s.b : Int))
  have i1' := ix1 (.int .u64 (s.a : Int)) (.int .u64 (s.b : Int))
  go_enter Tryd.func33, Tryd.ntmps33
  go_wp2_with fail
  go_loopw [3, 7] (fun n i wr => Keeps [] w wr ∧ ((n = .int .i64 0 ∧ i = .int .i64 0) ∨ (n = .int .i64 p ∧ i = .int .i64 1) ∨ (n = .int .i64 ((p + q : Nat) : Int) ∧ i = .int .i64 2))) (fun _ i _ => 2 - (intOf i).toNat)
  case atStart => exact ⟨(Keeps.refl _ _).alloc _, .inl ⟨rfl, rfl⟩⟩
  case round =>
    obtain ⟨hk, ⟨rfl, rfl⟩ | ⟨rfl, rfl⟩ | ⟨rfl, rfl⟩⟩ := hrel
    · go_wp2_with fail
      refine (C0.out _).mono ?_
      rintro e wz ⟨rfl, rfl⟩
      go_wp2_with fail
      go_roundw
      case rel => exact ⟨hk, .inr (.inl ⟨by go_num, rfl⟩)⟩
      case measure => decide
    · go_wp2_with fail
      refine (C1.out _).mono ?_
      rintro e wz ⟨rfl, rfl⟩
      go_wp2_with fail
      go_roundw
      case rel => exact ⟨hk, .inr (.inr ⟨by go_num, rfl⟩)⟩
      case measure => decide
    · go_wp2_with fail
      go_ret
      exact ⟨rfl, hk⟩
end Go.Proofs.YtlpgcfgnimchaaaDoor
