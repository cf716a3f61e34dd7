/- sig.Meets, Within, Touched. -/
import Derived.Test.YtlpgcfgnimchaaaDoorSigJoin
namespace Go.Proofs.YtlpgcfgnimchaaaDoor
open Go.RowKit
set_option linter.unusedVariables false
theorem and_lt (a b : Nat) (ha : a < 18446744073709551616) : a &&& b < 18446744073709551616 := Nat.lt_of_le_of_lt Nat.and_le_left ha
theorem Sg.join_ok {s t : Sg} (hs : s.ok) (ht : t.ok) : (s.join t).ok := ⟨or_lt _ _ hs.1 ht.1, or_lt _ _ hs.2 ht.2⟩
theorem Sg.meet_ok {s : Sg} (t : Sg) (hs : s.ok) : (s.meet t).ok := ⟨and_lt _ _ hs.1, and_lt _ _ hs.2⟩
theorem Sg.minus_ok {s : Sg} (t : Sg) (hs : s.ok) : (s.minus t).ok := ⟨and_lt _ _ hs.1, and_lt _ _ hs.2⟩
/-- No bit at all? -/
def Sg.none (s : Sg) : Bool := ((s.a : Int) == 0 && (s.b : Int) == 0)
theorem sig_zero (w : World) (s : Sg) : (Op.equalIn 10000 31 (.agg #[.int .u64 (s.a : Int), .int .u64 (s.b : Int)]) (.agg #[.int .u64 0, .int .u64 0])).run Tryd.prog w = .ok s.none w := sig_eq w _ _ _ _
theorem meets_any (w : World) (s t : Sg) (hs : s.ok) (ht : t.ok) :
    Calls Tryd.prog 20 #[s.val, t.val] w fun e w' => e = .returned (.bool (!(s.meet t).none)) ∧ Keeps [] w w' := by
  have hc := fun w => meet_any w s t hs ht
  have hz := fun w => sig_zero w (s.meet t)
  obtain ⟨m, hm⟩ : ∃ m, s.meet t = m := ⟨_, rfl⟩
  rw [hm]
  simp only [hm] at hc hz
  have HC := Lib.hid hc
  clear hc hm
  unfold Sg.val at HC ⊢
  go_enter Tryd.func20, Tryd.ntmps20
  go_wp2_with fail
  refine (HC.out _).mono ?_
  rintro e w1 ⟨rfl, hk⟩
  have HK := Lib.hid hk
  clear hk
  go_wp2_with fail
  go_ret
  exact ⟨rfl, (((Keeps.refl [] w).alloc _).alloc _).trans HK.out (by simp)⟩
theorem within_any (w : World) (s t : Sg) (hs : s.ok) (ht : t.ok) :
    Calls Tryd.prog 21 #[s.val, t.val] w fun e w' => e = .returned (.bool (s.minus t).none) ∧ Keeps [] w w' := by
  have hc := fun w => minus_any w s t hs ht
  have hz := fun w => sig_zero w (s.minus t)
  obtain ⟨m, hm⟩ : ∃ m, s.minus t = m := ⟨_, rfl⟩
  rw [hm]
  simp only [hm] at hc hz
  have HC := Lib.hid hc
  clear hc hm
  unfold Sg.val at HC ⊢
  go_enter Tryd.func21, Tryd.ntmps21
  go_wp2_with fail
  refine (HC.out _).mono ?_
  rintro e w1 ⟨rfl, hk⟩
  have HK := Lib.hid hk
  clear hk
  go_wp2_with fail
  go_ret
  exact ⟨rfl, (((Keeps.refl [] w).alloc _).alloc _).trans HK.out (by simp)⟩
end Go.Proofs.YtlpgcfgnimchaaaDoor
