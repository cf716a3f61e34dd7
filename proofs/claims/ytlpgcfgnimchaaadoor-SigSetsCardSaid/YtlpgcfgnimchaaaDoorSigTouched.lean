/- sig.Touched. -/
import Derived.Test.YtlpgcfgnimchaaaDoorSigMeets
namespace Go.Proofs.YtlpgcfgnimchaaaDoor
open Go.RowKit
set_option linter.unusedVariables false
/-- The words with a bit. -/
def P0 (m : Sg) : List Int := []
def P1 (m : Sg) : List Int := P0 m ++ if m.a = 0 then [] else [0]
def P2 (m : Sg) : List Int := P1 m ++ if m.b = 0 then [] else [1]
def wordsL (m : Sg) : List Int := P2 m
theorem pw_len0 (m : Sg) : (P0 m).length ≤ 2 := by simp [P0]
theorem pw_len1 (m : Sg) : (P1 m).length ≤ 2 := by unfold P1 P0; split <;> simp
set_option maxHeartbeats 1000000 in
theorem touched_any (w : World) (s t : Sg) (hs : s.ok) (ht : t.ok) :
    Calls Tryd.prog 19 #[s.val, t.val] w fun e w' => ∃ v, e = .returned v ∧ RowAt w w' v (wordsL (t.minus s)) := by
  obtain ⟨i0, hi, hz0, hz1, hz2⟩ := info_parts Tryd.infoInt
  have hc := fun w => minus_any w t s ht hs
  obtain ⟨m, hm⟩ : ∃ m, t.minus s = m := ⟨_, rfl⟩
  rw [hm]
  simp only [hm] at hc
  have HC := Lib.hid hc
  clear hc hm
  unfold Sg.val at HC ⊢
  have i0' := ix0 (.int .u64 (m.a : Int)) (.int .u64 (m.b : Int))
  have i1' := ix1 (.int .u64 (m.a : Int)) (.int .u64 (m.b : Int))
  go_enter Tryd.func19, Tryd.ntmps19
  go_wp2_with fail
  refine (HC.out _).mono ?_
  rintro e w1 ⟨rfl, hk⟩
  have HK := Lib.hid hk
  clear hk
  have HK2 := Lib.hid ((((Keeps.refl [] w).alloc _).alloc _).trans HK.out (by simp))
  go_wp2_with fail
  go_loopw [5, 11] (fun out i wr => (i = .int .i64 0 ∧ RowAt w wr out (P0 m)) ∨ (i = .int .i64 1 ∧ RowAt w wr out (P1 m)) ∨ (i = .int .i64 2 ∧ RowAt w wr out (P2 m))) (fun _ i _ => 2 - (intOf i).toNat)
  case atStart => exact .inl ⟨rfl, RowAt.nil HK2.out⟩
  case round =>
    rcases hrel with ⟨rfl, hrow⟩ | ⟨rfl, hrow⟩ | ⟨rfl, hrow⟩
    · have HR := Lib.hid hrow
      clear hrow
      have hln : (P0 m).length ≤ 2 := pw_len0 m
      have hmx : Hid ((P0 m).length + 1 ≤ maxLen) := by unfold Hid maxLen; omega
      have hby : Hid (((P0 m).length + 1) * 8 ≤ 140737488355328) := by unfold Hid; omega
      by_cases h0 : m.a = 0
      · have hne : ((m.a : Int) == 0) = true := by simp [h0]
        have e : P1 m = P0 m := by simp [P1, h0]
        have E := Lib.hid e
        clear e h0
        go_wp2_with fail
        go_roundw
        case rel => exact .inr (.inl ⟨rfl, E.out ▸ HR.out⟩)
        case measure => decide
      · have hne : ((m.a : Int) == 0) = false := by simp [h0]
        have e : P1 m = P0 m ++ [0] := by simp [P1, h0]
        have E := Lib.hid e
        clear e h0
        go_wp2_with (at_builtin; refine wpList_append_row rfl (.tmp 17) (.tmp 19) 27 rfl 3 i0 _ 1 8 Tryd.underlying27 hi hz0 hz1 hz2 rfl (by decide) _ (P0 m).length ((P0 m).map (Value.int .i64)) rfl ((HR.out.keeps ((Keeps.refl [] _).alloc _)).own0 _ rfl) _ 1 ([_].map (Value.int .i64)) rfl (one_row _ _ _ rfl) (one_ints _) hmx.out hby.out ?_; intro v1 w1 hown1 hg1 hat1)
        have HN := Lib.hid (HR.out.snoc ((Keeps.refl [] _).alloc _) (by simp) hown1 hg1 hat1)
        clear hown1 hg1 hat1
        go_wp2_with fail
        go_roundw
        case rel => exact .inr (.inl ⟨rfl, E.out ▸ HN.out⟩)
        case measure => decide
    · have HR := Lib.hid hrow
      clear hrow
      have hln : (P1 m).length ≤ 2 := pw_len1 m
      have hmx : Hid ((P1 m).length + 1 ≤ maxLen) := by unfold Hid maxLen; omega
      have hby : Hid (((P1 m).length + 1) * 8 ≤ 140737488355328) := by unfold Hid; omega
      by_cases h0 : m.b = 0
      · have hne : ((m.b : Int) == 0) = true := by simp [h0]
        have e : P2 m = P1 m := by simp [P2, h0]
        have E := Lib.hid e
        clear e h0
        go_wp2_with fail
        go_roundw
        case rel => exact .inr (.inr ⟨rfl, E.out ▸ HR.out⟩)
        case measure => decide
      · have hne : ((m.b : Int) == 0) = false := by simp [h0]
        have e : P2 m = P1 m ++ [1] := by simp [P2, h0]
        have E := Lib.hid e
        clear e h0
        go_wp2_with (at_builtin; refine wpList_append_row rfl (.tmp 17) (.tmp 19) 27 rfl 3 i0 _ 1 8 Tryd.underlying27 hi hz0 hz1 hz2 rfl (by decide) _ (P1 m).length ((P1 m).map (Value.int .i64)) rfl ((HR.out.keeps ((Keeps.refl [] _).alloc _)).own0 _ rfl) _ 1 ([_].map (Value.int .i64)) rfl (one_row _ _ _ rfl) (one_ints _) hmx.out hby.out ?_; intro v1 w1 hown1 hg1 hat1)
        have HN := Lib.hid (HR.out.snoc ((Keeps.refl [] _).alloc _) (by simp) hown1 hg1 hat1)
        clear hown1 hg1 hat1
        go_wp2_with fail
        go_roundw
        case rel => exact .inr (.inr ⟨rfl, E.out ▸ HN.out⟩)
        case measure => decide
    · have HR := Lib.hid hrow
      clear hrow
      go_wp2_with fail
      go_ret
      exact ⟨_, rfl, HR.out⟩
end Go.Proofs.YtlpgcfgnimchaaaDoor
