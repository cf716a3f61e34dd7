/- quashref02.SameInts over two slices that hold the same. -/
import Derived.Test.YtlpgcfgnimchaaaDoorSlc
import Derived.Test.YtlpgcfgnimchaaaDoorSigHash
import Derived.BigQuiet
import Derived.Deep.QuietTactic
import Derived.Outline
import Derived.Handy
namespace Go.Proofs.YtlpgcfgnimchaaaDoor
open Go.RowKit
set_option linter.unusedVariables false

theorem sameInts_yes (w : World) (A B : Option Addr) (xs : List Int) (c d : Nat) (hA : Slc w A xs) (hB : Slc w B xs) :
    Calls Tryd.prog 32 #[.slice A xs.length c, .slice B xs.length d] w fun e w' => e = .returned (.bool true) ∧ Keeps [] w w' := by
  have hlen := hA.1
  have HA := Lib.hid hA
  have HB := Lib.hid hB
  clear hA hB
  unfold maxLen at hlen
  go_enter Tryd.func32, Tryd.ntmps32
  go_wp2
  go_loopw [5] (fun i wr => ∃ k : Nat, k ≤ xs.length ∧ i = .int .i64 k ∧ Keeps [] w wr) (fun i _ => xs.length - (intOf i).toNat)
  case atStart => exact ⟨0, Nat.zero_le _, rfl, Keeps.refl _ _⟩
  case round =>
    obtain ⟨k, hk, rfl, hkr⟩ := hrel
    have HK := Lib.hid hkr
    clear hkr
    by_cases hlt : k < xs.length
    · obtain ⟨x, hx⟩ : ∃ x, xs[k]? = some x := ⟨_, List.getElem?_eq_getElem hlt⟩
      rcases (HA.out.keeps HK.out).2 with h0 | ⟨b, off, rfl, hb, hc⟩
      · subst h0; simp at hlt
      rcases (HB.out.keeps HK.out).2 with h0 | ⟨b', off', rfl, hb', hc'⟩
      · subst h0; simp at hlt
      have d1 := hc k x hx
      have d2 := hc' k x hx
      clear hc hc' hx
      have g1 : (0 : Int) ≤ (k : Int) := by omega
      have g2 : (k : Int) < (xs.length : Int) := by omega
      go_wp2
      go_quiet (fail)
      go_wp2
      go_roundw
      case rel => exact ⟨k + 1, by omega, by go_num, HK.out.drewN _⟩
      case measure => simp [intOf]; omega
    · have hge : ¬ ((k : Int) < (xs.length : Int)) := by omega
      go_wp2
      go_ret
      exact ⟨rfl, HK.out⟩
end Go.Proofs.YtlpgcfgnimchaaaDoor
