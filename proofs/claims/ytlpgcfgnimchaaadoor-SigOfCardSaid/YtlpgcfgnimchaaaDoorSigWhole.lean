/- quashlaw02.whole. -/
import Derived.Test.YtlpgcfgnimchaaaDoorSigLent
namespace Go.Proofs.YtlpgcfgnimchaaaDoor
open Go.RowKit
set_option linter.unusedVariables false
theorem mark_cells {w : World} {g : Nat} {xs : List Int} (h : Slc w (some ⟨g, 0, none⟩) (xs ++ [991, 992])) : w.cell? ⟨g, xs.length, none⟩ = some (.int .i64 991) ∧ w.cell? ⟨g, xs.length + 1, none⟩ = some (.int .i64 992) := by
  rcases h.2 with h0 | ⟨b, off, hA, hb, hc⟩
  · simp at h0
  · injection hA with hA
    injection hA with h1 h2
    subst h1 h2
    have e1 := hc xs.length 991 (by simp)
    have e2 := hc (xs.length + 1) 992 (by simp)
    rw [Nat.zero_add] at e1 e2
    exact ⟨e1, e2⟩
set_option maxHeartbeats 1000000 in
theorem whole_any (w : World) (g c : Nat) (B : Option Addr) (d : Nat) (xs : List Int) (hA : Slc w (some ⟨g, 0, none⟩) (xs ++ [991, 992])) (hc : xs.length + 2 ≤ c) (hm : c ≤ maxLen) (hB : Slc w B xs) :
    Calls Tryd.prog 17 #[.slice (some ⟨g, 0, none⟩) xs.length c, .slice B xs.length d] w fun e w' => e = .returned (.bool true) ∧ Keeps [] w w' := by
  obtain ⟨m1, m2⟩ := mark_cells hA
  have HA := Lib.hid hA
  have HB := Lib.hid hB
  unfold maxLen at hm
  clear hA hB
  go_enter Tryd.func17, Tryd.ntmps17
  go_wp2_with fail
  refine (sameInts_yes _ _ _ xs _ _ HA.out.left HB.out).mono ?_
  rintro e w1 ⟨rfl, hk⟩
  obtain ⟨n1, n2⟩ := mark_cells (HA.out.keeps hk)
  have HK := Lib.hid hk
  clear hk
  go_wp2_with fail
  go_ret
  exact ⟨rfl, HK.out⟩
end Go.Proofs.YtlpgcfgnimchaaaDoor
