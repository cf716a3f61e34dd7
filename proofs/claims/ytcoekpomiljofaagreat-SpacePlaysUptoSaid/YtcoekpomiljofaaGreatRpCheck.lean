/- Layer 8: the document's Check (printed off the program's: spacechecks.py). -/
import Derived.Test.YtcoekpomiljofaaGreatSpace
namespace Go.Proofs.YtcoekpomiljofaaGreat
open Go.RowKit
set_option linter.unusedVariables false
theorem rp_in (w : World) (n lo hi : Int) : Calls Tryz.prog 151 #[.int .i64 n, .int .i64 lo, .int .i64 hi] w fun e w' => e = .returned (.bool (decide (lo ≤ n) && decide (n ≤ hi))) ∧ w = w' := by
  by_cases h1 : lo ≤ n
  · by_cases h2 : n ≤ hi
    · rw [decide_eq_true h1, decide_eq_true h2]
      go_enter Tryz.func151, Tryz.ntmps151
      go_wp2
      go_ret
      exact ⟨rfl, rfl⟩
    · rw [decide_eq_true h1, decide_eq_false h2]
      go_enter Tryz.func151, Tryz.ntmps151
      go_wp2
      go_ret
      exact ⟨rfl, rfl⟩
  · rw [decide_eq_false h1]
    go_enter Tryz.func151, Tryz.ntmps151
    go_wp2
    go_ret
    exact ⟨rfl, rfl⟩
theorem rp_check (w : World) (c : Cf) : Calls Tryz.prog 82 #[.agg #[.int .i64 c.cells, .int .i64 c.slots, .int .i64 c.bits, .int .i64 c.tag, .int .i64 c.bias, .int .i64 c.defer]] w fun e w' => e = .returned (.int .i64 (if c.ok then 0 else 1)) ∧ Keeps [] w w' := by
  have hk : Keeps [] w (w.alloc (.cells c.vals 30)) := by simp
  have hb : Blk (w.alloc (.cells c.vals 30)) w.heap.size 30 c.vals := Blk.new _ _ _
  obtain ⟨d0, d1, d2, d3, d4, d5⟩ := cf_cells hb
  have HK := Lib.hid hk
  clear hk hb
  unfold Cf.vals at d0 d1 d2 d3 d4 d5
  have hc : c.ok ↔ ((decide (1 ≤ c.cells) && decide (c.cells ≤ 256)) = true ∧ (decide (1 ≤ c.slots) && decide (c.slots ≤ 8)) = true ∧ (decide (1 ≤ c.bits) && decide (c.bits ≤ 128)) = true ∧ (decide (1 ≤ c.tag) && decide (c.tag ≤ 3)) = true ∧ (decide (0 ≤ c.bias) && decide (c.bias ≤ 8)) = true ∧ (decide (0 ≤ c.defer) && decide (c.defer ≤ 64)) = true) := by simp [Cf.ok]
  obtain ⟨rr, hrr⟩ : ∃ rr : Int, (if c.ok then 0 else 1) = rr := ⟨_, rfl⟩
  rw [hrr]
  have HC := Lib.hid (And.intro hc hrr)
  clear hc hrr
  go_enter Tryz.func82, Tryz.ntmps82
  go_wp2_with fail
  refine (rp_in _ _ _ _).mono ?_
  rintro e wq ⟨rfl, rfl⟩
  generalize (decide (1 ≤ c.cells) && decide (c.cells ≤ 256)) = b0 at *
  cases b0
  · go_wp2_with fail
    go_ret
    exact ⟨by rw [← HC.out.2, if_neg (fun h => by have := HC.out.1.1 h; simp at this)]; rfl, HK.out⟩
  go_wp2_with fail
  refine (rp_in _ _ _ _).mono ?_
  rintro e wq ⟨rfl, rfl⟩
  generalize (decide (1 ≤ c.slots) && decide (c.slots ≤ 8)) = b1 at *
  cases b1
  · go_wp2_with fail
    go_ret
    exact ⟨by rw [← HC.out.2, if_neg (fun h => by have := HC.out.1.1 h; simp at this)]; rfl, HK.out⟩
  go_wp2_with fail
  refine (rp_in _ _ _ _).mono ?_
  rintro e wq ⟨rfl, rfl⟩
  generalize (decide (1 ≤ c.bits) && decide (c.bits ≤ 128)) = b2 at *
  cases b2
  · go_wp2_with fail
    go_ret
    exact ⟨by rw [← HC.out.2, if_neg (fun h => by have := HC.out.1.1 h; simp at this)]; rfl, HK.out⟩
  go_wp2_with fail
  refine (rp_in _ _ _ _).mono ?_
  rintro e wq ⟨rfl, rfl⟩
  generalize (decide (1 ≤ c.tag) && decide (c.tag ≤ 3)) = b3 at *
  cases b3
  · go_wp2_with fail
    go_ret
    exact ⟨by rw [← HC.out.2, if_neg (fun h => by have := HC.out.1.1 h; simp at this)]; rfl, HK.out⟩
  go_wp2_with fail
  refine (rp_in _ _ _ _).mono ?_
  rintro e wq ⟨rfl, rfl⟩
  generalize (decide (0 ≤ c.bias) && decide (c.bias ≤ 8)) = b4 at *
  cases b4
  · go_wp2_with fail
    go_ret
    exact ⟨by rw [← HC.out.2, if_neg (fun h => by have := HC.out.1.1 h; simp at this)]; rfl, HK.out⟩
  go_wp2_with fail
  refine (rp_in _ _ _ _).mono ?_
  rintro e wq ⟨rfl, rfl⟩
  generalize (decide (0 ≤ c.defer) && decide (c.defer ≤ 64)) = b5 at *
  cases b5
  · go_wp2_with fail
    go_ret
    exact ⟨by rw [← HC.out.2, if_neg (fun h => by have := HC.out.1.1 h; simp at this)]; rfl, HK.out⟩
  go_wp2_with fail
  go_ret
  exact ⟨by rw [← HC.out.2, if_pos (HC.out.1.2 (by simp))]; rfl, HK.out⟩

end Go.Proofs.YtcoekpomiljofaaGreat
