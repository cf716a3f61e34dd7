/- Layer 13: the document's Most (printed off the program's: commitmost.py). -/
import Derived.Test.YtdhgiohjdhcedaaGreatCmMost
import Derived.Test.YtdhgiohjdhcedaaGreatRpCheck
import Derived.Deep.QuietTactic
import Derived.BigQuiet
namespace Go.Proofs.YtdhgiohjdhcedaaGreat
open Go.RowKit
set_option linter.unusedVariables false
set_option linter.unusedSimpArgs false
set_option maxRecDepth 100000 in
theorem rm_most (w : World) (c : Cf) (n : Int) : Calls Tryz.prog 16 #[.agg #[.int .i64 c.cells, .int .i64 c.slots, .int .i64 c.bits, .int .i64 c.tag, .int .i64 c.bias, .int .i64 c.defer], .int .i64 n] w fun e w' => e = .returned (.int .i64 (mostOf c n)) ∧ Keeps [] w w' := by
  have hk : Keeps [] w (w.alloc (.cells c.vals 23)) := by simp
  have hb : Blk (w.alloc (.cells c.vals 23)) w.heap.size 23 c.vals := Blk.new _ _ _
  obtain ⟨d0, d1, d2, d3, d4, d5⟩ := cf_cells hb
  have HK := Lib.hid hk
  have HB := Lib.hid hb
  clear hk hb
  unfold Cf.vals at d0 d1 d2 d3 d4 d5
  obtain ⟨mm, hmm⟩ : ∃ q, mostOf c n = q := ⟨_, rfl⟩
  rw [hmm]
  unfold mostOf at hmm
  by_cases hc : c.ok
  · have HQ : Hid (∀ w : World, Calls Tryz.prog 89 #[.agg #[.int .i64 c.cells, .int .i64 c.slots, .int .i64 c.bits, .int .i64 c.tag, .int .i64 c.bias, .int .i64 c.defer]] w fun e w' => e = .returned (.int .i64 0) ∧ Keeps [] w w') := fun w => by
      have := rp_check w c
      rw [if_pos hc] at this
      exact this
    have hs := hc.2.1
    by_cases h0 : n < 0
    · rw [if_neg (fun h => by omega)] at hmm
      subst hmm
      have e0 : decide (n < 0) = true := decide_eq_true h0
      clear hc hs
      go_enter Tryz.func16, Tryz.ntmps16
      go_wp2_with fail
      refine (HQ.out _).mono ?_
      rintro e w1 ⟨rfl, hk1⟩
      have HK1 := Lib.hid (HK.out.trans hk1 (by simp))
      clear hk1
      go_wp2_with fail
      go_ret
      exact ⟨rfl, HK1.out⟩
    · have e0 : decide (n < 0) = false := decide_eq_false h0
      by_cases h1 : n > 16
      · rw [if_neg (fun h => by omega)] at hmm
        subst hmm
        have e1 : decide (16 < n) = true := decide_eq_true h1
        clear hc hs
        go_enter Tryz.func16, Tryz.ntmps16
        go_wp2_with fail
        refine (HQ.out _).mono ?_
        rintro e w1 ⟨rfl, hk1⟩
        have HK1 := Lib.hid (HK.out.trans hk1 (by simp))
        clear hk1
        go_wp2_with fail
        go_ret
        exact ⟨rfl, HK1.out⟩
      · rw [if_pos ⟨hc, by omega, by omega⟩] at hmm
        have e1 : decide (16 < n) = false := decide_eq_false h1
        have w1 : IntKind.i64.wrap (c.slots - 1) = c.slots - 1 := by rw [IntKind.wrap_i64]; omega
        have w2 : IntKind.i64.wrap ((c.slots - 1) * 4) = (c.slots - 1) * 4 := by rw [IntKind.wrap_i64]; omega
        have w3 : IntKind.i64.wrap ((c.slots - 1) * 4 + n) = (c.slots - 1) * 4 + n := by rw [IntKind.wrap_i64]; omega
        have w4 : IntKind.i64.wrap ((c.slots - 1) * 4 + n + 3) = (c.slots - 1) * 4 + n + 3 := by rw [IntKind.wrap_i64]; omega
        subst hmm
        clear hc
        go_enter Tryz.func16, Tryz.ntmps16
        go_wp2_with fail
        refine (HQ.out _).mono ?_
        rintro e w1 ⟨rfl, hk1⟩
        have HK1 := Lib.hid (HK.out.trans hk1 (by simp))
        obtain ⟨d0, d1, d2, d3, d4, d5⟩ := cf_cells (HB.out.keeps hk1 (by simp))
        clear hk1
        go_wp2_with fail
        go_ret
        exact ⟨rfl, HK1.out⟩
  · rw [if_neg (fun h => hc h.1)] at hmm
    subst hmm
    have HQ : Hid (∀ w : World, Calls Tryz.prog 89 #[.agg #[.int .i64 c.cells, .int .i64 c.slots, .int .i64 c.bits, .int .i64 c.tag, .int .i64 c.bias, .int .i64 c.defer]] w fun e w' => e = .returned (.int .i64 1) ∧ Keeps [] w w') := fun w => by
      have := rp_check w c
      rw [if_neg hc] at this
      exact this
    clear hc
    go_enter Tryz.func16, Tryz.ntmps16
    go_wp2_with fail
    refine (HQ.out _).mono ?_
    rintro e w1 ⟨rfl, hk1⟩
    have HK1 := Lib.hid (HK.out.trans hk1 (by simp))
    clear hk1
    go_wp2_with fail
    go_ret
    exact ⟨rfl, HK1.out⟩
end Go.Proofs.YtdhgiohjdhcedaaGreat
