/- Layer 11: a step of the document's read, all ways; the program's New refused, whatever is wrong; the document's Fill. -/
import Derived.Test.YtdhgiohjdhcedaaGreatRdAl
import Derived.Test.YtdhgiohjdhcedaaGreatRp
import Derived.Test.YtdhgiohjdhcedaaGreatReadH
import Derived.Deep.QuietTactic
import Derived.BigQuiet
import Derived.Test.YtdhgiohjdhcedaaGreatSigRTouched
import Derived.Test.YtdhgiohjdhcedaaGreatReadN
import Derived.Deep.RegionHeld3
import Derived.Deep.DeepCutAuto
import Derived.Deep.CutBlock
import Derived.Test.YtdhgiohjdhcedaaGreatRegT
import Derived.Test.YtdhgiohjdhcedaaGreatReadP
import Derived.Test.YtdhgiohjdhcedaaGreatRaw11
namespace Go.Proofs.YtdhgiohjdhcedaaGreat
open Go.RowKit
set_option linter.unusedVariables false
set_option linter.unusedSimpArgs false
structure JI (n : Int) (x : Rd) : Prop where
  join : x.f.sig.join (ownSg n x.cell) = x.both
  words : x.words = wordsL (x.both.minus x.f.sig)
theorem minusN_or (s o : Nat) (hs : s < 18446744073709551616) (ho : o < 18446744073709551616) : minusN (s ||| o) s = minusN o s := by
  apply Nat.eq_of_testBit_eq
  intro i
  rw [minusN_bit _ _ (or_lt _ _ hs ho) hs, minusN_bit _ _ ho hs, Nat.testBit_or]
  cases s.testBit i <;> cases o.testBit i <;> rfl
theorem minusN_self (s : Nat) (hs : s < 18446744073709551616) : minusN s s = 0 := (minusN_zero s s hs hs).2 (Nat.or_self s)
theorem JI.new {n : Int} {f : Fr} {cell : Int} (hs : f.sig.ok) (ho : (ownSg n cell).ok) : JI n (Rd.new n f cell) := by
  refine ⟨rfl, ?_⟩
  show wordsL ((ownSg n cell).minus f.sig) = wordsL ((f.sig.join (ownSg n cell)).minus f.sig)
  unfold Sg.minus Sg.join
  simp only
  rw [minusN_or _ _ hs.1 ho.1, minusN_or _ _ hs.2 ho.2]
theorem wordsL_cons {m : Sg} {w : Int} {l : List Int} (h : wordsL m = w :: l) : (w = 0 ∧ m.a ≠ 0 ∧ l = wordsL ⟨0, m.b⟩) ∨ (w = 1 ∧ m.a = 0 ∧ m.b ≠ 0 ∧ l = []) := by
  unfold wordsL P2 P1 P0 at h ⊢
  by_cases ha : m.a = 0
  · by_cases hb : m.b = 0
    · simp [ha, hb] at h
    · simp [ha, hb] at h
      exact .inr ⟨h.1.symm, ha, hb, h.2⟩
  · simp [ha] at h
    refine .inl ⟨h.1.symm, ha, ?_⟩
    simp [h.2]
theorem JI.publish {n : Int} {x : Rd} (h : JI n x) (hi : RI x) {w : Int} {l : List Int} (hw : x.words = w :: l) : JI n (x.publish w l) := by
  have hj := h.join
  have ja : x.f.sig.a ||| (ownSg n x.cell).a = x.both.a := congrArg Sg.a hj
  have jb : x.f.sig.b ||| (ownSg n x.cell).b = x.both.b := congrArg Sg.b hj
  have hsub : ∀ a o b : Nat, a ||| o = b → b ||| o = b := fun a o b e => by rw [← e, Nat.or_assoc, Nat.or_self]
  have hwd := h.words
  rw [hw] at hwd
  rcases wordsL_cons hwd.symm with ⟨rfl, h1, h2⟩ | ⟨rfl, h1, h2, h3⟩
  · refine ⟨?_, ?_⟩
    · show ((x.f.sig.with_ 0 (x.both.wd 0)).join (ownSg n x.cell)) = x.both
      unfold Sg.with_ Sg.wd Sg.join
      simp only [if_true]
      rw [hsub _ _ _ ja, jb]
    · show l = wordsL (x.both.minus (x.f.sig.with_ 0 (x.both.wd 0)))
      rw [h2]
      unfold Sg.with_ Sg.wd Sg.minus
      simp only [if_true]
      rw [minusN_self _ hi.ok.both.1]
  · refine ⟨?_, ?_⟩
    · show ((x.f.sig.with_ 1 (x.both.wd 1)).join (ownSg n x.cell)) = x.both
      unfold Sg.with_ Sg.wd Sg.join
      rw [if_neg (by decide), if_neg (by decide)]
      simp only
      rw [hsub _ _ _ jb, ja]
    · show l = wordsL (x.both.minus (x.f.sig.with_ 1 (x.both.wd 1)))
      rw [h3]
      unfold Sg.with_ Sg.wd Sg.minus
      rw [if_neg (by decide), if_neg (by decide)]
      simp only
      rw [minusN_self _ hi.ok.both.2]
      unfold Sg.minus at h1
      simp only at h1
      rw [h1]
      rfl
theorem JI.same {n : Int} {x y : Rd} (h : JI n x) (e1 : y.f.sig = x.f.sig) (e2 : y.cell = x.cell) (e3 : y.both = x.both) (e4 : y.words = x.words) : JI n y := ⟨by rw [e1, e2, e3]; exact h.join, by rw [e4, e3, e1]; exact h.words⟩
theorem JI.step {n : Int} {x : Rd} (h : JI n x) (hi : RI x) (S : Sp) : JI n (x.step S).2.1 := by
  cases ho : x.over with
  | true => rw [Rd.step_fin ho]; exact h
  | false =>
    rcases hi.ways ho with ⟨hn, w, l, hw⟩ | ⟨hn, hw⟩ | ⟨hn, hw⟩ | ⟨hn, hw⟩
    · rw [Rd.step_pub ho hn hw]; exact h.publish hi hw
    · rw [Rd.step_load ho hn]; exact h.same rfl rfl rfl rfl
    · rw [Rd.step_gate ho hn]
      show JI n (x.gate S.gate.number)
      unfold Rd.gate
      split
      · exact h
      · split
        · exact h.same rfl rfl rfl rfl
        · exact h.same rfl rfl rfl rfl
    · rw [Rd.step_head ho hn]
      show JI n (x.head (S.look x.f.slot).1.1)
      unfold Rd.head
      split
      · exact h.same rfl rfl rfl rfl
      · exact h.same rfl rfl rfl rfl
end Go.Proofs.YtdhgiohjdhcedaaGreat

namespace Go.Proofs.YtdhgiohjdhcedaaGreat
open Go.RowKit
set_option linter.unusedVariables false
set_option linter.unusedSimpArgs false
/-- The document's stage of a read. -/
def Rd.stage (x : Rd) : Int := if x.over = true then 3 else if x.next = 2 then 1 else if x.next = 3 then 2 else 0
def dVals (y : Rb) (x : Rd) (X E : Int) : Array Value := #[PT y.p, .int .i64 x.f.slot, .int .i64 x.f.gen, .int .i64 x.f.seen, .int .u64 (x.f.sig.a : Int), .int .u64 (x.f.sig.b : Int), .int .i64 x.cell, .int .i64 X, .int .i64 x.stage, .int .i64 E]
/-- The document's read in block b, and what the program's holds. -/
structure DocAt (w : World) (y : Rb) (b : Nat) (x : Rd) : Prop where
  ex : ∃ X E, Blk w b 291 (dVals y x X E) ∧ (x.over = false → E = 0 ∧ (2 ≤ x.next → X = x.x)) ∧ (x.over = true → E = x.e ∧ (x.e = 0 → X = x.x))
section
variable {w w' w0 : World} {y : Rb} {G X : List Nat} {S : Sp} {b k : Nat} {x : Rd}
theorem DocAt.keeps (h : DocAt w y b x) (hk : Keeps X w w') (hX : b ∉ X) : DocAt w' y b x := by
  obtain ⟨⟨v, e, h1, h2⟩⟩ := h
  exact ⟨⟨v, e, h1.keeps hk hX, h2⟩⟩
theorem DocAt.ty (h : DocAt w y b x) : tyOf w b = some 291 := by
  obtain ⟨⟨v, e, h1, h2⟩⟩ := h
  exact h1.tyOf
theorem doc_done (h : DocAt w y b x) : Calls Tryz.prog 176 #[PT b] w fun e w' => e = .returned (.bool x.over) ∧ w = w' := by
  obtain ⟨⟨v, e, h1, h2⟩⟩ := h
  have c8 : w.cell? ⟨b, 8, none⟩ = some (.int .i64 x.stage) := (h1.cell 8).trans rfl
  have hs : (x.stage == 3) = x.over := by
    unfold Rd.stage
    cases x.over
    · simp
      split
      · decide
      · split <;> decide
    · simp
  clear h1 h2
  cases ho : x.over
  · rw [ho] at hs
    go_enter Tryz.func176, Tryz.ntmps176
    go_wp2_with fail
    go_ret
    exact ⟨rfl, rfl⟩
  · rw [ho] at hs
    go_enter Tryz.func176, Tryz.ntmps176
    go_wp2_with fail
    go_ret
    exact ⟨rfl, rfl⟩
theorem doc_value (h : DocAt w y b x) (hi : RI x) : Calls Tryz.prog 175 #[PT b] w fun e w' => e = .returned (.tuple #[.int .i64 (if x.e = 0 then x.x else 0), .int .i64 x.e]) ∧ Keeps [] w w' := by
  obtain ⟨⟨v, e, h1, h2, h3⟩⟩ := h
  have c8 : w.cell? ⟨b, 8, none⟩ = some (.int .i64 x.stage) := (h1.cell 8).trans rfl
  have c7 : w.cell? ⟨b, 7, none⟩ = some (.int .i64 v) := (h1.cell 7).trans rfl
  have c9 : w.cell? ⟨b, 9, none⟩ = some (.int .i64 e) := (h1.cell 9).trans rfl
  clear h1
  cases ho : x.over
  · have he := hi.ok.done ho
    rw [he, if_neg (by decide)]
    have hs : (x.stage != 3) = true := by
      unfold Rd.stage
      rw [ho]
      simp
      split
      · decide
      · split <;> decide
    go_enter Tryz.func175, Tryz.ntmps175
    go_wp2_with fail
    refine bodyPost_ret (v := .tuple #[.int .i64 0, .int .i64 4]) (by simp [results, Tryz.results175, go_sem]) rfl ⟨rfl, Keeps.refl _ _⟩
  · obtain ⟨rfl, h4⟩ := h3 ho
    have hs : x.stage = 3 := by unfold Rd.stage; rw [if_pos ho]
    rw [hs] at c8
    by_cases e0 : x.e = 0
    · rw [if_pos e0, e0]
      obtain rfl := h4 e0
      rw [e0] at c9
      go_enter Tryz.func175, Tryz.ntmps175
      go_wp2_with fail
      refine bodyPost_ret (v := .tuple #[.int .i64 x.x, .int .i64 0]) (by simp [results, Tryz.results175, go_sem]) rfl ⟨rfl, Keeps.refl _ _⟩
    · rw [if_neg e0]
      have h1 : (x.e != 0) = true := by simp [e0]
      have h5 : (x.e == 0) = false := by simp [e0]
      clear h2 h3 h4
      go_enter Tryz.func175, Tryz.ntmps175
      go_wp2_with fail
      go_region
      all_goals
        go_wp2
        refine bodyPost_ret (v := .tuple #[.int .i64 0, .int .i64 x.e]) (by simp [results, Tryz.results175, go_sem]) rfl ⟨rfl, (Keeps.refl [] w).drew⟩
theorem doc_there (h : RP w0 w y G S) (cell : Int) : Calls Tryz.prog 171 #[PT y.p, .int .i64 cell] w fun e w' => e = .returned (.bool (decide (0 ≤ cell ∧ cell < S.c.cells))) ∧ w = w' := by
  obtain ⟨c0, _⟩ := h.cells
  clear h
  by_cases h1 : 0 ≤ cell
  · by_cases h2 : cell < S.c.cells
    · rw [decide_eq_true ⟨h1, h2⟩]
      go_enter Tryz.func171, Tryz.ntmps171
      go_wp2_with fail
      go_ret
      exact ⟨rfl, rfl⟩
    · rw [decide_eq_false (fun h => h2 h.2)]
      go_enter Tryz.func171, Tryz.ntmps171
      go_wp2_with fail
      go_ret
      exact ⟨rfl, rfl⟩
  · rw [decide_eq_false (fun h => h1 h.1)]
    go_enter Tryz.func171, Tryz.ntmps171
    go_wp2_with fail
    go_ret
    exact ⟨rfl, rfl⟩
end
end Go.Proofs.YtdhgiohjdhcedaaGreat

namespace Go.Proofs.YtdhgiohjdhcedaaGreat
open Go.RowKit
set_option linter.unusedVariables false
set_option linter.unusedSimpArgs false
section
variable {w w' w0 : World} {y : Rb} {G X : List Nat} {S : Sp} {b k : Nat} {x : Rd}
theorem Rd.new_stage (n : Int) (f : Fr) (cell : Int) : (Rd.new n f cell).stage = 0 := by
  unfold Rd.stage
  rw [if_neg (by show ¬ (false = true); decide)]
  have : (Rd.new n f cell).next = 0 ∨ (Rd.new n f cell).next = 1 := by
    show (if (wordsL ((ownSg n cell).minus f.sig)).length = 0 then 1 else 0) = 0 ∨ (if (wordsL ((ownSg n cell).minus f.sig)).length = 0 then 1 else 0) = 1
    split
    · exact .inr rfl
    · exact .inl rfl
  rw [if_neg (by omega), if_neg (by omega)]
theorem doc_new (h : RP w0 w y G S) (n : Int) (f : Fr) (cell : Int) (c0 : 0 ≤ cell) (c1 : cell < S.c.cells) (s0 : 0 ≤ f.slot) (s1 : f.slot < S.c.slots) : Calls Tryz.prog 77 #[PT y.p, .int .i64 f.slot, .int .i64 f.gen, .int .i64 f.seen, .agg #[.int .u64 (f.sig.a : Int), .int .u64 (f.sig.b : Int)], .int .i64 cell] w fun e w' => ∃ b, e = .returned (.tuple #[PT b, .int .i64 0]) ∧ DocAt w' y b (Rd.new n f cell) ∧ w.heap.size ≤ b ∧ Keeps [] w w' := by
  have hk0 : Keeps [] w (w.alloc (.cells #[.int .u64 (f.sig.a : Int), .int .u64 (f.sig.b : Int)] 58)) := by simp
  have hb := Blk.new w 58 #[.int .u64 (f.sig.a : Int), .int .u64 (f.sig.b : Int)]
  have h1 := h.calm hk0
  have hT := doc_there h1 cell
  rw [decide_eq_true ⟨c0, c1⟩] at hT
  obtain ⟨_, d1, _⟩ := h1.cells
  have g0 : (w.alloc (.cells #[.int .u64 (f.sig.a : Int), .int .u64 (f.sig.b : Int)] 58)).cell? ⟨w.heap.size, 0, none⟩ = some (.int .u64 (f.sig.a : Int)) := (hb.cell 0).trans rfl
  have g1 : (w.alloc (.cells #[.int .u64 (f.sig.a : Int), .int .u64 (f.sig.b : Int)] 58)).cell? ⟨w.heap.size, 1, none⟩ = some (.int .u64 (f.sig.b : Int)) := (hb.cell 1).trans rfl
  have QT := Lib.hid hT
  have d3 : decide (f.slot < 0) = false := decide_eq_false (by omega)
  have d4 : decide (S.c.slots ≤ f.slot) = false := decide_eq_false (by omega)
  clear h hb h1 hT c0 c1 hk0
  go_enter Tryz.func77, Tryz.ntmps77
  go_wp2_with fail
  refine QT.out.mono ?_
  rintro e wq ⟨rfl, rfl⟩
  go_wp2_with fail
  go_ret2
  refine ⟨_, rfl, ⟨0, 0, ?_, fun _ => ⟨rfl, fun hn => ?_⟩, fun ho => by cases ho⟩, by simp, by simp⟩
  · unfold dVals
    rw [Rd.new_stage]
    have hb := Blk.new (w.alloc (.cells #[.int .u64 (f.sig.a : Int), .int .u64 (f.sig.b : Int)] 58)) 291 #[PT y.p, .int .i64 f.slot, .int .i64 f.gen, .int .i64 f.seen, .int .u64 (f.sig.a : Int), .int .u64 (f.sig.b : Int), .int .i64 cell, .int .i64 0, .int .i64 0, .int .i64 0]
    rw [show (w.alloc (.cells #[.int .u64 (f.sig.a : Int), .int .u64 (f.sig.b : Int)] 58)).heap.size = w.heap.size + 1 by simp] at hb
    exact hb
  · have e1 : 2 ≤ (if (wordsL ((ownSg n cell).minus f.sig)).length = 0 then 1 else 0) := hn
    split at e1 <;> omega
theorem doc_new_bad (h : RP w0 w y G S) (f : Fr) (cell : Int) (hb : ¬ (0 ≤ cell ∧ cell < S.c.cells ∧ 0 ≤ f.slot ∧ f.slot < S.c.slots)) : Calls Tryz.prog 77 #[PT y.p, .int .i64 f.slot, .int .i64 f.gen, .int .i64 f.seen, .agg #[.int .u64 (f.sig.a : Int), .int .u64 (f.sig.b : Int)], .int .i64 cell] w fun e w' => e = .returned (.tuple #[.pointer none, .int .i64 2]) ∧ Keeps [] w w' := by
  have hk0 : Keeps [] w (w.alloc (.cells #[.int .u64 (f.sig.a : Int), .int .u64 (f.sig.b : Int)] 58)) := by simp
  have h1 := h.calm hk0
  have hT := doc_there h1 cell
  obtain ⟨_, d1, _⟩ := h1.cells
  by_cases hc : 0 ≤ cell ∧ cell < S.c.cells
  · rw [decide_eq_true hc] at hT
    have QT := Lib.hid hT
    by_cases s0 : f.slot < 0
    · have d3 : decide (f.slot < 0) = true := decide_eq_true s0
      clear h h1 hT hk0 hb
      go_enter Tryz.func77, Tryz.ntmps77
      go_wp2_with fail
      refine QT.out.mono ?_
      rintro e wq ⟨rfl, rfl⟩
      go_wp2_with fail
      go_ret2
      exact ⟨rfl, by simp⟩
    · have s1 : S.c.slots ≤ f.slot := by omega
      have d3 : decide (f.slot < 0) = false := decide_eq_false s0
      have d4 : decide (S.c.slots ≤ f.slot) = true := decide_eq_true s1
      clear h h1 hT hk0 hb
      go_enter Tryz.func77, Tryz.ntmps77
      go_wp2_with fail
      refine QT.out.mono ?_
      rintro e wq ⟨rfl, rfl⟩
      go_wp2_with fail
      go_ret2
      exact ⟨rfl, by simp⟩
  · rw [decide_eq_false hc] at hT
    have QT := Lib.hid hT
    clear h h1 hT hk0 hb
    go_enter Tryz.func77, Tryz.ntmps77
    go_wp2_with fail
    refine QT.out.mono ?_
    rintro e wq ⟨rfl, rfl⟩
    go_wp2_with fail
    go_ret2
    exact ⟨rfl, by simp⟩
end
end Go.Proofs.YtdhgiohjdhcedaaGreat

namespace Go.Proofs.YtdhgiohjdhcedaaGreat
open Go.RowKit
set_option linter.unusedVariables false
set_option linter.unusedSimpArgs false
theorem rof_one (w : World) (A : Option Addr) (cell n : Int) (hA : Slc w A [cell]) (c0 : 0 ≤ cell) (c1 : cell ≤ 255) (n0 : 1 ≤ n) (n1 : n ≤ 128) : Calls Tryz.prog 221 #[.slice A 1 1, .int .i64 n] w fun e w' => e = .returned (.tuple #[(ownSg n cell).val, .int .i64 0]) ∧ Keeps [] w w' := by
  have h := rof_any w A 1 [cell] hA n n0 n1
  have hc : [cell].all isCell = true := by simp [isCell, c0, c1]
  have e1 : ofR n [cell] = ownSg n cell := by unfold ofR; rw [if_pos hc]; rfl
  have e2 : ofE [cell] = 0 := by unfold ofE; rw [if_pos hc]
  rw [e1, e2] at h
  exact h
theorem blk_at {w : World} {k j : Nat} {t : TypeId} {cs : Array Value} (h : Blk w k t cs) (e : k = j) : Blk w j t cs := e ▸ h
theorem slc_one {w : World} {g : Nat} {cell : Int} (hg : g < w.heap.size) (hc : w.cell? ⟨g, 0, none⟩ = some (.int .i64 cell)) : Slc w (some ⟨g, 0, none⟩) [cell] := by
  refine ⟨by show 1 ≤ maxLen; decide, .inr ⟨g, 0, rfl, hg, fun k x hx => ?_⟩⟩
  cases k with
  | zero => simp at hx; subst hx; exact hc
  | succ k => simp at hx
section
variable {w w' w0 : World} {y : Rb} {G : List Nat} {S : Sp} {b k : Nat} {x : Rd} {X E : Int}
set_option maxRecDepth 100000 in
set_option maxHeartbeats 2000000 in
theorem doc_wants (h : RP w0 w y G S) (hb : Blk w b 291 (dVals y x X E)) (c0 : 0 ≤ x.cell) (c1 : x.cell ≤ 255) (n0 : 1 ≤ S.c.bits) (n1 : S.c.bits ≤ 128) : Calls Tryz.prog 219 #[PT b] w fun e w' => e = .returned (ownSg S.c.bits x.cell).val ∧ Keeps [] w w' := by
  obtain ⟨own, hown⟩ : ∃ o, ownSg S.c.bits x.cell = o := ⟨_, rfl⟩
  obtain ⟨cell, hcell⟩ : ∃ o, x.cell = o := ⟨_, rfl⟩
  obtain ⟨nb, hnb⟩ : ∃ o, S.c.bits = o := ⟨_, rfl⟩
  rw [hnb, hcell] at hown
  rw [hnb, hcell, hown]
  rw [hcell] at c0 c1
  rw [hnb] at n0 n1
  have hk1 : Keeps [] w (w.alloc (.cells #[.int .u64 0, .int .u64 0] 58)) := by simp
  have hr := Blk.new w 58 #[.int .u64 0, .int .u64 0]
  have h1 := h.calm hk1
  have hb1 := hb.keeps hk1 (by simp)
  obtain ⟨b2, hb2⟩ : ∃ q, w.heap.size = q := ⟨_, rfl⟩
  obtain ⟨w1, hw1⟩ : ∃ q, w.alloc (.cells #[.int .u64 0, .int .u64 0] 58) = q := ⟨_, rfl⟩
  rw [hw1] at hk1 hr h1 hb1
  rw [hb2] at hr
  have HR := Lib.hid hr
  have HK1 := Lib.hid hk1
  have HB2 : Hid (w.heap.size ≤ b2) := by unfold Hid; omega
  have HC := Lib.hid (show ∀ w', Keeps [] w1 w' → w'.cell? ⟨b, 0, none⟩ = some (PT y.p) ∧ w'.cell? ⟨b, 6, none⟩ = some (.int .i64 cell) ∧ w'.cell? ⟨y.p, 2, none⟩ = some (.int .i64 nb) from fun w' hk => ⟨((hb1.keeps hk (by simp)).cell 0).trans rfl, by rw [← hcell]; exact ((hb1.keeps hk (by simp)).cell 6).trans rfl, by rw [← hnb]; exact (h1.calm hk).cells.2.2.1⟩)
  have QO : Hid (∀ (w' : World) (g : Nat), Keeps [] w1 w' → g < w'.heap.size → w'.cell? ⟨g, 0, none⟩ = some (.int .i64 cell) → Calls Tryz.prog 221 #[.slice (some ⟨g, 0, none⟩) 1 1, .int .i64 nb] w' fun e w'' => e = .returned (.tuple #[.agg #[.int .u64 (own.a : Int), .int .u64 (own.b : Int)], .int .i64 0]) ∧ Keeps [] w' w'') := fun w' g hk hg hc => by
    have := rof_one w' _ cell nb (slc_one hg hc) c0 c1 n0 n1
    rw [hown] at this
    exact this
  have hkB : Keeps [] w1 w1 := Keeps.refl _ _
  have lb := hb1.lt
  have ly : y.p < w1.heap.size := by
    obtain ⟨⟨lb', v', h3, _⟩, _, _⟩ := h1
    exact h3.blk.lt
  have l2 := hr.lt
  have nb1 : b ≠ w1.heap.size := by omega
  have nb2 : b ≠ w1.heap.size + 1 := by omega
  have ny1 : y.p ≠ w1.heap.size := by omega
  have ny2 : y.p ≠ w1.heap.size + 1 := by omega
  have n21 : b2 ≠ w1.heap.size := by omega
  have n22 : b2 ≠ w1.heap.size + 1 := by omega
  have HLT := Lib.hid (And.intro lb (And.intro ly l2))
  clear lb ly l2
  clear h hb hown hcell hnb c0 c1 n0 n1 hk1 hr h1 hb1
  go_enter Tryz.func219, Tryz.ntmps219
  go_wp2_with fail
  try rw [hw1]
  try rw [hb2]
  clear hw1 hb2
  have KA : Hid (Keeps [] w1 (World.drew (World.alloc w1 (.cells #[.int .i64 cell] 3)))) := Keeps.drew (Keeps.alloc hkB _)
  have KB : Hid (Keeps [] w1 (World.drew (World.alloc (World.alloc w1 (.cells #[.int .i64 cell] 3)) (.cells #[.int .u64 0, .int .u64 0] 58)))) := Keeps.drew (Keeps.alloc (Keeps.alloc hkB _) _)
  have KC : Hid (Keeps [] w1 (World.drew (World.alloc (World.alloc w1 (.cells #[.int .u64 0, .int .u64 0] 58)) (.cells #[.int .i64 cell] 3)))) := Keeps.drew (Keeps.alloc (Keeps.alloc hkB _) _)
  have QA : Hid (Calls Tryz.prog 221 #[.slice (some ⟨w1.heap.size, 0, none⟩) 1 1, .int .i64 nb] (World.drew (World.alloc w1 (.cells #[.int .i64 cell] 3))) fun e w'' => e = .returned (.tuple #[.agg #[.int .u64 (own.a : Int), .int .u64 (own.b : Int)], .int .i64 0]) ∧ Keeps [] w1 w'') := (QO.out _ w1.heap.size KA.out (by show w1.heap.size < (World.alloc w1 (.cells #[.int .i64 cell] 3)).heap.size; simp) ((Blk.new w1 3 #[.int .i64 cell]).drew.cell 0)).mono fun e w'' ⟨he, h2⟩ => ⟨he, KA.out.trans h2 (by simp)⟩
  have QB : Hid (Calls Tryz.prog 221 #[.slice (some ⟨w1.heap.size, 0, none⟩) 1 1, .int .i64 nb] (World.drew (World.alloc (World.alloc w1 (.cells #[.int .i64 cell] 3)) (.cells #[.int .u64 0, .int .u64 0] 58))) fun e w'' => e = .returned (.tuple #[.agg #[.int .u64 (own.a : Int), .int .u64 (own.b : Int)], .int .i64 0]) ∧ Keeps [] w1 w'' ∧ Blk w'' (w1.heap.size + 1) 58 #[.int .u64 0, .int .u64 0]) := (QO.out _ w1.heap.size KB.out (by show w1.heap.size < (World.alloc (World.alloc w1 (.cells #[.int .i64 cell] 3)) (.cells #[.int .u64 0, .int .u64 0] 58)).heap.size; simp; omega) (((Blk.new w1 3 #[.int .i64 cell]).alloc _).drew.cell 0)).mono fun e w'' ⟨he, h2⟩ => ⟨he, KB.out.trans h2 (by simp), (blk_at (Blk.new (World.alloc w1 (.cells #[.int .i64 cell] 3)) 58 #[.int .u64 0, .int .u64 0]) (by simp)).drew.keeps h2 (by simp)⟩
  have QC : Hid (Calls Tryz.prog 221 #[.slice (some ⟨w1.heap.size + 1, 0, none⟩) 1 1, .int .i64 nb] (World.drew (World.alloc (World.alloc w1 (.cells #[.int .u64 0, .int .u64 0] 58)) (.cells #[.int .i64 cell] 3))) fun e w'' => e = .returned (.tuple #[.agg #[.int .u64 (own.a : Int), .int .u64 (own.b : Int)], .int .i64 0]) ∧ Keeps [] w1 w'' ∧ Blk w'' w1.heap.size 58 #[.int .u64 0, .int .u64 0]) := (QO.out _ (w1.heap.size + 1) KC.out (by show w1.heap.size + 1 < (World.alloc (World.alloc w1 (.cells #[.int .u64 0, .int .u64 0] 58)) (.cells #[.int .i64 cell] 3)).heap.size; simp) ((blk_at (Blk.new (World.alloc w1 (.cells #[.int .u64 0, .int .u64 0] 58)) 3 #[.int .i64 cell]) (by simp)).drew.cell 0)).mono fun e w'' ⟨he, h2⟩ => ⟨he, KC.out.trans h2 (by simp), ((Blk.new w1 58 #[.int .u64 0, .int .u64 0]).alloc _).drew.keeps h2 (by simp)⟩
  go_region_held3 (fun w' => w'.cell? ⟨b, 0, none⟩ = some (PT y.p) ∧ w'.cell? ⟨b, 6, none⟩ = some (.int .i64 cell) ∧ w'.cell? ⟨y.p, 2, none⟩ = some (.int .i64 nb)) (first | with_reducible exact HC.out _ (by first | with_reducible assumption | with_reducible exact Keeps.drew (by with_reducible assumption) | with_reducible exact Keeps.drew (Keeps.alloc (by with_reducible assumption) _) | with_reducible exact Keeps.alloc (by with_reducible assumption) _ | with_reducible exact Keeps.drew (Keeps.alloc (Keeps.alloc (by with_reducible assumption) _) _)) | with_reducible exact HC.out _ (Keeps.setCell (Keeps.setCell (by first | with_reducible assumption | with_reducible exact Keeps.drew (by with_reducible assumption) | with_reducible exact Keeps.alloc (by with_reducible assumption) _ | with_reducible exact Keeps.drew (Keeps.alloc (by with_reducible assumption) _) | with_reducible exact Keeps.alloc (Keeps.drew (by with_reducible assumption)) _) (Or.inr (by first | exact Nat.le_refl _ | exact Nat.le_succ _ | exact Keeps.size (by with_reducible assumption))) _) (Or.inr (by first | exact Nat.le_refl _ | exact Nat.le_succ _ | exact Keeps.size (by with_reducible assumption))) _) | with_reducible exact HC.out _ (Keeps.drew (Keeps.setCell (Keeps.setCell (by first | with_reducible assumption | with_reducible exact Keeps.drew (by with_reducible assumption) | with_reducible exact Keeps.alloc (by with_reducible assumption) _ | with_reducible exact Keeps.drew (Keeps.alloc (by with_reducible assumption) _) | with_reducible exact Keeps.alloc (Keeps.drew (by with_reducible assumption)) _) (Or.inr (by first | exact Nat.le_refl _ | exact Nat.le_succ _ | exact Keeps.size (by with_reducible assumption))) _) (Or.inr (by first | exact Nat.le_refl _ | exact Nat.le_succ _ | exact Keeps.size (by with_reducible assumption))) _)) | go_keep) ((first
    | (go_at_call 221; with_reducible refine Calls.mono QA.out ?_; rintro e wc ⟨rfl, hkc⟩; obtain ⟨d0, d1, d2⟩ := HC.out wc hkc; have hsz := hkc.size; have nbc : b ≠ wc.heap.size := (by have := HLT.out.1; omega); have nyc : y.p ≠ wc.heap.size := (by have := HLT.out.2.1; omega); have n2c : b2 ≠ wc.heap.size := (by have := HLT.out.2.2; omega); clear hsz)
    | (go_at_call 221; with_reducible refine Calls.mono QB.out ?_; rintro e wc ⟨rfl, hkc, hz⟩; obtain ⟨d0, d1, d2⟩ := HC.out wc hkc; have z0 : wc.cell? ⟨w1.heap.size + 1, 0, none⟩ = some (.int .u64 0) := (hz.cell 0).trans rfl; have z1 : wc.cell? ⟨w1.heap.size + 1, 1, none⟩ = some (.int .u64 0) := (hz.cell 1).trans rfl; have y0 := hz.frozen 0; have y1 := hz.frozen 1; have HZ := Lib.hid hz; clear hz)
    | (go_at_call 221; with_reducible refine Calls.mono QC.out ?_; rintro e wc ⟨rfl, hkc, hz⟩; obtain ⟨d0, d1, d2⟩ := HC.out wc hkc; have z0 : wc.cell? ⟨w1.heap.size, 0, none⟩ = some (.int .u64 0) := (hz.cell 0).trans rfl; have z1 : wc.cell? ⟨w1.heap.size, 1, none⟩ = some (.int .u64 0) := (hz.cell 1).trans rfl; have y0 := hz.frozen 0; have y1 := hz.frozen 1; have HZ := Lib.hid hz; clear hz)))
  · have hq := Blk.new wc 58 #[.int .u64 (own.a : Int), .int .u64 (own.b : Int)]
    have hr := (HR.out.keeps hkc (by simp)).alloc (.cells #[.int .u64 (own.a : Int), .int .u64 (own.b : Int)] 58)
    have hkX : Keeps [] w1 (wc.alloc (.cells #[.int .u64 (own.a : Int), .int .u64 (own.b : Int)] 58)) := hkc.alloc _
    obtain ⟨wX, hwX⟩ : ∃ v, (wc.alloc (.cells #[.int .u64 (own.a : Int), .int .u64 (own.b : Int)] 58)) = v := ⟨_, rfl⟩
    rw [hwX] at hq hr hkX
    rw [hwX]
    clear hwX
    have g0 : wX.cell? ⟨wc.heap.size, 0, none⟩ = some (.int .u64 (own.a : Int)) := (hq.cell 0).trans rfl
    have g1 : wX.cell? ⟨wc.heap.size, 1, none⟩ = some (.int .u64 (own.b : Int)) := (hq.cell 1).trans rfl
    have r0 : wX.cell? ⟨b2, 0, none⟩ = some (.int .u64 0) := (hr.cell 0).trans rfl
    have r1 : wX.cell? ⟨b2, 1, none⟩ = some (.int .u64 0) := (hr.cell 1).trans rfl
    have f0 := hr.frozen 0
    have f1 := hr.frozen 1
    have hfin := (hr.set_ 0 (.int .u64 (own.a : Int))).set_ 1 (.int .u64 (own.b : Int))
    have s0 : ((wX.setCell ⟨b2, 0, none⟩ (.int .u64 (own.a : Int))).setCell ⟨b2, 1, none⟩ (.int .u64 (own.b : Int))).cell? ⟨b2, 0, none⟩ = some (.int .u64 (own.a : Int)) := (hfin.cell 0).trans rfl
    have s1 : ((wX.setCell ⟨b2, 0, none⟩ (.int .u64 (own.a : Int))).setCell ⟨b2, 1, none⟩ (.int .u64 (own.b : Int))).cell? ⟨b2, 1, none⟩ = some (.int .u64 (own.b : Int)) := (hfin.cell 1).trans rfl
    have HKX := Lib.hid (HK1.out.trans hkX (by simp))
    clear hq hr hfin hkX
    go_wp2_with fail
    refine bodyPost_ret (v := .agg #[.int .u64 (own.a : Int), .int .u64 (own.b : Int)]) (by simp [results, Tryz.results219, go_sem, s0, s1]) rfl ⟨rfl, (HKX.out.setCell (.inr HB2.out) _).setCell (.inr HB2.out) _⟩
  · have hq := (HZ.out.set_ 0 (.int .u64 (own.a : Int))).set_ 1 (.int .u64 (own.b : Int))
    have hr := (HR.out.keeps hkc (by simp)).keeps (show Keeps [w1.heap.size + 1] wc ((wc.setCell ⟨w1.heap.size + 1, 0, none⟩ (.int .u64 (own.a : Int))).setCell ⟨w1.heap.size + 1, 1, none⟩ (.int .u64 (own.b : Int))) from ((Keeps.refl _ _).setCell (.inl (by simp)) _).setCell (.inl (by simp)) _) (by simp; exact n22)
    have hkX : Keeps [] w1 ((wc.setCell ⟨w1.heap.size + 1, 0, none⟩ (.int .u64 (own.a : Int))).setCell ⟨w1.heap.size + 1, 1, none⟩ (.int .u64 (own.b : Int))) := (hkc.setCell (.inr (Nat.le_succ _)) _).setCell (.inr (Nat.le_succ _)) _
    obtain ⟨wX, hwX⟩ : ∃ v, ((wc.setCell ⟨w1.heap.size + 1, 0, none⟩ (.int .u64 (own.a : Int))).setCell ⟨w1.heap.size + 1, 1, none⟩ (.int .u64 (own.b : Int))) = v := ⟨_, rfl⟩
    rw [hwX] at hq hr hkX
    rw [hwX]
    clear hwX
    have g0 : wX.cell? ⟨w1.heap.size + 1, 0, none⟩ = some (.int .u64 (own.a : Int)) := (hq.cell 0).trans rfl
    have g1 : wX.cell? ⟨w1.heap.size + 1, 1, none⟩ = some (.int .u64 (own.b : Int)) := (hq.cell 1).trans rfl
    have r0 : wX.cell? ⟨b2, 0, none⟩ = some (.int .u64 0) := (hr.cell 0).trans rfl
    have r1 : wX.cell? ⟨b2, 1, none⟩ = some (.int .u64 0) := (hr.cell 1).trans rfl
    have f0 := hr.frozen 0
    have f1 := hr.frozen 1
    have hfin := (hr.set_ 0 (.int .u64 (own.a : Int))).set_ 1 (.int .u64 (own.b : Int))
    have s0 : ((wX.setCell ⟨b2, 0, none⟩ (.int .u64 (own.a : Int))).setCell ⟨b2, 1, none⟩ (.int .u64 (own.b : Int))).cell? ⟨b2, 0, none⟩ = some (.int .u64 (own.a : Int)) := (hfin.cell 0).trans rfl
    have s1 : ((wX.setCell ⟨b2, 0, none⟩ (.int .u64 (own.a : Int))).setCell ⟨b2, 1, none⟩ (.int .u64 (own.b : Int))).cell? ⟨b2, 1, none⟩ = some (.int .u64 (own.b : Int)) := (hfin.cell 1).trans rfl
    have HKX := Lib.hid (HK1.out.trans hkX (by simp))
    clear hq hr hfin hkX
    go_wp2_with fail
    refine bodyPost_ret (v := .agg #[.int .u64 (own.a : Int), .int .u64 (own.b : Int)]) (by simp [results, Tryz.results219, go_sem, s0, s1]) rfl ⟨rfl, (HKX.out.setCell (.inr HB2.out) _).setCell (.inr HB2.out) _⟩
  · have hq := (HZ.out.set_ 0 (.int .u64 (own.a : Int))).set_ 1 (.int .u64 (own.b : Int))
    have hr := (HR.out.keeps hkc (by simp)).keeps (show Keeps [w1.heap.size] wc ((wc.setCell ⟨w1.heap.size, 0, none⟩ (.int .u64 (own.a : Int))).setCell ⟨w1.heap.size, 1, none⟩ (.int .u64 (own.b : Int))) from ((Keeps.refl _ _).setCell (.inl (by simp)) _).setCell (.inl (by simp)) _) (by simp; exact n21)
    have hkX : Keeps [] w1 ((wc.setCell ⟨w1.heap.size, 0, none⟩ (.int .u64 (own.a : Int))).setCell ⟨w1.heap.size, 1, none⟩ (.int .u64 (own.b : Int))) := (hkc.setCell (.inr (Nat.le_refl _)) _).setCell (.inr (Nat.le_refl _)) _
    obtain ⟨wX, hwX⟩ : ∃ v, ((wc.setCell ⟨w1.heap.size, 0, none⟩ (.int .u64 (own.a : Int))).setCell ⟨w1.heap.size, 1, none⟩ (.int .u64 (own.b : Int))) = v := ⟨_, rfl⟩
    rw [hwX] at hq hr hkX
    rw [hwX]
    clear hwX
    have g0 : wX.cell? ⟨w1.heap.size, 0, none⟩ = some (.int .u64 (own.a : Int)) := (hq.cell 0).trans rfl
    have g1 : wX.cell? ⟨w1.heap.size, 1, none⟩ = some (.int .u64 (own.b : Int)) := (hq.cell 1).trans rfl
    have r0 : wX.cell? ⟨b2, 0, none⟩ = some (.int .u64 0) := (hr.cell 0).trans rfl
    have r1 : wX.cell? ⟨b2, 1, none⟩ = some (.int .u64 0) := (hr.cell 1).trans rfl
    have f0 := hr.frozen 0
    have f1 := hr.frozen 1
    have hfin := (hr.set_ 0 (.int .u64 (own.a : Int))).set_ 1 (.int .u64 (own.b : Int))
    have s0 : ((wX.setCell ⟨b2, 0, none⟩ (.int .u64 (own.a : Int))).setCell ⟨b2, 1, none⟩ (.int .u64 (own.b : Int))).cell? ⟨b2, 0, none⟩ = some (.int .u64 (own.a : Int)) := (hfin.cell 0).trans rfl
    have s1 : ((wX.setCell ⟨b2, 0, none⟩ (.int .u64 (own.a : Int))).setCell ⟨b2, 1, none⟩ (.int .u64 (own.b : Int))).cell? ⟨b2, 1, none⟩ = some (.int .u64 (own.b : Int)) := (hfin.cell 1).trans rfl
    have HKX := Lib.hid (HK1.out.trans hkX (by simp))
    clear hq hr hfin hkX
    go_wp2_with fail
    refine bodyPost_ret (v := .agg #[.int .u64 (own.a : Int), .int .u64 (own.b : Int)]) (by simp [results, Tryz.results219, go_sem, s0, s1]) rfl ⟨rfl, (HKX.out.setCell (.inr HB2.out) _).setCell (.inr HB2.out) _⟩
end
end Go.Proofs.YtdhgiohjdhcedaaGreat

namespace Go.Proofs.YtdhgiohjdhcedaaGreat
open Go.RowKit
set_option linter.unusedVariables false
set_option linter.unusedSimpArgs false
section
variable {w w' w0 : World} {y : Rb} {G : List Nat} {S : Sp} {b k : Nat} {x : Rd} {X E : Int}
theorem pub_stage {w : Int} {l : List Int} (hi : RI x) (hw : x.words = w :: l) : x.over = false ∧ x.stage = 0 ∧ (x.publish w l).stage = 0 := by
  have hn : x.next = 0 := by
    rcases Nat.eq_zero_or_pos x.next with h | h
    · exact h
    · have := hi.nil (by omega)
      rw [hw] at this
      cases this
  have ho : x.over = false := by
    cases h : x.over
    · rfl
    · have := hi.ov h
      omega
  refine ⟨ho, ?_, ?_⟩
  · unfold Rd.stage
    rw [if_neg (by rw [ho]; decide), if_neg (by omega), if_neg (by omega)]
  · unfold Rd.stage
    have h1 : (x.publish w l).over = x.over := rfl
    have h2 : (x.publish w l).next = if l.length = 0 then 1 else 0 := rfl
    rw [if_neg (by rw [h1, ho]; decide), if_neg (by rw [h2]; split <;> omega), if_neg (by rw [h2]; split <;> omega)]
theorem pub_vals0 (y : Rb) (X E : Int) {l : List Int} (hi : RI x) (hw : x.words = 0 :: l) : dVals y (x.publish 0 l) X E = (dVals y x X E).setIfInBounds 4 (.int .u64 (x.both.a : Int)) := by
  obtain ⟨_, h1, h2⟩ := pub_stage hi hw
  unfold dVals
  rw [h1, h2]
  rfl
theorem pub_vals1 (y : Rb) (X E : Int) {l : List Int} (hi : RI x) (hw : x.words = 1 :: l) : dVals y (x.publish 1 l) X E = (dVals y x X E).setIfInBounds 5 (.int .u64 (x.both.b : Int)) := by
  obtain ⟨_, h1, h2⟩ := pub_stage hi hw
  unfold dVals
  rw [h1, h2]
  rfl
set_option maxRecDepth 100000 in
set_option maxHeartbeats 4000000 in
theorem doc_first_pub (h : RP w0 w y G S) (hf : Fit k S) (hk : k ≤ 1099511627776) (hd : Blk w b 291 (dVals y x X E)) (hb0 : w0.heap.size ≤ b) (hbG : b ∉ G) (hi : RI x) (hj : JI S.c.bits x) (c0 : 0 ≤ x.cell) (c1 : x.cell ≤ 255) {wd : Int} {l : List Int} (hw : x.words = wd :: l) :
    Calls Tryz.prog 172 #[PT b] w fun e w' => e = .returned (.tuple #[]) ∧ Blk w' b 291 (dVals y (x.publish wd l) X E) ∧ ∃ G', RP w0 w' y G' (S.put x.f.slot wd (x.both.wd wd : Nat)).2 ∧ Keeps (b :: G) w w' ∧ ∀ q, q ∈ G' → q ∈ G ∨ w.heap.size ≤ q := by
  obtain ⟨n0, n1⟩ := hf.c.2.2.1
  have hown : (ownSg S.c.bits x.cell).ok := ownSg_ok n0 n1 x.cell
  obtain ⟨own, hownE⟩ : ∃ o, ownSg S.c.bits x.cell = o := ⟨_, rfl⟩
  have hjo := hj.join
  rw [hownE] at hown hjo
  obtain ⟨sg, hsg⟩ : ∃ o, x.f.sig = o := ⟨_, rfl⟩
  obtain ⟨bo, hbo⟩ : ∃ o, x.both = o := ⟨_, rfl⟩
  have hsok : sg.ok := hsg ▸ hi.ok.sg
  have hbok : bo.ok := hbo ▸ hi.ok.both
  rw [hsg, hbo] at hjo
  have HC := Lib.hid (show ∀ w', Keeps [] w w' → w'.cell? ⟨b, 4, none⟩ = some (.int .u64 (sg.a : Int)) ∧ w'.cell? ⟨b, 5, none⟩ = some (.int .u64 (sg.b : Int)) from fun w' hk => ⟨by rw [← hsg]; exact ((hd.keeps hk (by simp)).cell 4).trans rfl, by rw [← hsg]; exact ((hd.keeps hk (by simp)).cell 5).trans rfl⟩)
  have QW : Hid (∀ w', Keeps [] w w' → Calls Tryz.prog 219 #[PT b] w' fun e w'' => e = .returned (.agg #[.int .u64 (own.a : Int), .int .u64 (own.b : Int)]) ∧ Keeps [] w' w'') := fun w' hk => by
    have := doc_wants (h.calm hk) (hd.keeps hk (by simp)) c0 c1 n0 n1
    rw [hownE] at this
    exact this
  have QJ : Hid (∀ w', Keeps [] w w' → Calls Tryz.prog 218 #[.agg #[.int .u64 (sg.a : Int), .int .u64 (sg.b : Int)], .agg #[.int .u64 (own.a : Int), .int .u64 (own.b : Int)]] w' fun e w'' => e = .returned (.agg #[.int .u64 (bo.a : Int), .int .u64 (bo.b : Int)]) ∧ Keeps [] w' w'') := fun w' hk => by
    have := rjoin_any w' sg own hsok hown
    rw [hjo] at this
    exact this
  have QA : Hid (Calls Tryz.prog 219 #[PT b] (World.drew w) fun e w'' => e = .returned (.agg #[.int .u64 (own.a : Int), .int .u64 (own.b : Int)]) ∧ Keeps [] w w'') := (QW.out _ (Keeps.refl _ _).drew).mono fun e w'' ⟨he, h2⟩ => ⟨he, (Keeps.refl _ _).drew.trans h2 (by simp)⟩
  have QB : Hid (Calls Tryz.prog 219 #[PT b] (World.drew (World.alloc w (.cells #[.int .u64 0, .int .u64 0] 58))) fun e w'' => e = .returned (.agg #[.int .u64 (own.a : Int), .int .u64 (own.b : Int)]) ∧ Keeps [] w w'' ∧ Blk w'' w.heap.size 58 #[.int .u64 0, .int .u64 0]) := (QW.out _ ((Keeps.refl _ _).alloc _).drew).mono fun e w'' ⟨he, h2⟩ => ⟨he, ((Keeps.refl _ _).alloc _).drew.trans h2 (by simp), (Blk.new w 58 #[.int .u64 0, .int .u64 0]).drew.keeps h2 (by simp)⟩
  have hkB : Keeps [] w w := Keeps.refl _ _
  have HH := Lib.hid (And.intro h (And.intro hf (And.intro hk (And.intro hd (And.intro hb0 hbG)))))
  have HJ := Lib.hid (And.intro hi hj)
  have HE := Lib.hid (And.intro hsg (And.intro hbo (And.intro hsok hbok)))
  have HW := Lib.hid hw
  have hbl := hd.lt
  have nb1 : b ≠ w.heap.size := by omega
  have HBL := Lib.hid hbl
  clear h hf hk hd hb0 hbG hi hj c0 c1 hw n0 n1 hown hownE hjo hsg hbo hsok hbok hbl
  go_enter Tryz.func172, Tryz.ntmps172
  go_upto_region 0 with fail
  go_cut [2] (fun v wx => ∃ q : Nat, v = PT q ∧ w.heap.size ≤ q ∧ Keeps [] w wx ∧ Blk wx q 58 #[.int .u64 (bo.a : Int), .int .u64 (bo.b : Int)])
  case first =>
    go_region_held3 (fun w' => w'.cell? ⟨b, 4, none⟩ = some (.int .u64 (sg.a : Int)) ∧ w'.cell? ⟨b, 5, none⟩ = some (.int .u64 (sg.b : Int))) (first | with_reducible exact HC.out _ (by first | with_reducible assumption | with_reducible exact Keeps.drew (by with_reducible assumption) | with_reducible exact Keeps.alloc (by with_reducible assumption) _ | with_reducible exact Keeps.drew (Keeps.alloc (by with_reducible assumption) _) | with_reducible exact Keeps.alloc (Keeps.drew (by with_reducible assumption)) _) | with_reducible exact HC.out _ (Keeps.setCell (Keeps.setCell (by first | with_reducible assumption | with_reducible exact Keeps.drew (by with_reducible assumption) | with_reducible exact Keeps.alloc (by with_reducible assumption) _ | with_reducible exact Keeps.drew (Keeps.alloc (by with_reducible assumption) _) | with_reducible exact Keeps.alloc (Keeps.drew (by with_reducible assumption)) _) (Or.inr (by first | exact Nat.le_refl _ | exact Nat.le_succ _ | exact Keeps.size (by with_reducible assumption))) _) (Or.inr (by first | exact Nat.le_refl _ | exact Nat.le_succ _ | exact Keeps.size (by with_reducible assumption))) _) | go_keep) ((first
      | (go_at_call 219; with_reducible refine Calls.mono QA.out ?_; rintro e wc ⟨rfl, hkc⟩)
      | (go_at_call 219; with_reducible refine Calls.mono QB.out ?_; rintro e wc ⟨rfl, hkc, hz⟩; have z0 : wc.cell? ⟨w.heap.size, 0, none⟩ = some (.int .u64 0) := (hz.cell 0).trans rfl; have z1 : wc.cell? ⟨w.heap.size, 1, none⟩ = some (.int .u64 0) := (hz.cell 1).trans rfl; have y0 := hz.frozen 0; have y1 := hz.frozen 1; have HZ := Lib.hid hz; clear hz)
      | (go_at_call 218; refine (QJ.out _ (by first | with_reducible assumption | with_reducible exact Keeps.drew (by with_reducible assumption) | with_reducible exact Keeps.alloc (by with_reducible assumption) _ | with_reducible exact Keeps.drew (Keeps.alloc (by with_reducible assumption) _) | with_reducible exact Keeps.alloc (Keeps.drew (by with_reducible assumption)) _)).mono ?_; rintro e wj ⟨rfl, hkj0⟩; have hkj : Keeps [] w wj := Keeps.trans (by first | with_reducible assumption | with_reducible exact Keeps.drew (by with_reducible assumption) | with_reducible exact Keeps.alloc (by with_reducible assumption) _ | with_reducible exact Keeps.drew (Keeps.alloc (by with_reducible assumption) _) | with_reducible exact Keeps.alloc (Keeps.drew (by with_reducible assumption)) _) hkj0 (by simp); first | (have hz := HZ.out.keeps hkj0 (by simp); have z0 : wj.cell? ⟨w.heap.size, 0, none⟩ = some (.int .u64 0) := (hz.cell 0).trans rfl; have z1 : wj.cell? ⟨w.heap.size, 1, none⟩ = some (.int .u64 0) := (hz.cell 1).trans rfl; have y0 := hz.frozen 0; have y1 := hz.frozen 1; have HZ := Lib.hid hz; clear hz) | (have hz := (Blk.new wc 58 #[.int .u64 0, .int .u64 0]).keeps hkj0 (by simp); have z0 : wj.cell? ⟨wc.heap.size, 0, none⟩ = some (.int .u64 0) := (hz.cell 0).trans rfl; have z1 : wj.cell? ⟨wc.heap.size, 1, none⟩ = some (.int .u64 0) := (hz.cell 1).trans rfl; have y0 := hz.frozen 0; have y1 := hz.frozen 1; have HZ := Lib.hid hz; clear hz) | skip)))
    · go_wp2_with fail
      go_meet
      exact ⟨wj.heap.size, rfl, hkj.size, hkj.alloc _, Blk.new wj 58 #[.int .u64 (bo.a : Int), .int .u64 (bo.b : Int)]⟩
    · go_wp2_with fail
      go_meet
      exact ⟨wc.heap.size, rfl, hkc.size, (hkj.setCell (.inr hkc.size) _).setCell (.inr hkc.size) _, (HZ.out.set_ 0 (.int .u64 (bo.a : Int))).set_ 1 (.int .u64 (bo.b : Int))⟩
    · go_wp2_with fail
      go_meet
      exact ⟨w.heap.size, rfl, Nat.le_refl _, (hkj.setCell (.inr (Nat.le_refl _)) _).setCell (.inr (Nat.le_refl _)) _, (HZ.out.set_ 0 (.int .u64 (bo.a : Int))).set_ 1 (.int .u64 (bo.b : Int))⟩
  case rest =>
    obtain ⟨q, rfl, hq, hk1, hbq⟩ := hcut
    obtain ⟨wa, hwa⟩ : ∃ v, v = wc := ⟨_, rfl⟩
    subst hwa
    have HK1 := Lib.hid hk1
    have HBQ := Lib.hid hbq
    have HQ := Lib.hid hq
    have HC1 := Lib.hid (show ∀ w', Keeps [] wa w' → w'.cell? ⟨b, 4, none⟩ = some (.int .u64 (sg.a : Int)) ∧ w'.cell? ⟨b, 5, none⟩ = some (.int .u64 (sg.b : Int)) ∧ w'.cell? ⟨q, 0, none⟩ = some (.int .u64 (bo.a : Int)) ∧ w'.cell? ⟨q, 1, none⟩ = some (.int .u64 (bo.b : Int)) from fun w' hk => ⟨(HC.out w' (hk1.trans hk (by simp))).1, (HC.out w' (hk1.trans hk (by simp))).2, ((hbq.keeps hk (by simp)).cell 0).trans rfl, ((hbq.keeps hk (by simp)).cell 1).trans rfl⟩)
    have QT : Hid (∀ w', Keeps [] wa w' → Calls Tryz.prog 220 #[.agg #[.int .u64 (sg.a : Int), .int .u64 (sg.b : Int)], .agg #[.int .u64 (bo.a : Int), .int .u64 (bo.b : Int)]] w' fun e w'' => ∃ A c, e = .returned (.slice A (l.length + 1) c) ∧ Slc w'' A (wd :: l) ∧ Keeps [] wa w'') := fun w' hk => (rtouched_any w' sg bo HE.out.2.2.1 HE.out.2.2.2).mono fun e w'' ⟨v, he, hrow⟩ => by
      have hwords := HJ.out.2.words
      rw [HW.out, HE.out.1, HE.out.2.1] at hwords
      rw [← hwords] at hrow
      obtain ⟨A, c, e1, e2, e3⟩ := Slc.of_own hrow.1 (by have := wordsL_len (bo.minus sg); rw [← hwords] at this; unfold maxLen; omega)
      exact ⟨A, c, by rw [he, e1]; rfl, e3, hk.trans hrow.2 (by simp)⟩
    have hkA : Keeps [] wa wa := Keeps.refl _ _
    clear hq hk1 hbq
    go_wp2_with fail
    go_region_held3 (fun w' => w'.cell? ⟨b, 4, none⟩ = some (.int .u64 (sg.a : Int)) ∧ w'.cell? ⟨b, 5, none⟩ = some (.int .u64 (sg.b : Int)) ∧ w'.cell? ⟨q, 0, none⟩ = some (.int .u64 (bo.a : Int)) ∧ w'.cell? ⟨q, 1, none⟩ = some (.int .u64 (bo.b : Int))) (first | with_reducible exact HC1.out _ (by first | with_reducible assumption | with_reducible exact Keeps.drew (by with_reducible assumption) | with_reducible exact Keeps.alloc (by with_reducible assumption) _ | with_reducible exact Keeps.drew (Keeps.alloc (by with_reducible assumption) _) | with_reducible exact Keeps.alloc (Keeps.drew (by with_reducible assumption)) _) | go_keep) ((go_at_call 220; refine (QT.out _ (by first | with_reducible assumption | with_reducible exact Keeps.drew (by with_reducible assumption) | with_reducible exact Keeps.alloc (by with_reducible assumption) _ | with_reducible exact Keeps.drew (Keeps.alloc (by with_reducible assumption) _) | with_reducible exact Keeps.alloc (Keeps.drew (by with_reducible assumption)) _)).mono ?_; rintro e w2 ⟨Aw, cw, rfl, hsl, hk2⟩))
    obtain ⟨rg, ro, hAw, hrl, hrc⟩ : ∃ b off, Aw = some ⟨b, off, none⟩ ∧ b < w2.heap.size ∧ w2.cell? ⟨b, off, none⟩ = some (.int .i64 wd) := by
      rcases hsl.2 with h | ⟨b, off, e, hb, hc⟩
      · simp at h
      · exact ⟨b, off, e, hb, by have := hc 0 wd rfl; simpa using this⟩
    subst hAw
    have hln : (0 : Int) < ((l.length + 1 : Nat) : Int) := by omega
    have hgt : decide ((l.length + 1 : Nat) > 0) = true := by simp
    obtain ⟨ln, hlnE⟩ : ∃ ln, l.length + 1 = ln := ⟨_, rfl⟩
    rw [hlnE] at hln hgt
    rw [hlnE]
    have hln2 : decide (0 < ln) = true := decide_eq_true (by omega)
    have hd2 := HH.out.2.2.2.1.keeps (HK1.out.trans hk2 (by simp)) (by simp)
    have HQ2 := Lib.hid (HBQ.out.keeps hk2 (by simp))
    have hq0 : w2.cell? ⟨q, 0, none⟩ = some (.int .u64 (bo.a : Int)) := (HQ2.out.cell 0).trans rfl
    have hq1 : w2.cell? ⟨q, 1, none⟩ = some (.int .u64 (bo.b : Int)) := (HQ2.out.cell 1).trans rfl
    have hqb : q ≠ b := by have := HQ.out; have := HBL.out; omega
    have hqb2 : b ≠ q := Ne.symm hqb
    have HD2 := Lib.hid hd2
    have HK2 := Lib.hid (HK1.out.trans hk2 (by simp))
    have b4 : w2.cell? ⟨b, 4, none⟩ = some (.int .u64 (sg.a : Int)) := by rw [← HE.out.1]; exact (hd2.cell 4).trans rfl
    have b5 : w2.cell? ⟨b, 5, none⟩ = some (.int .u64 (sg.b : Int)) := by rw [← HE.out.1]; exact (hd2.cell 5).trans rfl
    have f4 := hd2.frozen 4
    have f5 := hd2.frozen 5
    clear hd2 hk2 hsl hlnE HC HC1 QT QW QJ QA QB hkA hkB
    have hwd01 := HJ.out.1.ok.words wd (by rw [HW.out]; simp)
    rcases hwd01 with hwd0 | hwd1
    · subst hwd0
      go_wp2_with fail
      go_region
      have hk3 : Keeps [b] w2 (World.drew (w2.setCell ⟨b, 4, none⟩ (.int .u64 (bo.a : Int)))) := ((Keeps.refl [b] w2).setCell (.inl (by simp)) _).drew
      have hb3 : Blk (World.drew (w2.setCell ⟨b, 4, none⟩ (.int .u64 (bo.a : Int)))) b 291 (dVals y (x.publish 0 l) X E) := by
        have h1 := (HD2.out.set_ 4 (.int .u64 (bo.a : Int))).drew
        rw [pub_vals0 y X E HJ.out.1 HW.out, HE.out.2.1]
        exact h1
      have hp3 : RP w0 (World.drew (w2.setCell ⟨b, 4, none⟩ (.int .u64 (bo.a : Int)))) y G S := (HH.out.1.calm HK2.out).away hk3 (fun z hz => by
        simp at hz; subst hz
        exact ⟨HH.out.2.2.2.2.1, HH.out.2.2.2.2.2, fun t ht => by rw [HD2.out.tyOf] at ht; injection ht with ht; subst ht; decide⟩)
      have hq3 := HQ2.out.keeps hk3 (by simpa using hqb)
      obtain ⟨w3, hw3⟩ : ∃ v, World.drew (w2.setCell ⟨b, 4, none⟩ (.int .u64 (bo.a : Int))) = v := ⟨_, rfl⟩
      rw [hw3] at hb3 hp3 hq3 hk3
      rw [hw3]
      have HP3 := Lib.hid hp3
      have HB3 := Lib.hid hb3
      have HQ3 := Lib.hid hq3
      have HK3 := Lib.hid hk3
      have HSL : Hid (x.f.slot = x.f.slot) := rfl
      have hqG : q ∉ G := fun hx => by have h1 := HH.out.1.lt q hx; have h2 := HQ.out; omega
      have HQG := Lib.hid hqG
      obtain ⟨sl, hsl⟩ : ∃ v, x.f.slot = v := ⟨_, rfl⟩
      have HSLE := Lib.hid hsl
      have HC3 := Lib.hid (show ∀ w', Keeps [] w3 w' → w'.cell? ⟨b, 0, none⟩ = some (PT y.p) ∧ w'.cell? ⟨y.p, 9, none⟩ = some (PT y.t) ∧ w'.cell? ⟨b, 1, none⟩ = some (.int .i64 sl) ∧ w'.cell? ⟨q, 0, none⟩ = some (.int .u64 (bo.a : Int)) from fun w' hk => ⟨((hb3.keeps hk (by simp)).cell 0).trans rfl, (hp3.calm hk).cells.2.2.2.2.2.2, by rw [← hsl]; exact ((hb3.keeps hk (by simp)).cell 1).trans rfl, ((hq3.keeps hk (by simp)).cell 0).trans rfl⟩)
      have QP : Hid (∀ w', Keeps [] w3 w' → Calls Tryz.prog 134 #[PT y.t, .int .i64 sl, .int .i64 0, .int .u64 (bo.a : Int)] w' fun e w'' => (∃ r : Int, e = .returned (.int .i64 r)) ∧ RWent w0 w' w'' y G (S.put sl 0 (bo.a : Int)).2 ∧ Keeps G w3 w'') := fun w' hk => (rp_put (HP3.out.calm hk) HH.out.2.1 HH.out.2.2.1 sl 0 (bo.a : Int)).mono fun e w'' ⟨he, h2⟩ => ⟨⟨_, he⟩, h2, by obtain ⟨F', _, h3, _⟩ := h2; exact (hk.mono (by simp)).trans h3 (fun q hq => .inl hq)⟩
      have hkB : Keeps [] w3 w3 := Keeps.refl _ _
      clear hk3 hb3 hp3 hq3 hqG hw3 hsl b4 b5 f4 f5 hq0 hq1
      go_wp2_with fail
      go_region_held3 (fun w' => w'.cell? ⟨b, 0, none⟩ = some (PT y.p) ∧ w'.cell? ⟨y.p, 9, none⟩ = some (PT y.t) ∧ w'.cell? ⟨b, 1, none⟩ = some (.int .i64 sl) ∧ w'.cell? ⟨q, 0, none⟩ = some (.int .u64 (bo.a : Int))) (first | with_reducible exact HC3.out _ (by first | with_reducible assumption | with_reducible exact Keeps.drew (by with_reducible assumption) | with_reducible exact Keeps.alloc (by with_reducible assumption) _ | with_reducible exact Keeps.drew (Keeps.alloc (by with_reducible assumption) _) | with_reducible exact Keeps.alloc (Keeps.drew (by with_reducible assumption)) _) | with_reducible exact d5 | go_keep) ((go_at_call 134; refine (QP.out _ (by first | with_reducible assumption | with_reducible exact Keeps.drew (by with_reducible assumption) | with_reducible exact Keeps.alloc (by with_reducible assumption) _ | with_reducible exact Keeps.drew (Keeps.alloc (by with_reducible assumption) _) | with_reducible exact Keeps.alloc (Keeps.drew (by with_reducible assumption)) _)).mono ?_; rintro e w4 ⟨⟨r, rfl⟩, hW, hk4⟩; obtain ⟨G', hG1, hG2, hG3⟩ := id hW; have hb4 := HB3.out.keeps hk4 HH.out.2.2.2.2.2; have hq4 := HQ3.out.keeps hk4 HQG.out; have d5 : w4.cell? ⟨b, 0, none⟩ = some (PT y.p) ∧ w4.cell? ⟨y.p, 9, none⟩ = some (PT y.t) ∧ w4.cell? ⟨b, 1, none⟩ = some (.int .i64 sl) ∧ w4.cell? ⟨q, 0, none⟩ = some (.int .u64 (bo.a : Int)) := ⟨(hb4.cell 0).trans rfl, hG1.cells.2.2.2.2.2.2, (by rw [← HSLE.out]; exact (hb4.cell 1).trans rfl), (hq4.cell 0).trans rfl⟩; have HB4 := Lib.hid hb4; have HG4 := Lib.hid (And.intro hG1 hG3); have HK4 := Lib.hid hk4; clear hW hG1 hG2 hG3 hb4 hq4 hk4))
      go_wp2_with fail
      first | go_returns | go_end0 | skip
      refine ⟨rfl, HB4.out, G', ?_, (((HK2.out.mono (by simp)).trans HK3.out (fun z hz => .inl (by simp at hz; simp [hz]))).trans HK4.out (fun z hz => .inl (by simp [hz]))), fun z hz => ?_⟩
      · rw [HSLE.out, HE.out.2.1]
        exact HG4.out.1
      · rcases HG4.out.2 z hz with h1 | h1
        · exact .inl h1
        · have h2 := HK2.out.size
          have h3 := HK3.out.size
          have h4 : w3.heap.size ≤ z := h1
          exact .inr (by omega)
    · subst hwd1
      go_wp2_with fail
      go_region
      have hk3 : Keeps [b] w2 (World.drew (w2.setCell ⟨b, 5, none⟩ (.int .u64 (bo.b : Int)))) := ((Keeps.refl [b] w2).setCell (.inl (by simp)) _).drew
      have hb3 : Blk (World.drew (w2.setCell ⟨b, 5, none⟩ (.int .u64 (bo.b : Int)))) b 291 (dVals y (x.publish 1 l) X E) := by
        have h1 := (HD2.out.set_ 5 (.int .u64 (bo.b : Int))).drew
        rw [pub_vals1 y X E HJ.out.1 HW.out, HE.out.2.1]
        exact h1
      have hp3 : RP w0 (World.drew (w2.setCell ⟨b, 5, none⟩ (.int .u64 (bo.b : Int)))) y G S := (HH.out.1.calm HK2.out).away hk3 (fun z hz => by
        simp at hz; subst hz
        exact ⟨HH.out.2.2.2.2.1, HH.out.2.2.2.2.2, fun t ht => by rw [HD2.out.tyOf] at ht; injection ht with ht; subst ht; decide⟩)
      have hq3 := HQ2.out.keeps hk3 (by simpa using hqb)
      obtain ⟨w3, hw3⟩ : ∃ v, World.drew (w2.setCell ⟨b, 5, none⟩ (.int .u64 (bo.b : Int))) = v := ⟨_, rfl⟩
      rw [hw3] at hb3 hp3 hq3 hk3
      rw [hw3]
      have HP3 := Lib.hid hp3
      have HB3 := Lib.hid hb3
      have HQ3 := Lib.hid hq3
      have HK3 := Lib.hid hk3
      have HSL : Hid (x.f.slot = x.f.slot) := rfl
      have hqG : q ∉ G := fun hx => by have h1 := HH.out.1.lt q hx; have h2 := HQ.out; omega
      have HQG := Lib.hid hqG
      obtain ⟨sl, hsl⟩ : ∃ v, x.f.slot = v := ⟨_, rfl⟩
      have HSLE := Lib.hid hsl
      have HC3 := Lib.hid (show ∀ w', Keeps [] w3 w' → w'.cell? ⟨b, 0, none⟩ = some (PT y.p) ∧ w'.cell? ⟨y.p, 9, none⟩ = some (PT y.t) ∧ w'.cell? ⟨b, 1, none⟩ = some (.int .i64 sl) ∧ w'.cell? ⟨q, 1, none⟩ = some (.int .u64 (bo.b : Int)) from fun w' hk => ⟨((hb3.keeps hk (by simp)).cell 0).trans rfl, (hp3.calm hk).cells.2.2.2.2.2.2, by rw [← hsl]; exact ((hb3.keeps hk (by simp)).cell 1).trans rfl, ((hq3.keeps hk (by simp)).cell 1).trans rfl⟩)
      have QP : Hid (∀ w', Keeps [] w3 w' → Calls Tryz.prog 134 #[PT y.t, .int .i64 sl, .int .i64 1, .int .u64 (bo.b : Int)] w' fun e w'' => (∃ r : Int, e = .returned (.int .i64 r)) ∧ RWent w0 w' w'' y G (S.put sl 1 (bo.b : Int)).2 ∧ Keeps G w3 w'') := fun w' hk => (rp_put (HP3.out.calm hk) HH.out.2.1 HH.out.2.2.1 sl 1 (bo.b : Int)).mono fun e w'' ⟨he, h2⟩ => ⟨⟨_, he⟩, h2, by obtain ⟨F', _, h3, _⟩ := h2; exact (hk.mono (by simp)).trans h3 (fun q hq => .inl hq)⟩
      have hkB : Keeps [] w3 w3 := Keeps.refl _ _
      clear hk3 hb3 hp3 hq3 hqG hw3 hsl b4 b5 f4 f5 hq0 hq1
      go_wp2_with fail
      go_region_held3 (fun w' => w'.cell? ⟨b, 0, none⟩ = some (PT y.p) ∧ w'.cell? ⟨y.p, 9, none⟩ = some (PT y.t) ∧ w'.cell? ⟨b, 1, none⟩ = some (.int .i64 sl) ∧ w'.cell? ⟨q, 1, none⟩ = some (.int .u64 (bo.b : Int))) (first | with_reducible exact HC3.out _ (by first | with_reducible assumption | with_reducible exact Keeps.drew (by with_reducible assumption) | with_reducible exact Keeps.alloc (by with_reducible assumption) _ | with_reducible exact Keeps.drew (Keeps.alloc (by with_reducible assumption) _) | with_reducible exact Keeps.alloc (Keeps.drew (by with_reducible assumption)) _) | with_reducible exact d5 | go_keep) ((go_at_call 134; refine (QP.out _ (by first | with_reducible assumption | with_reducible exact Keeps.drew (by with_reducible assumption) | with_reducible exact Keeps.alloc (by with_reducible assumption) _ | with_reducible exact Keeps.drew (Keeps.alloc (by with_reducible assumption) _) | with_reducible exact Keeps.alloc (Keeps.drew (by with_reducible assumption)) _)).mono ?_; rintro e w4 ⟨⟨r, rfl⟩, hW, hk4⟩; obtain ⟨G', hG1, hG2, hG3⟩ := id hW; have hb4 := HB3.out.keeps hk4 HH.out.2.2.2.2.2; have hq4 := HQ3.out.keeps hk4 HQG.out; have d5 : w4.cell? ⟨b, 0, none⟩ = some (PT y.p) ∧ w4.cell? ⟨y.p, 9, none⟩ = some (PT y.t) ∧ w4.cell? ⟨b, 1, none⟩ = some (.int .i64 sl) ∧ w4.cell? ⟨q, 1, none⟩ = some (.int .u64 (bo.b : Int)) := ⟨(hb4.cell 0).trans rfl, hG1.cells.2.2.2.2.2.2, (by rw [← HSLE.out]; exact (hb4.cell 1).trans rfl), (hq4.cell 1).trans rfl⟩; have HB4 := Lib.hid hb4; have HG4 := Lib.hid (And.intro hG1 hG3); have HK4 := Lib.hid hk4; clear hW hG1 hG2 hG3 hb4 hq4 hk4))
      go_wp2_with fail
      first | go_returns | go_end0 | skip
      refine ⟨rfl, HB4.out, G', ?_, (((HK2.out.mono (by simp)).trans HK3.out (fun z hz => .inl (by simp at hz; simp [hz]))).trans HK4.out (fun z hz => .inl (by simp [hz]))), fun z hz => ?_⟩
      · rw [HSLE.out, HE.out.2.1]
        exact HG4.out.1
      · rcases HG4.out.2 z hz with h1 | h1
        · exact .inl h1
        · have h2 := HK2.out.size
          have h3 := HK3.out.size
          have h4 : w3.heap.size ≤ z := h1
          exact .inr (by omega)
end
end Go.Proofs.YtdhgiohjdhcedaaGreat

namespace Go.Proofs.YtdhgiohjdhcedaaGreat
open Go.RowKit
set_option linter.unusedVariables false
set_option linter.unusedSimpArgs false
section
variable {w w' w0 : World} {y : Rb} {G : List Nat} {S : Sp} {b k : Nat} {x : Rd} {X E : Int}
theorem load_vals (y : Rb) (X v E : Int) (hn : x.next = 1) (ho : x.over = false) : dVals y (x.loaded v) v E = ((dVals y x X E).setIfInBounds 7 (.int .i64 v)).setIfInBounds 8 (.int .i64 1) := by
  have h1 : (x.loaded v).stage = 1 := by
    unfold Rd.stage
    have e1 : (x.loaded v).over = x.over := rfl
    have e2 : (x.loaded v).next = 2 := rfl
    rw [if_neg (by rw [e1, ho]; decide), if_pos e2]
  unfold dVals
  rw [h1]
  rfl
set_option maxRecDepth 100000 in
set_option maxHeartbeats 4000000 in
theorem doc_first_load (h : RP w0 w y G S) (hf : Fit k S) (hk : k ≤ 1099511627776) (hd : Blk w b 291 (dVals y x X E)) (hb0 : w0.heap.size ≤ b) (hbG : b ∉ G) (hi : RI x) (hj : JI S.c.bits x) (c0 : 0 ≤ x.cell) (c1 : x.cell ≤ 255) (hw : x.words = []) (hn : x.next = 1) (ho : x.over = false) :
    Calls Tryz.prog 172 #[PT b] w fun e w' => e = .returned (.tuple #[]) ∧ Blk w' b 291 (dVals y (x.loaded (S.load x.cell).1.1) (S.load x.cell).1.1 E) ∧ ∃ G', RP w0 w' y G' (S.load x.cell).2 ∧ Keeps (b :: G) w w' ∧ ∀ q, q ∈ G' → q ∈ G ∨ w.heap.size ≤ q := by
  obtain ⟨n0, n1⟩ := hf.c.2.2.1
  have hown : (ownSg S.c.bits x.cell).ok := ownSg_ok n0 n1 x.cell
  obtain ⟨own, hownE⟩ : ∃ o, ownSg S.c.bits x.cell = o := ⟨_, rfl⟩
  have hjo := hj.join
  rw [hownE] at hown hjo
  obtain ⟨sg, hsg⟩ : ∃ o, x.f.sig = o := ⟨_, rfl⟩
  obtain ⟨bo, hbo⟩ : ∃ o, x.both = o := ⟨_, rfl⟩
  have hsok : sg.ok := hsg ▸ hi.ok.sg
  have hbok : bo.ok := hbo ▸ hi.ok.both
  rw [hsg, hbo] at hjo
  have HC := Lib.hid (show ∀ w', Keeps [] w w' → w'.cell? ⟨b, 4, none⟩ = some (.int .u64 (sg.a : Int)) ∧ w'.cell? ⟨b, 5, none⟩ = some (.int .u64 (sg.b : Int)) from fun w' hk => ⟨by rw [← hsg]; exact ((hd.keeps hk (by simp)).cell 4).trans rfl, by rw [← hsg]; exact ((hd.keeps hk (by simp)).cell 5).trans rfl⟩)
  have QW : Hid (∀ w', Keeps [] w w' → Calls Tryz.prog 219 #[PT b] w' fun e w'' => e = .returned (.agg #[.int .u64 (own.a : Int), .int .u64 (own.b : Int)]) ∧ Keeps [] w' w'') := fun w' hk => by
    have := doc_wants (h.calm hk) (hd.keeps hk (by simp)) c0 c1 n0 n1
    rw [hownE] at this
    exact this
  have QJ : Hid (∀ w', Keeps [] w w' → Calls Tryz.prog 218 #[.agg #[.int .u64 (sg.a : Int), .int .u64 (sg.b : Int)], .agg #[.int .u64 (own.a : Int), .int .u64 (own.b : Int)]] w' fun e w'' => e = .returned (.agg #[.int .u64 (bo.a : Int), .int .u64 (bo.b : Int)]) ∧ Keeps [] w' w'') := fun w' hk => by
    have := rjoin_any w' sg own hsok hown
    rw [hjo] at this
    exact this
  have QA : Hid (Calls Tryz.prog 219 #[PT b] (World.drew w) fun e w'' => e = .returned (.agg #[.int .u64 (own.a : Int), .int .u64 (own.b : Int)]) ∧ Keeps [] w w'') := (QW.out _ (Keeps.refl _ _).drew).mono fun e w'' ⟨he, h2⟩ => ⟨he, (Keeps.refl _ _).drew.trans h2 (by simp)⟩
  have QB : Hid (Calls Tryz.prog 219 #[PT b] (World.drew (World.alloc w (.cells #[.int .u64 0, .int .u64 0] 58))) fun e w'' => e = .returned (.agg #[.int .u64 (own.a : Int), .int .u64 (own.b : Int)]) ∧ Keeps [] w w'' ∧ Blk w'' w.heap.size 58 #[.int .u64 0, .int .u64 0]) := (QW.out _ ((Keeps.refl _ _).alloc _).drew).mono fun e w'' ⟨he, h2⟩ => ⟨he, ((Keeps.refl _ _).alloc _).drew.trans h2 (by simp), (Blk.new w 58 #[.int .u64 0, .int .u64 0]).drew.keeps h2 (by simp)⟩
  have hkB : Keeps [] w w := Keeps.refl _ _
  have HH := Lib.hid (And.intro h (And.intro hf (And.intro hk (And.intro hd (And.intro hb0 hbG)))))
  have HJ := Lib.hid (And.intro hi hj)
  have HE := Lib.hid (And.intro hsg (And.intro hbo (And.intro hsok hbok)))
  have HW := Lib.hid (And.intro hw (And.intro hn ho))
  have hbl := hd.lt
  have nb1 : b ≠ w.heap.size := by omega
  have HBL := Lib.hid hbl
  clear h hf hk hd hb0 hbG hi hj c0 c1 hw hn ho n0 n1 hown hownE hjo hsg hbo hsok hbok hbl
  go_enter Tryz.func172, Tryz.ntmps172
  go_upto_region 0 with fail
  go_cut [2] (fun v wx => ∃ q : Nat, v = PT q ∧ w.heap.size ≤ q ∧ Keeps [] w wx ∧ Blk wx q 58 #[.int .u64 (bo.a : Int), .int .u64 (bo.b : Int)])
  case first =>
    go_region_held3 (fun w' => w'.cell? ⟨b, 4, none⟩ = some (.int .u64 (sg.a : Int)) ∧ w'.cell? ⟨b, 5, none⟩ = some (.int .u64 (sg.b : Int))) (first | with_reducible exact HC.out _ (by first | with_reducible assumption | with_reducible exact Keeps.drew (by with_reducible assumption) | with_reducible exact Keeps.alloc (by with_reducible assumption) _ | with_reducible exact Keeps.drew (Keeps.alloc (by with_reducible assumption) _) | with_reducible exact Keeps.alloc (Keeps.drew (by with_reducible assumption)) _) | with_reducible exact HC.out _ (Keeps.setCell (Keeps.setCell (by first | with_reducible assumption | with_reducible exact Keeps.drew (by with_reducible assumption) | with_reducible exact Keeps.alloc (by with_reducible assumption) _ | with_reducible exact Keeps.drew (Keeps.alloc (by with_reducible assumption) _) | with_reducible exact Keeps.alloc (Keeps.drew (by with_reducible assumption)) _) (Or.inr (by first | exact Nat.le_refl _ | exact Nat.le_succ _ | exact Keeps.size (by with_reducible assumption))) _) (Or.inr (by first | exact Nat.le_refl _ | exact Nat.le_succ _ | exact Keeps.size (by with_reducible assumption))) _) | go_keep) ((first
      | (go_at_call 219; with_reducible refine Calls.mono QA.out ?_; rintro e wc ⟨rfl, hkc⟩)
      | (go_at_call 219; with_reducible refine Calls.mono QB.out ?_; rintro e wc ⟨rfl, hkc, hz⟩; have z0 : wc.cell? ⟨w.heap.size, 0, none⟩ = some (.int .u64 0) := (hz.cell 0).trans rfl; have z1 : wc.cell? ⟨w.heap.size, 1, none⟩ = some (.int .u64 0) := (hz.cell 1).trans rfl; have y0 := hz.frozen 0; have y1 := hz.frozen 1; have HZ := Lib.hid hz; clear hz)
      | (go_at_call 218; refine (QJ.out _ (by first | with_reducible assumption | with_reducible exact Keeps.drew (by with_reducible assumption) | with_reducible exact Keeps.alloc (by with_reducible assumption) _ | with_reducible exact Keeps.drew (Keeps.alloc (by with_reducible assumption) _) | with_reducible exact Keeps.alloc (Keeps.drew (by with_reducible assumption)) _)).mono ?_; rintro e wj ⟨rfl, hkj0⟩; have hkj : Keeps [] w wj := Keeps.trans (by first | with_reducible assumption | with_reducible exact Keeps.drew (by with_reducible assumption) | with_reducible exact Keeps.alloc (by with_reducible assumption) _ | with_reducible exact Keeps.drew (Keeps.alloc (by with_reducible assumption) _) | with_reducible exact Keeps.alloc (Keeps.drew (by with_reducible assumption)) _) hkj0 (by simp); first | (have hz := HZ.out.keeps hkj0 (by simp); have z0 : wj.cell? ⟨w.heap.size, 0, none⟩ = some (.int .u64 0) := (hz.cell 0).trans rfl; have z1 : wj.cell? ⟨w.heap.size, 1, none⟩ = some (.int .u64 0) := (hz.cell 1).trans rfl; have y0 := hz.frozen 0; have y1 := hz.frozen 1; have HZ := Lib.hid hz; clear hz) | (have hz := (Blk.new wc 58 #[.int .u64 0, .int .u64 0]).keeps hkj0 (by simp); have z0 : wj.cell? ⟨wc.heap.size, 0, none⟩ = some (.int .u64 0) := (hz.cell 0).trans rfl; have z1 : wj.cell? ⟨wc.heap.size, 1, none⟩ = some (.int .u64 0) := (hz.cell 1).trans rfl; have y0 := hz.frozen 0; have y1 := hz.frozen 1; have HZ := Lib.hid hz; clear hz) | skip)))
    · go_wp2_with fail
      go_meet
      exact ⟨wj.heap.size, rfl, hkj.size, hkj.alloc _, Blk.new wj 58 #[.int .u64 (bo.a : Int), .int .u64 (bo.b : Int)]⟩
    · go_wp2_with fail
      go_meet
      exact ⟨wc.heap.size, rfl, hkc.size, (hkj.setCell (.inr hkc.size) _).setCell (.inr hkc.size) _, (HZ.out.set_ 0 (.int .u64 (bo.a : Int))).set_ 1 (.int .u64 (bo.b : Int))⟩
    · go_wp2_with fail
      go_meet
      exact ⟨w.heap.size, rfl, Nat.le_refl _, (hkj.setCell (.inr (Nat.le_refl _)) _).setCell (.inr (Nat.le_refl _)) _, (HZ.out.set_ 0 (.int .u64 (bo.a : Int))).set_ 1 (.int .u64 (bo.b : Int))⟩
  case rest =>
    obtain ⟨q, rfl, hq, hk1, hbq⟩ := hcut
    obtain ⟨wa, hwa⟩ : ∃ v, v = wc := ⟨_, rfl⟩
    subst hwa
    have HK1 := Lib.hid hk1
    have HBQ := Lib.hid hbq
    have HQ := Lib.hid hq
    have HC1 := Lib.hid (show ∀ w', Keeps [] wa w' → w'.cell? ⟨b, 4, none⟩ = some (.int .u64 (sg.a : Int)) ∧ w'.cell? ⟨b, 5, none⟩ = some (.int .u64 (sg.b : Int)) ∧ w'.cell? ⟨q, 0, none⟩ = some (.int .u64 (bo.a : Int)) ∧ w'.cell? ⟨q, 1, none⟩ = some (.int .u64 (bo.b : Int)) from fun w' hk => ⟨(HC.out w' (hk1.trans hk (by simp))).1, (HC.out w' (hk1.trans hk (by simp))).2, ((hbq.keeps hk (by simp)).cell 0).trans rfl, ((hbq.keeps hk (by simp)).cell 1).trans rfl⟩)
    have QT : Hid (∀ w', Keeps [] wa w' → Calls Tryz.prog 220 #[.agg #[.int .u64 (sg.a : Int), .int .u64 (sg.b : Int)], .agg #[.int .u64 (bo.a : Int), .int .u64 (bo.b : Int)]] w' fun e w'' => ∃ A c, e = .returned (.slice A 0 c) ∧ Keeps [] wa w'') := fun w' hk => (rtouched_any w' sg bo HE.out.2.2.1 HE.out.2.2.2).mono fun e w'' ⟨v, he, hrow⟩ => by
      have hwords := HJ.out.2.words
      rw [HW.out.1, HE.out.1, HE.out.2.1] at hwords
      rw [← hwords] at hrow
      obtain ⟨A, c, e1⟩ := row_form hrow.1
      exact ⟨A, c, by rw [he, e1]; rfl, hk.trans hrow.2 (by simp)⟩
    have hkA : Keeps [] wa wa := Keeps.refl _ _
    clear hq hk1 hbq
    go_wp2_with fail
    go_region_held3 (fun w' => w'.cell? ⟨b, 4, none⟩ = some (.int .u64 (sg.a : Int)) ∧ w'.cell? ⟨b, 5, none⟩ = some (.int .u64 (sg.b : Int)) ∧ w'.cell? ⟨q, 0, none⟩ = some (.int .u64 (bo.a : Int)) ∧ w'.cell? ⟨q, 1, none⟩ = some (.int .u64 (bo.b : Int))) (first | with_reducible exact HC1.out _ (by first | with_reducible assumption | with_reducible exact Keeps.drew (by with_reducible assumption) | with_reducible exact Keeps.alloc (by with_reducible assumption) _ | with_reducible exact Keeps.drew (Keeps.alloc (by with_reducible assumption) _) | with_reducible exact Keeps.alloc (Keeps.drew (by with_reducible assumption)) _) | go_keep) ((go_at_call 220; refine (QT.out _ (by first | with_reducible assumption | with_reducible exact Keeps.drew (by with_reducible assumption) | with_reducible exact Keeps.alloc (by with_reducible assumption) _ | with_reducible exact Keeps.drew (Keeps.alloc (by with_reducible assumption) _) | with_reducible exact Keeps.alloc (Keeps.drew (by with_reducible assumption)) _)).mono ?_; rintro e w2 ⟨Aw, cw, rfl, hk2⟩))
    have HK2 := Lib.hid (HK1.out.trans hk2 (by simp))
    have hd2 := HH.out.2.2.2.1.keeps HK2.out (by simp)
    have hp2 := HH.out.1.calm HK2.out
    obtain ⟨cell, hce⟩ : ∃ c, x.cell = c := ⟨_, rfl⟩
    obtain ⟨v, hv⟩ : ∃ v, (S.load x.cell).1.1 = v := ⟨_, rfl⟩
    obtain ⟨S', hS'⟩ : ∃ v, (S.load x.cell).2 = v := ⟨_, rfl⟩
    have HCE := Lib.hid (And.intro hce (And.intro hv hS'))
    have HC3 := Lib.hid (show ∀ w', Keeps [] w2 w' → w'.cell? ⟨b, 0, none⟩ = some (PT y.p) ∧ w'.cell? ⟨y.p, 7, none⟩ = some (PT y.r) ∧ w'.cell? ⟨b, 6, none⟩ = some (.int .i64 cell) from fun w' hk => ⟨((hd2.keeps hk (by simp)).cell 0).trans rfl, (hp2.calm hk).cells.2.2.2.2.1, by rw [← hce]; exact ((hd2.keeps hk (by simp)).cell 6).trans rfl⟩)
    have HD2 := Lib.hid hd2
    have QP : Hid (∀ w', Keeps [] w2 w' → Calls Tryz.prog 122 #[PT y.r, .int .i64 cell] w' fun e w'' => (∃ r : Int, e = .returned (.tuple #[.int .i64 v, .int .i64 r])) ∧ RWent w0 w' w'' y G S' ∧ Keeps G w2 w'') := fun w' hk => (rp_load (hp2.calm hk) HH.out.2.1 HH.out.2.2.1 cell).mono fun e w'' ⟨he, h2⟩ => ⟨⟨(S.load cell).1.2, by rw [he, show (S.load cell).1.1 = v from hce ▸ hv]⟩, by have e1 : (S.load cell).2 = S' := hce ▸ hS'; rw [e1] at h2; exact h2, by obtain ⟨F', _, h3, _⟩ := h2; exact (hk.mono (by simp)).trans h3 (fun q hq => .inl hq)⟩
    have hkB : Keeps [] w2 w2 := Keeps.refl _ _
    clear hk2 hd2 hp2 hce hv hS' HC HC1 QT QW QJ QA QB hkA
    have hg0 : ¬ ((0 : Nat) : Int) > 0 := by decide
    go_wp2_with fail
    go_region_held3 (fun w' => w'.cell? ⟨b, 0, none⟩ = some (PT y.p) ∧ w'.cell? ⟨y.p, 7, none⟩ = some (PT y.r) ∧ w'.cell? ⟨b, 6, none⟩ = some (.int .i64 cell)) (first | with_reducible exact HC3.out _ (by first | with_reducible assumption | with_reducible exact Keeps.drew (by with_reducible assumption) | with_reducible exact Keeps.alloc (by with_reducible assumption) _ | with_reducible exact Keeps.drew (Keeps.alloc (by with_reducible assumption) _) | with_reducible exact Keeps.alloc (Keeps.drew (by with_reducible assumption)) _) | with_reducible exact d5 | go_keep) ((go_at_call 122; refine (QP.out _ (by first | with_reducible assumption | with_reducible exact Keeps.drew (by with_reducible assumption) | with_reducible exact Keeps.alloc (by with_reducible assumption) _ | with_reducible exact Keeps.drew (Keeps.alloc (by with_reducible assumption) _) | with_reducible exact Keeps.alloc (Keeps.drew (by with_reducible assumption)) _)).mono ?_; rintro e w4 ⟨⟨r, rfl⟩, hW, hk4⟩; obtain ⟨G', hG1, hG2, hG3⟩ := id hW; have hb4 := HD2.out.keeps hk4 HH.out.2.2.2.2.2; have d5 : w4.cell? ⟨b, 0, none⟩ = some (PT y.p) ∧ w4.cell? ⟨y.p, 7, none⟩ = some (PT y.r) ∧ w4.cell? ⟨b, 6, none⟩ = some (.int .i64 cell) := ⟨(hb4.cell 0).trans rfl, hG1.cells.2.2.2.2.1, (by rw [← HCE.out.1]; exact (hb4.cell 6).trans rfl)⟩; have HB4 := Lib.hid hb4; have HG4 := Lib.hid (And.intro hG1 hG3); have HK4 := Lib.hid hk4; clear hW hG1 hG2 hG3 hb4 hk4))
    have d7 : w4.cell? ⟨b, 7, none⟩ = some (.int .i64 X) := (HB4.out.cell 7).trans rfl
    have d8 : w4.cell? ⟨b, 8, none⟩ = some (.int .i64 x.stage) := (HB4.out.cell 8).trans rfl
    have f7 := HB4.out.frozen 7
    have f8 := HB4.out.frozen 8
    go_wp2_with fail
    first | go_returns | go_end0 | skip
    have hk5 : Keeps [b] w4 ((w4.setCell ⟨b, 7, none⟩ (.int .i64 v)).setCell ⟨b, 8, none⟩ (.int .i64 1)) := ((Keeps.refl [b] w4).setCell (.inl (by simp)) _).setCell (.inl (by simp)) _
    have hbG' : b ∉ G' := fun hx => by
      rcases HG4.out.2 b hx with h1 | h1
      · exact HH.out.2.2.2.2.2 h1
      · have h2 := HK2.out.size
        have h3 := HBL.out
        have h4 : w2.heap.size ≤ b := h1
        omega
    have hp5 : RP w0 ((w4.setCell ⟨b, 7, none⟩ (.int .i64 v)).setCell ⟨b, 8, none⟩ (.int .i64 1)) y G' S' := HG4.out.1.away hk5 (fun z hz => by
      simp at hz; subst hz
      exact ⟨HH.out.2.2.2.2.1, hbG', fun t ht => by rw [HB4.out.tyOf] at ht; injection ht with ht; subst ht; decide⟩)
    refine ⟨rfl, ?_, G', HCE.out.2.2 ▸ hp5, ((HK2.out.mono (by simp)).trans HK4.out (fun z hz => .inl (by simp [hz]))).trans hk5 (fun z hz => .inl (by simp at hz; simp [hz])), fun z hz => ?_⟩
    · rw [HCE.out.2.1, load_vals y X v E HW.out.2.1 HW.out.2.2]
      exact (HB4.out.set_ 7 (.int .i64 v)).set_ 8 (.int .i64 1)
    · rcases HG4.out.2 z hz with h1 | h1
      · exact .inl h1
      · have h2 := HK2.out.size
        have h4 : w2.heap.size ≤ z := h1
        exact .inr (by omega)
end
end Go.Proofs.YtdhgiohjdhcedaaGreat

namespace Go.Proofs.YtdhgiohjdhcedaaGreat
open Go.RowKit
set_option linter.unusedVariables false
set_option linter.unusedSimpArgs false
/-- What a step of the document's read leaves. -/
def WentD (w0 w w' : World) (y : Rb) (G : List Nat) (b : Nat) (S' : Sp) (x' : Rd) : Prop := DocAt w' y b x' ∧ ∃ G', RP w0 w' y G' S' ∧ Keeps (b :: G) w w' ∧ ∀ q, q ∈ G' → q ∈ G ∨ w.heap.size ≤ q
section
variable {w w' w0 : World} {y : Rb} {G : List Nat} {S : Sp} {b k : Nat} {x : Rd}
theorem doc_step_fin (h : RP w0 w y G S) (hd : DocAt w y b x) (ho : x.over = true) : Calls Tryz.prog 79 #[PT b] w fun e w' => e = .returned (.int .i64 (x.step S).1) ∧ WentD w0 w w' y G b (x.step S).2.2 (x.step S).2.1 := by
  rw [Rd.step_fin ho]
  have HD := Lib.hid (And.intro h hd)
  obtain ⟨⟨X, E, hb, _⟩⟩ := hd
  have c8 : w.cell? ⟨b, 8, none⟩ = some (.int .i64 3) := by
    have : x.stage = 3 := by unfold Rd.stage; rw [if_pos ho]
    rw [← this]; exact (hb.cell 8).trans rfl
  clear h hb ho
  go_enter Tryz.func79, Tryz.ntmps79
  go_wp2_with fail
  go_ret
  exact ⟨rfl, HD.out.2, G, HD.out.1, Keeps.refl _ _, fun q hq => .inl hq⟩
theorem doc_step_pub (h : RP w0 w y G S) (hf : Fit k S) (hk : k ≤ 1099511627776) (hd : DocAt w y b x) (hb0 : w0.heap.size ≤ b) (hbG : b ∉ G) (hi : RI x) (hj : JI S.c.bits x) (c0 : 0 ≤ x.cell) (c1 : x.cell ≤ 255) {wd : Int} {l : List Int} (hw : x.words = wd :: l) (hn : x.next = 0) (ho : x.over = false) :
    Calls Tryz.prog 79 #[PT b] w fun e w' => e = .returned (.int .i64 (x.step S).1) ∧ WentD w0 w w' y G b (x.step S).2.2 (x.step S).2.1 := by
  rw [Rd.step_pub ho hn hw]
  obtain ⟨⟨X, E, hb, h0, _⟩⟩ := hd
  have c8 : w.cell? ⟨b, 8, none⟩ = some (.int .i64 0) := by
    rw [← (pub_stage hi hw).2.1]; exact (hb.cell 8).trans rfl
  have QF := Lib.hid (doc_first_pub h hf hk hb hb0 hbG hi hj c0 c1 hw)
  have hE := (h0 ho).1
  have HO : Hid ((x.publish wd l).over = false) := ho
  have HL : Hid ((x.publish wd l).next = if l.length = 0 then 1 else 0) := rfl
  clear h hf hk hb hb0 hbG hi hj hw hn ho h0
  go_enter Tryz.func79, Tryz.ntmps79
  go_wp2_with fail
  refine QF.out.mono ?_
  rintro e w1 ⟨rfl, hb1, hG⟩
  have HB1 := Lib.hid hb1
  have HG := Lib.hid hG
  clear hb1 hG QF
  go_wp2_with fail
  go_ret
  refine ⟨rfl, ⟨X, E, HB1.out, fun _ => ⟨hE, fun h2 => ?_⟩, fun h3 => ?_⟩, HG.out⟩
  · rw [HL.out] at h2
    split at h2 <;> omega
  · rw [HO.out] at h3; cases h3
theorem doc_step_load (h : RP w0 w y G S) (hf : Fit k S) (hk : k ≤ 1099511627776) (hd : DocAt w y b x) (hb0 : w0.heap.size ≤ b) (hbG : b ∉ G) (hi : RI x) (hj : JI S.c.bits x) (c0 : 0 ≤ x.cell) (c1 : x.cell ≤ 255) (hw : x.words = []) (hn : x.next = 1) (ho : x.over = false) :
    Calls Tryz.prog 79 #[PT b] w fun e w' => e = .returned (.int .i64 (x.step S).1) ∧ WentD w0 w w' y G b (x.step S).2.2 (x.step S).2.1 := by
  rw [Rd.step_load ho hn]
  obtain ⟨⟨X, E, hb, h0, _⟩⟩ := hd
  have hst : x.stage = 0 := by
    unfold Rd.stage
    rw [if_neg (by rw [ho]; decide), if_neg (by omega), if_neg (by omega)]
  have c8 : w.cell? ⟨b, 8, none⟩ = some (.int .i64 0) := by
    rw [← hst]; exact (hb.cell 8).trans rfl
  have QF := Lib.hid (doc_first_load h hf hk hb hb0 hbG hi hj c0 c1 hw hn ho)
  have hE := (h0 ho).1
  have HO : Hid ((x.loaded (S.load x.cell).1.1).over = false) := ho
  clear h hf hk hb hb0 hbG hi hj hw hn ho h0 hst
  go_enter Tryz.func79, Tryz.ntmps79
  go_wp2_with fail
  refine QF.out.mono ?_
  rintro e w1 ⟨rfl, hb1, hG⟩
  have HB1 := Lib.hid hb1
  have HG := Lib.hid hG
  clear hb1 hG QF
  go_wp2_with fail
  go_ret
  exact ⟨rfl, ⟨_, E, HB1.out, fun _ => ⟨hE, fun _ => rfl⟩, fun h3 => by rw [HO.out] at h3; cases h3⟩, HG.out⟩
end
end Go.Proofs.YtdhgiohjdhcedaaGreat

namespace Go.Proofs.YtdhgiohjdhcedaaGreat
open Go.RowKit
set_option linter.unusedVariables false
set_option linter.unusedSimpArgs false
section
variable {w w' w0 : World} {y : Rb} {G : List Nat} {S : Sp} {b k : Nat} {x : Rd}
theorem rp_glook (h : RP w0 w y G S) (hf : Fit k S) (hk : k ≤ 1099511627776) : Calls Tryz.prog 173 #[PT y.g] w fun e w' => e = .returned (.agg #[.int .i64 S.gate.number, .int .i64 S.gate.owner]) ∧ RWent w0 w w' y G S.glook.2 := by
  obtain ⟨lb, v, hs, hF⟩ := h.ex
  exact (rlook w y.g y.m S.gate hs.gate lb S.met hs.met (hf.rlog hk)).mono fun e w' ⟨he, hl⟩ => ⟨he, h.went hF (hs.gated hl)⟩
theorem gate_vals (y : Rb) (X E m : Int) (ho : x.over = false) (hn : x.next = 2) : dVals y ({ x with f := { x.f with seen := m }, next := 1 } : Rd) X E = ((dVals y x X E).setIfInBounds 3 (.int .i64 m)).setIfInBounds 8 (.int .i64 0) := by
  have h1 : Rd.stage ({ x with f := { x.f with seen := m }, next := 1 } : Rd) = 0 := by
    unfold Rd.stage
    rw [if_neg (by show ¬ x.over = true; rw [ho]; decide), if_neg (by show ¬ (1 : Nat) = 2; decide), if_neg (by show ¬ (1 : Nat) = 3; decide)]
  unfold dVals
  rw [h1]
  rfl
theorem gate_vals2 (y : Rb) (X E : Int) (ho : x.over = false) : dVals y ({ x with next := 3 } : Rd) X E = (dVals y x X E).setIfInBounds 8 (.int .i64 2) := by
  have h1 : Rd.stage ({ x with next := 3 } : Rd) = 2 := by
    unfold Rd.stage
    rw [if_neg (by show ¬ x.over = true; rw [ho]; decide), if_neg (by show ¬ (3 : Nat) = 2; decide), if_pos (by show (3 : Nat) = 3; rfl)]
  unfold dVals
  rw [h1]
  rfl
set_option maxRecDepth 100000 in
set_option maxHeartbeats 4000000 in
theorem doc_step_gate (h : RP w0 w y G S) (hf : Fit k S) (hk : k ≤ 1099511627776) (hd : DocAt w y b x) (hb0 : w0.heap.size ≤ b) (hbG : b ∉ G) (hn : x.next = 2) (ho : x.over = false) :
    Calls Tryz.prog 79 #[PT b] w fun e w' => e = .returned (.int .i64 (x.step S).1) ∧ WentD w0 w w' y G b (x.step S).2.2 (x.step S).2.1 := by
  rw [Rd.step_gate ho hn]
  obtain ⟨⟨X, E, hb, h0, _⟩⟩ := hd
  have hE := h0 ho
  have hst : x.stage = 1 := by
    unfold Rd.stage
    rw [if_neg (by rw [ho]; decide), if_pos hn]
  have c8 : w.cell? ⟨b, 8, none⟩ = some (.int .i64 1) := by rw [← hst]; exact (hb.cell 8).trans rfl
  have c0 : w.cell? ⟨b, 0, none⟩ = some (PT y.p) := (hb.cell 0).trans rfl
  have cg := h.cells.2.2.2.2.2.1
  have hg0 := hf.g0
  have hq := rp_glook h hf hk
  obtain ⟨nn, hnn⟩ : ∃ v, S.gate.number = v := ⟨_, rfl⟩
  obtain ⟨ow, how⟩ : ∃ v, S.gate.owner = v := ⟨_, rfl⟩
  rw [hnn] at hq hg0
  rw [how] at hq
  rw [hnn]
  have QG := Lib.hid hq
  have HB := Lib.hid (And.intro hb (And.intro hbG hb0))
  have HE := Lib.hid hE
  have HO := Lib.hid (And.intro ho hn)
  have hm : Int.tmod nn 2 = nn % 2 := Int.tmod_eq_emod_of_nonneg hg0
  have HLT := Lib.hid h.lt
  clear h hf hk hb hb0 hbG hn ho h0 hE hst hq hg0
  go_enter Tryz.func79, Tryz.ntmps79
  go_wp2_with fail
  refine QG.out.mono ?_
  rintro e w1 ⟨rfl, G', hp1, hk1, hn1⟩
  have hb1 := HB.out.1.keeps hk1 HB.out.2.1
  have hbG' : b ∉ G' := fun hx => by
    rcases hn1 b hx with h1 | h1
    · exact HB.out.2.1 h1
    · have := HB.out.1.lt
      omega
  have hk2 : Keeps [] w1 (w1.alloc (.cells #[.int .i64 nn, .int .i64 ow] 42)) := by simp
  have hgb := Blk.new w1 42 #[.int .i64 nn, .int .i64 ow]
  have g0 : (w1.alloc (.cells #[.int .i64 nn, .int .i64 ow] 42)).cell? ⟨w1.heap.size, 0, none⟩ = some (.int .i64 nn) := (hgb.cell 0).trans rfl
  have hb2 := hb1.keeps hk2 (by simp)
  have d3 : (w1.alloc (.cells #[.int .i64 nn, .int .i64 ow] 42)).cell? ⟨b, 3, none⟩ = some (.int .i64 x.f.seen) := (hb2.cell 3).trans rfl
  have d8 : (w1.alloc (.cells #[.int .i64 nn, .int .i64 ow] 42)).cell? ⟨b, 8, none⟩ = some (.int .i64 x.stage) := (hb2.cell 8).trans rfl
  have f3 := hb2.frozen 3
  have f8 := hb2.frozen 8
  have HP := Lib.hid (hp1.calm hk2)
  have HB2 := Lib.hid hb2
  have HK2 := Lib.hid ((hk1.mono (fun z hz => .inl (by simp [hz])) : Keeps (b :: G) w w1).trans hk2 (by simp))
  have HN1 := Lib.hid (And.intro hn1 hbG')
  clear hp1 hk1 hn1 hb1 hbG' hk2 hgb hb2 QG c8 c0 cg
  by_cases hodd : nn % 2 = 1
  · have hob : (nn % 2 == 1) = true := by simp [hodd]
    go_wp2_with fail
    go_ret
    refine ⟨by first | rfl | rw [if_pos hodd], ?_, G', HP.out, HK2.out, HN1.out.1⟩
    unfold Rd.gate
    rw [if_pos hodd]
    exact ⟨X, E, HB2.out, fun _ => HE.out, fun h => by rw [HO.out.1] at h; cases h⟩
  · have hob : (nn % 2 == 1) = false := by simp [hodd]
    by_cases hs : nn = x.f.seen
    · have hs1 : (nn != x.f.seen) = false := by simp [hs]
      have HS := Lib.hid hs
      clear hs
      go_wp2_with fail
      go_quiet (fail)
      go_wp2_with fail
      go_ret
      refine ⟨by first | rfl | rw [if_neg hodd], ?_, G', HP.out.away (X := [b]) (show Keeps [b] (w1.alloc (.cells #[.int .i64 nn, .int .i64 ow] 42)) _ from ((Keeps.refl [b] _).drewN _).setCell (.inl (by simp)) _) (fun z hz => by simp at hz; subst hz; exact ⟨HB.out.2.2, HN1.out.2, fun t ht => by rw [HB2.out.tyOf] at ht; injection ht with ht; subst ht; decide⟩), HK2.out.trans (show Keeps [b] (w1.alloc (.cells #[.int .i64 nn, .int .i64 ow] 42)) _ from ((Keeps.refl [b] _).drewN _).setCell (.inl (by simp)) _) (fun z hz => .inl (by simp at hz; simp [hz])), HN1.out.1⟩
      unfold Rd.gate
      rw [if_neg hodd, if_pos HS.out]
      refine ⟨X, E, ?_, fun _ => ⟨HE.out.1, fun _ => HE.out.2 (by rw [HO.out.2]; decide)⟩, fun h => by rw [show ({ x with next := 3 } : Rd).over = x.over from rfl, HO.out.1] at h; cases h⟩
      rw [gate_vals2 y X E HO.out.1]
      exact (HB2.out.drewN _).set_ 8 (.int .i64 2)
    · have hs1 : (nn != x.f.seen) = true := by simp [hs]
      have HS := Lib.hid hs
      clear hs
      go_wp2_with fail
      go_quiet (fail)
      go_wp2_with fail
      go_ret
      refine ⟨by first | rfl | rw [if_neg hodd], ?_, G', HP.out.away (X := [b]) (show Keeps [b] (w1.alloc (.cells #[.int .i64 nn, .int .i64 ow] 42)) _ from (((Keeps.refl [b] _).drewN _).setCell (.inl (by simp)) _).setCell (.inl (by simp)) _) (fun z hz => by simp at hz; subst hz; exact ⟨HB.out.2.2, HN1.out.2, fun t ht => by rw [HB2.out.tyOf] at ht; injection ht with ht; subst ht; decide⟩), HK2.out.trans (show Keeps [b] (w1.alloc (.cells #[.int .i64 nn, .int .i64 ow] 42)) _ from (((Keeps.refl [b] _).drewN _).setCell (.inl (by simp)) _).setCell (.inl (by simp)) _) (fun z hz => .inl (by simp at hz; simp [hz])), HN1.out.1⟩
      unfold Rd.gate
      rw [if_neg hodd, if_neg HS.out]
      refine ⟨X, E, ?_, fun _ => ⟨HE.out.1, fun h => absurd (show 2 ≤ 1 from h) (by decide)⟩, fun h => by rw [show ({ x with f := { x.f with seen := nn }, next := 1 } : Rd).over = x.over from rfl, HO.out.1] at h; cases h⟩
      rw [gate_vals y X E nn HO.out.1 HO.out.2]
      exact ((HB2.out.drewN _).set_ 3 (.int .i64 nn)).set_ 8 (.int .i64 0)
end
end Go.Proofs.YtdhgiohjdhcedaaGreat

namespace Go.Proofs.YtdhgiohjdhcedaaGreat
open Go.RowKit
set_option linter.unusedVariables false
set_option linter.unusedSimpArgs false
section
variable {w w' w0 : World} {y : Rb} {G : List Nat} {S : Sp} {b k : Nat} {x : Rd}
theorem rhd_over {hv : Hd} : (x.head hv).over = true := by unfold Rd.head; split <;> rfl
theorem rhd_e7 {hv : Hd} (h : hv.state ≠ 2 ∨ hv.gen ≠ x.f.gen ∨ hv.doomed = true) : (x.head hv).e = 7 := by unfold Rd.head; rw [if_pos h]
theorem rhd_e0 {hv : Hd} (h : ¬ (hv.state ≠ 2 ∨ hv.gen ≠ x.f.gen ∨ hv.doomed = true)) : (x.head hv).e = 0 := by unfold Rd.head; rw [if_neg h]
theorem rhd_x {hv : Hd} (h : ¬ (hv.state ≠ 2 ∨ hv.gen ≠ x.f.gen ∨ hv.doomed = true)) : (x.head hv).x = x.x := by unfold Rd.head; rw [if_neg h]
theorem rhd_bad (y : Rb) (X E : Int) {hv : Hd} (h : hv.state ≠ 2 ∨ hv.gen ≠ x.f.gen ∨ hv.doomed = true) : dVals y (x.head hv) X 7 = ((dVals y x X E).setIfInBounds 9 (.int .i64 7)).setIfInBounds 8 (.int .i64 3) := by
  have h1 : (x.head hv).stage = 3 := by unfold Rd.stage; rw [if_pos rhd_over]
  unfold dVals
  rw [h1]
  unfold Rd.head
  rw [if_pos h]
  rfl
theorem rhd_good (y : Rb) (X : Int) {hv : Hd} (h : ¬ (hv.state ≠ 2 ∨ hv.gen ≠ x.f.gen ∨ hv.doomed = true)) : dVals y (x.head hv) X 0 = (dVals y x X 0).setIfInBounds 8 (.int .i64 3) := by
  have h1 : (x.head hv).stage = 3 := by unfold Rd.stage; rw [if_pos rhd_over]
  unfold dVals
  rw [h1]
  unfold Rd.head
  rw [if_neg h]
  rfl
theorem headS {wc : World} {G' : List Nat} {S' : Sp} {X E sl : Int} {Q : Nat} (hb1 : Blk wc b 291 (dVals y x X E)) (hp1 : RP w0 wc y G' S') (hsl : x.f.slot = sl) (hbQ : b ≠ Q) (h0 : w0.heap.size ≤ Q) (hQ : Q ∉ G') (ht : ∀ t, tyOf wc Q = some t → t ∉ rpFix) : ∀ w', Keeps [Q] wc w' → w'.cell? ⟨b, 0, none⟩ = some (PT y.p) ∧ w'.cell? ⟨y.p, 9, none⟩ = some (PT y.t) ∧ w'.cell? ⟨b, 1, none⟩ = some (.int .i64 sl) := fun w' hk => ⟨((hb1.keeps hk (by simpa using hbQ)).cell 0).trans rfl, (hp1.away hk (fun z hz => by simp at hz; subst hz; exact ⟨h0, hQ, ht⟩)).cells.2.2.2.2.2.2, by rw [← hsl]; exact ((hb1.keeps hk (by simpa using hbQ)).cell 1).trans rfl⟩
set_option maxRecDepth 100000 in
set_option maxHeartbeats 4000000 in
theorem doc_step_head (h : RP w0 w y G S) (hf : Fit k S) (hk : k ≤ 1099511627776) (hd : DocAt w y b x) (hb0 : w0.heap.size ≤ b) (hbG : b ∉ G) (hn : x.next = 3) (ho : x.over = false) :
    Calls Tryz.prog 79 #[PT b] w fun e w' => e = .returned (.int .i64 (x.step S).1) ∧ WentD w0 w w' y G b (x.step S).2.2 (x.step S).2.1 := by
  rw [Rd.step_head ho hn]
  obtain ⟨⟨X, E, hb, h0, _⟩⟩ := hd
  have hE := h0 ho
  have hst : x.stage = 2 := by
    unfold Rd.stage
    rw [if_neg (by rw [ho]; decide), if_neg (by omega), if_pos hn]
  have c8 : w.cell? ⟨b, 8, none⟩ = some (.int .i64 2) := by rw [← hst]; exact (hb.cell 8).trans rfl
  obtain ⟨sl, hsl⟩ : ∃ v, x.f.slot = v := ⟨_, rfl⟩
  rw [hsl]
  have hlk : ∀ w', Keeps [] w w' → Calls Tryz.prog 174 #[PT y.t, .int .i64 sl] w' fun e w'' => e = .returned (.tuple #[(S.look sl).1.1.val, .int .i64 (S.look sl).1.2]) ∧ RWent w0 w' w'' y G (S.look sl).2 := fun w' hk' => rp_look (h.calm hk') hf hk sl
  obtain ⟨hv, hhv⟩ : ∃ v, (S.look sl).1.1 = v := ⟨_, rfl⟩
  obtain ⟨er, her⟩ : ∃ v, (S.look sl).1.2 = v := ⟨_, rfl⟩
  obtain ⟨S', hS'⟩ : ∃ v, (S.look sl).2 = v := ⟨_, rfl⟩
  simp only [hhv, her, hS'] at hlk ⊢
  unfold Hd.val at hlk
  have HC := Lib.hid (show ∀ w', Keeps [] w w' → w'.cell? ⟨b, 0, none⟩ = some (PT y.p) ∧ w'.cell? ⟨y.p, 9, none⟩ = some (PT y.t) ∧ w'.cell? ⟨b, 1, none⟩ = some (.int .i64 sl) from fun w' hk => ⟨((hb.keeps hk (by simp)).cell 0).trans rfl, (h.calm hk).cells.2.2.2.2.2.2, by rw [← hsl]; exact ((hb.keeps hk (by simp)).cell 1).trans rfl⟩)
  have hlt := h.lt
  have HW0 : Hid (w0.heap.size ≤ w.heap.size) := h.keep.size
  have HLK : Hid (∀ w', Keeps [] w w' → Calls Tryz.prog 174 #[PT y.t, .int .i64 sl] w' fun e w'' => e = .returned (.tuple #[.agg #[.int .i64 hv.gen, .int .i64 hv.state, .int .i64 hv.stamp, .int .i64 hv.thread, .bool hv.doomed, .int .i64 hv.who], .int .i64 er]) ∧ ∃ G', RP w0 w'' y G' S' ∧ Keeps G w' w'' ∧ (∀ z, z ∈ G' → z ∈ G ∨ w'.heap.size ≤ z)) := fun w' hk' => (hlk w' hk').mono fun e w'' ⟨he, G', h2, h3, h4⟩ => ⟨he, G', h2, h3, h4⟩
  have hkB : Keeps [] w w := Keeps.refl _ _
  have HB := Lib.hid (And.intro hb (And.intro hbG hb0))
  have HE := Lib.hid hE
  have HO := Lib.hid (And.intro ho hn)
  have HLT := Lib.hid hlt
  have HSL := Lib.hid hsl
  clear h hf hk hb hb0 hbG hn ho h0 hE hst hlk hhv her hS' hlt hsl
  go_enter Tryz.func79, Tryz.ntmps79
  go_upto_region 14 with fail
  go_cut [4] (fun v wx => ∃ (q : Nat) (G' : List Nat), v = PT q ∧ w.heap.size ≤ q ∧ q ∉ G' ∧ RP w0 wx y G' S' ∧ Keeps G w wx ∧ (∀ z, z ∈ G' → z ∈ G ∨ w.heap.size ≤ z) ∧ Blk wx q 55 #[.int .i64 hv.gen, .int .i64 hv.state, .int .i64 hv.stamp, .int .i64 hv.thread, .bool hv.doomed, .int .i64 hv.who])
  case first =>
    refine wp_region_noPanic ?_
    refine wp_region_L 99 (fun w' => w'.cell? ⟨b, 0, none⟩ = some (PT y.p) ∧ w'.cell? ⟨y.p, 9, none⟩ = some (PT y.t) ∧ w'.cell? ⟨b, 1, none⟩ = some (.int .i64 sl)) (by kernel_rfl) ?_
    have hHeld := HC.out _ hkB.drew
    refine wpAnyL_takeT (i := 0) (v := ?rv0) rfl (by kernel_rfl) (by kernel_rfl) (by kernel_rfl) (by kernel_rfl) (fun _ _ _ h => h) (Or.inl ⟨by rfl, ?ry0⟩) hHeld ?rr0
    case ry0 => (intro w' hSw; (try dsimp only at hSw); go_simp; first | done | with_reducible rfl)
    case' rr0 => (try simp only [Act.put, List.setIfInBounds_toArray, List.set_cons_zero, List.set_cons_succ])
    refine wpAnyL_takeT (i := 1) (v := ?rv1) rfl (by kernel_rfl) (by kernel_rfl) (by kernel_rfl) (by kernel_rfl) (fun _ _ _ h => h) (Or.inl ⟨by rfl, ?ry1⟩) hHeld ?rr1
    case ry1 => (intro w' hSw; (try dsimp only at hSw); go_simp; first | done | with_reducible rfl)
    case' rr1 => (try simp only [Act.put, List.setIfInBounds_toArray, List.set_cons_zero, List.set_cons_succ])
    refine wpAnyL_takeT (i := 2) (v := ?rv2) rfl (by kernel_rfl) (by kernel_rfl) (by kernel_rfl) (by kernel_rfl) (fun _ _ _ h => h) (Or.inl ⟨by rfl, ?ry2⟩) hHeld ?rr2
    case ry2 => (intro w' hSw; (try dsimp only at hSw); go_simp; first | done | with_reducible rfl)
    case' rr2 => (try simp only [Act.put, List.setIfInBounds_toArray, List.set_cons_zero, List.set_cons_succ])
    refine wpAnyL_takeT (i := 3) (v := ?rv3) rfl (by kernel_rfl) (by kernel_rfl) (by kernel_rfl) (by kernel_rfl) (fun _ _ _ h => h) (Or.inl ⟨by rfl, ?ry3⟩) hHeld ?rr3
    case ry3 => (intro w' hSw; (try dsimp only at hSw); go_simp; first | done | with_reducible rfl)
    case' rr3 => (try simp only [Act.put, List.setIfInBounds_toArray, List.set_cons_zero, List.set_cons_succ])
    refine wpAnyL_takeT (i := 4) (v := ?rv4) rfl (by kernel_rfl) (by kernel_rfl) (by kernel_rfl) (by kernel_rfl) (fun _ _ _ h => h) (Or.inl ⟨by rfl, ?ry4⟩) hHeld ?rr4
    case ry4 => (intro w' hSw; (try dsimp only at hSw); go_simp; first | done | with_reducible rfl)
    case' rr4 => (try simp only [Act.put, List.setIfInBounds_toArray, List.set_cons_zero, List.set_cons_succ])
    refine wpAnyL_takeT (i := 5) (v := ?rv5) rfl (by kernel_rfl) (by kernel_rfl) (by kernel_rfl) (by kernel_rfl) (fun _ _ _ h => h) (Or.inl ⟨by rfl, ?ry5⟩) hHeld ?rr5
    case ry5 => (intro w' hSw; (try dsimp only at hSw); go_simp; first | done | with_reducible rfl)
    case' rr5 => (try simp only [Act.put, List.setIfInBounds_toArray, List.set_cons_zero, List.set_cons_succ])
    refine wpAnyL_takeT (i := 6) (v := ?rv6) rfl (by kernel_rfl) (by kernel_rfl) (by kernel_rfl) (by kernel_rfl) (fun _ _ _ h => h) (Or.inl ⟨by rfl, ?ry6⟩) hHeld ?rr6
    case ry6 => (intro w' hSw; (try dsimp only at hSw); go_simp; first | done | with_reducible rfl)
    case' rr6 => (try simp only [Act.put, List.setIfInBounds_toArray, List.set_cons_zero, List.set_cons_succ])
    refine wpAnyL_takeT (i := 7) (v := ?rv7) rfl (by kernel_rfl) (by kernel_rfl) (by kernel_rfl) (by kernel_rfl) (fun _ _ _ h => h) (Or.inl ⟨by rfl, ?ry7⟩) hHeld ?rr7
    case ry7 => (intro w' hSw; (try dsimp only at hSw); go_simp; first | done | with_reducible rfl)
    case' rr7 => (try simp only [Act.put, List.setIfInBounds_toArray, List.set_cons_zero, List.set_cons_succ])
    refine wpAnyL_takeT (i := 8) (v := ?rv8) rfl (by kernel_rfl) (by kernel_rfl) (by kernel_rfl) (by kernel_rfl) (fun _ _ _ h => h) (Or.inl ⟨by rfl, ?ry8⟩) hHeld ?rr8
    case ry8 => (intro w' hSw; (try dsimp only at hSw); go_simp; first | done | with_reducible rfl)
    case' rr8 => (try simp only [Act.put, List.setIfInBounds_toArray, List.set_cons_zero, List.set_cons_succ])
    refine wpAnyL_takeT (i := 9) (v := ?rv9) rfl (by kernel_rfl) (by kernel_rfl) (by kernel_rfl) (by kernel_rfl) (fun _ _ _ h => h) (Or.inl ⟨by rfl, ?ry9⟩) hHeld ?rr9
    case ry9 => (intro w' hSw; (try dsimp only at hSw); go_simp; first | done | with_reducible rfl)
    case' rr9 => (try simp only [Act.put, List.setIfInBounds_toArray, List.set_cons_zero, List.set_cons_succ])
    refine wpAnyL_takeT (i := 10) (v := ?rv10) rfl (by kernel_rfl) (by kernel_rfl) (by kernel_rfl) (by kernel_rfl) (fun _ _ _ h => h) (Or.inl ⟨by rfl, ?ry10⟩) hHeld ?rr10
    case ry10 => (intro w' hSw; (try dsimp only at hSw); go_simp; first | done | with_reducible rfl)
    case' rr10 => (try simp only [Act.put, List.setIfInBounds_toArray, List.set_cons_zero, List.set_cons_succ])
    refine wpAnyL_twoT (i := 11) (j := 15) (by kernel_rfl) rfl rfl (fun K hK => ?_) (fun K hK => ?_)
    · go_simp
      go_at_call 174
      refine (HLK.out _ (hkB.drew)).mono ?_
      rintro e wc ⟨rfl, G', hp1, hk1, hn1⟩
      go_simp
      have hb1 : Blk wc b 291 (dVals y x X E) := (HB.out.1.keeps (hkB.drew) (by simp)).keeps hk1 HB.out.2.1
      have hS1 : wc.cell? ⟨b, 0, none⟩ = some (PT y.p) ∧ wc.cell? ⟨y.p, 9, none⟩ = some (PT y.t) ∧ wc.cell? ⟨b, 1, none⟩ = some (.int .i64 sl) := ⟨(hb1.cell 0).trans rfl, hp1.cells.2.2.2.2.2.2, by rw [← HSL.out]; exact (hb1.cell 1).trans rfl⟩
      refine hK.out _ _ (fun _ => hS1) ?_
      clear hK K
      try simp only [Act.put, List.setIfInBounds_toArray, List.set_cons_zero, List.set_cons_succ]
      replace hHeld := hS1
      refine wpAnyL_takeT (i := 12) (v := ?rva12) rfl (by kernel_rfl) (by kernel_rfl) (by kernel_rfl) (by kernel_rfl) (fun _ _ _ h => h) (Or.inl ⟨by rfl, ?rya12⟩) hHeld ?rra12
      case rya12 => (intro w' hSw; (try dsimp only at hSw); go_simp; first | done | with_reducible rfl)
      case' rra12 => (try simp only [Act.put, List.setIfInBounds_toArray, List.set_cons_zero, List.set_cons_succ])
      refine wpAnyL_takeT (i := 13) (v := ?rva13) rfl (by kernel_rfl) (by kernel_rfl) (by kernel_rfl) (by kernel_rfl) (fun _ _ _ h => h) (Or.inl ⟨by rfl, ?rya13⟩) hHeld ?rra13
      case rya13 => (intro w' hSw; (try dsimp only at hSw); go_simp; first | done | with_reducible rfl)
      case' rra13 => (try simp only [Act.put, List.setIfInBounds_toArray, List.set_cons_zero, List.set_cons_succ])
      refine wpAnyL_takeT (i := 14) (v := ?rva14) rfl (by kernel_rfl) (by kernel_rfl) (by kernel_rfl) (by kernel_rfl) (fun _ _ _ h => h) (Or.inl ⟨by rfl, ?rya14⟩) hHeld ?rra14
      case rya14 => (intro w' hSw; (try dsimp only at hSw); go_simp; first | done | with_reducible rfl)
      case' rra14 => (try simp only [Act.put, List.setIfInBounds_toArray, List.set_cons_zero, List.set_cons_succ])
      refine wpAnyL_oneT (i := 15) (by kernel_rfl) rfl (fun K hK => ?_)
      go_simp
      have hS2 := headS (Q := wc.heap.size) hb1 hp1 HSL.out (Nat.ne_of_lt hb1.lt) hp1.keep.size (fun hx => Nat.lt_irrefl _ (hp1.lt _ hx)) (fun t ht => absurd (tyOf_lt ht) (Nat.lt_irrefl _))
      refine hK.out _ _ (fun _ => hS2 _ ((Keeps.refl _ _).alloc _)) ?_
      clear hK K
      try simp only [Act.put, List.setIfInBounds_toArray, List.set_cons_zero, List.set_cons_succ]
      refine wpAnyL_oneT (i := 16) (by kernel_rfl) rfl (fun K hK => ?_)
      go_simp
      refine hK.out _ _ (fun _ => by first | exact hS2 _ ((Keeps.refl _ _).alloc _) | exact hS2 _ (((((((((Keeps.refl _ _).alloc _).setCell (.inl (by simp)) _).setCell (.inl (by simp)) _).setCell (.inl (by simp)) _).setCell (.inl (by simp)) _).setCell (.inl (by simp)) _).setCell (.inl (by simp)) _))) ?_
      clear hK K
      try simp only [Act.put, List.setIfInBounds_toArray, List.set_cons_zero, List.set_cons_succ]
      refine wpAnyL_oneT (i := 17) (by kernel_rfl) rfl (fun K hK => ?_)
      go_simp
      refine hK.out _ _ (fun _ => by first | exact hS2 _ ((Keeps.refl _ _).alloc _) | exact hS2 _ (((((((((Keeps.refl _ _).alloc _).setCell (.inl (by simp)) _).setCell (.inl (by simp)) _).setCell (.inl (by simp)) _).setCell (.inl (by simp)) _).setCell (.inl (by simp)) _).setCell (.inl (by simp)) _))) ?_
      clear hK K
      try simp only [Act.put, List.setIfInBounds_toArray, List.set_cons_zero, List.set_cons_succ]
      refine wpAnyL_done (by kernel_rfl) ?_ _
      refine NoPanic.normal ?_
      go_wp2_with fail
      go_meet
      exact ⟨wc.heap.size, G', rfl, hk1.size, fun hx => Nat.lt_irrefl _ (hp1.lt _ hx), hp1.calm ((Keeps.refl [] wc).alloc _), (((hkB.drew).mono (by simp)).trans hk1 (fun q hq => .inl hq)).alloc _, hn1, Blk.new wc 55 #[.int .i64 hv.gen, .int .i64 hv.state, .int .i64 hv.stamp, .int .i64 hv.thread, .bool hv.doomed, .int .i64 hv.who]⟩
    · go_simp
      refine hK.out _ _ (fun _ => HC.out _ ((hkB.drew).alloc _)) ?_
      clear hK K
      try simp only [Act.put, List.setIfInBounds_toArray, List.set_cons_zero, List.set_cons_succ]
      refine wpAnyL_oneT (i := 11) (by kernel_rfl) rfl (fun K hK => ?_)
      go_simp
      go_at_call 174
      refine (HLK.out _ (hkB.drew.alloc _)).mono ?_
      rintro e wc ⟨rfl, G', hp1, hk1, hn1⟩
      go_simp
      have hb1 : Blk wc b 291 (dVals y x X E) := (HB.out.1.keeps (hkB.drew.alloc _) (by simp)).keeps hk1 HB.out.2.1
      have hS1 : wc.cell? ⟨b, 0, none⟩ = some (PT y.p) ∧ wc.cell? ⟨y.p, 9, none⟩ = some (PT y.t) ∧ wc.cell? ⟨b, 1, none⟩ = some (.int .i64 sl) := ⟨(hb1.cell 0).trans rfl, hp1.cells.2.2.2.2.2.2, by rw [← HSL.out]; exact (hb1.cell 1).trans rfl⟩
      refine hK.out _ _ (fun _ => hS1) ?_
      clear hK K
      try simp only [Act.put, List.setIfInBounds_toArray, List.set_cons_zero, List.set_cons_succ]
      replace hHeld := hS1
      have hz : Blk wc w.heap.size 55 #[.int .i64 0, .int .i64 0, .int .i64 0, .int .i64 0, .bool false, .int .i64 0] := (Blk.new w.drew 55 #[.int .i64 0, .int .i64 0, .int .i64 0, .int .i64 0, .bool false, .int .i64 0]).keeps hk1 (fun hx => Nat.lt_irrefl w.heap.size (HLT.out _ hx))
      have z0 : wc.cell? ⟨w.heap.size, 0, none⟩ = some (.int .i64 0) := (hz.cell 0).trans rfl
      have y0 := hz.frozen 0
      have z1 : wc.cell? ⟨w.heap.size, 1, none⟩ = some (.int .i64 0) := (hz.cell 1).trans rfl
      have y1 := hz.frozen 1
      have z2 : wc.cell? ⟨w.heap.size, 2, none⟩ = some (.int .i64 0) := (hz.cell 2).trans rfl
      have y2 := hz.frozen 2
      have z3 : wc.cell? ⟨w.heap.size, 3, none⟩ = some (.int .i64 0) := (hz.cell 3).trans rfl
      have y3 := hz.frozen 3
      have z4 : wc.cell? ⟨w.heap.size, 4, none⟩ = some (.bool false) := (hz.cell 4).trans rfl
      have y4 := hz.frozen 4
      have z5 : wc.cell? ⟨w.heap.size, 5, none⟩ = some (.int .i64 0) := (hz.cell 5).trans rfl
      have y5 := hz.frozen 5
      have HZ := Lib.hid hz
      clear hz
      refine wpAnyL_takeT (i := 12) (v := ?rvb12) rfl (by kernel_rfl) (by kernel_rfl) (by kernel_rfl) (by kernel_rfl) (fun _ _ _ h => h) (Or.inl ⟨by rfl, ?ryb12⟩) hHeld ?rrb12
      case ryb12 => (intro w' hSw; (try dsimp only at hSw); go_simp; first | done | with_reducible rfl)
      case' rrb12 => (try simp only [Act.put, List.setIfInBounds_toArray, List.set_cons_zero, List.set_cons_succ])
      refine wpAnyL_takeT (i := 13) (v := ?rvb13) rfl (by kernel_rfl) (by kernel_rfl) (by kernel_rfl) (by kernel_rfl) (fun _ _ _ h => h) (Or.inl ⟨by rfl, ?ryb13⟩) hHeld ?rrb13
      case ryb13 => (intro w' hSw; (try dsimp only at hSw); go_simp; first | done | with_reducible rfl)
      case' rrb13 => (try simp only [Act.put, List.setIfInBounds_toArray, List.set_cons_zero, List.set_cons_succ])
      refine wpAnyL_takeT (i := 14) (v := ?rvb14) rfl (by kernel_rfl) (by kernel_rfl) (by kernel_rfl) (by kernel_rfl) (fun _ _ _ h => h) (Or.inl ⟨by rfl, ?ryb14⟩) hHeld ?rrb14
      case ryb14 => (intro w' hSw; (try dsimp only at hSw); go_simp; first | done | with_reducible rfl)
      case' rrb14 => (try simp only [Act.put, List.setIfInBounds_toArray, List.set_cons_zero, List.set_cons_succ])
      refine wpAnyL_oneT (i := 16) (by kernel_rfl) rfl (fun K hK => ?_)
      go_simp
      have hnq : w.heap.size ∉ G' := fun hx => (hn1 _ hx).elim (fun h => Nat.lt_irrefl _ (HLT.out _ h)) (fun h => absurd (show w.heap.size + 1 ≤ w.heap.size by simp at h; exact h) (Nat.not_succ_le_self _))
      have hS2 := headS (Q := w.heap.size) hb1 hp1 HSL.out (Nat.ne_of_lt HB.out.1.lt) HW0.out hnq (fun t ht => by rw [HZ.out.tyOf] at ht; injection ht with ht; subst ht; decide)
      refine hK.out _ _ (fun _ => hS2 _ (((((((Keeps.refl _ _).setCell (.inl (by simp)) _).setCell (.inl (by simp)) _).setCell (.inl (by simp)) _).setCell (.inl (by simp)) _).setCell (.inl (by simp)) _).setCell (.inl (by simp)) _)) ?_
      clear hK K
      try simp only [Act.put, List.setIfInBounds_toArray, List.set_cons_zero, List.set_cons_succ]
      refine wpAnyL_oneT (i := 17) (by kernel_rfl) rfl (fun K hK => ?_)
      go_simp
      refine hK.out _ _ (fun _ => hS2 _ (((((((Keeps.refl _ _).setCell (.inl (by simp)) _).setCell (.inl (by simp)) _).setCell (.inl (by simp)) _).setCell (.inl (by simp)) _).setCell (.inl (by simp)) _).setCell (.inl (by simp)) _)) ?_
      clear hK K
      try simp only [Act.put, List.setIfInBounds_toArray, List.set_cons_zero, List.set_cons_succ]
      refine wpAnyL_done (by kernel_rfl) ?_ _
      refine NoPanic.normal ?_
      go_wp2_with fail
      go_meet
      have hkw : Keeps [w.heap.size] wc ((((((wc.setCell ⟨w.heap.size, 0, none⟩ (.int .i64 hv.gen)).setCell ⟨w.heap.size, 1, none⟩ (.int .i64 hv.state)).setCell ⟨w.heap.size, 2, none⟩ (.int .i64 hv.stamp)).setCell ⟨w.heap.size, 3, none⟩ (.int .i64 hv.thread)).setCell ⟨w.heap.size, 4, none⟩ (.bool hv.doomed)).setCell ⟨w.heap.size, 5, none⟩ (.int .i64 hv.who)) := (((((((Keeps.refl [w.heap.size] wc).setCell (.inl (by simp)) _).setCell (.inl (by simp)) _).setCell (.inl (by simp)) _).setCell (.inl (by simp)) _).setCell (.inl (by simp)) _).setCell (.inl (by simp)) _)
      have kG : Keeps G w wc := ((hkB.drew.alloc _).mono (by simp)).trans hk1 (fun q hq => .inl hq)
      exact ⟨w.heap.size, G', rfl, Nat.le_refl _, hnq, hp1.away hkw (fun z hz => by simp at hz; subst hz; exact ⟨HW0.out, hnq, fun t ht => by rw [HZ.out.tyOf] at ht; injection ht with ht; subst ht; decide⟩), kG.trans hkw (fun z hz => .inr (by simp at hz; omega)), fun z hz => (hn1 z hz).imp id (fun h => Nat.le_trans (Nat.le_succ w.heap.size) (by simp at h; exact h)), (((((HZ.out.set_ 0 (.int .i64 hv.gen)).set_ 1 (.int .i64 hv.state)).set_ 2 (.int .i64 hv.stamp)).set_ 3 (.int .i64 hv.thread)).set_ 4 (.bool hv.doomed)).set_ 5 (.int .i64 hv.who)⟩
  case rest =>
    obtain ⟨q, G', rfl, hq, hqG, hp1, hk1, hn1, hbq⟩ := hcut
    obtain ⟨wa, hwa⟩ : ∃ v, v = wc := ⟨_, rfl⟩
    subst hwa
    have hb1 := HB.out.1.keeps hk1 HB.out.2.1
    have b2 : wa.cell? ⟨b, 2, none⟩ = some (.int .i64 x.f.gen) := (hb1.cell 2).trans rfl
    have b8 : wa.cell? ⟨b, 8, none⟩ = some (.int .i64 x.stage) := (hb1.cell 8).trans rfl
    have b9 : wa.cell? ⟨b, 9, none⟩ = some (.int .i64 E) := (hb1.cell 9).trans rfl
    have f8 := hb1.frozen 8
    have f9 := hb1.frozen 9
    have q0 : wa.cell? ⟨q, 0, none⟩ = some (.int .i64 hv.gen) := (hbq.cell 0).trans rfl
    have q1 : wa.cell? ⟨q, 1, none⟩ = some (.int .i64 hv.state) := (hbq.cell 1).trans rfl
    have q4 : wa.cell? ⟨q, 4, none⟩ = some (.bool hv.doomed) := (hbq.cell 4).trans rfl
    have HB1 := Lib.hid hb1
    have HP1 := Lib.hid hp1
    have HK1 := Lib.hid (And.intro hk1 hn1)
    have HBG1 : Hid (b ∉ G') := fun hx => by
      rcases hn1 b hx with h1 | h1
      · exact HB.out.2.1 h1
      · have := HB.out.1.lt; omega
    clear hb1 hp1 hk1 hn1 hbq hqG hq HC HLK hkB c8
    by_cases h1 : hv.state = 2
    · have e1 : (hv.state != 2) = false := by simp [h1]
      by_cases h2 : hv.gen = x.f.gen
      · have e2 : (hv.gen != x.f.gen) = false := by simp [h2]
        cases h3 : hv.doomed
        · have HBAD : Hid (¬ (hv.state ≠ 2 ∨ hv.gen ≠ x.f.gen ∨ hv.doomed = true)) := by unfold Hid; rw [h3]; simp [h1, h2]
          rw [h3] at q4
          clear h1 h2 h3
          go_wp2_with fail
          go_quiet (fail)
          go_wp2_with fail
          go_ret
          have hb1d := (HB1.out.drewN nq)
          have hp1d := (HP1.out.calm ((Keeps.refl [] wa).drewN nq))
          have hkd := (HK1.out.1.trans ((Keeps.refl [] wa).drewN nq) (by simp))
          generalize wa.drewN nq = wz at *
          have hkf : Keeps [b] wz (wz.setCell ⟨b, 8, none⟩ (.int .i64 3)) := (Keeps.refl [b] _).setCell (.inl (by simp)) _
          refine ⟨rfl, ⟨X, 0, ?_, fun h3 => ?_, fun _ => ?_⟩, G', hp1d.away hkf (fun z hz => ?_), hkd.mono (fun z hz => .inl (by simp [hz])) |>.trans hkf (fun z hz => .inl (by simp at hz; simp [hz])), HK1.out.2⟩
          · rw [rhd_good y X HBAD.out]
            rw [HE.out.1] at hb1d
            exact (hb1d).set_ 8 (.int .i64 3)
          · rw [rhd_over] at h3; cases h3
          · exact ⟨(rhd_e0 HBAD.out).symm, fun _ => by rw [rhd_x HBAD.out]; exact HE.out.2 (by have := HO.out.2; omega)⟩
          · simp at hz
            subst hz
            exact ⟨HB.out.2.2, HBG1.out, fun t ht => by rw [hb1d.tyOf] at ht; injection ht with ht; subst ht; decide⟩
        · have HBAD : Hid (hv.state ≠ 2 ∨ hv.gen ≠ x.f.gen ∨ hv.doomed = true) := .inr (.inr h3)
          rw [h3] at q4
          clear h1 h2 h3
          go_wp2_with fail
          go_quiet (fail)
          go_wp2_with fail
          go_ret
          have hb1d := (HB1.out.drewN nq)
          have hp1d := (HP1.out.calm ((Keeps.refl [] wa).drewN nq))
          have hkd := (HK1.out.1.trans ((Keeps.refl [] wa).drewN nq) (by simp))
          generalize wa.drewN nq = wz at *
          have hkf : Keeps [b] wz ((wz.setCell ⟨b, 9, none⟩ (.int .i64 7)).setCell ⟨b, 8, none⟩ (.int .i64 3)) := ((Keeps.refl [b] _).setCell (.inl (by simp)) _).setCell (.inl (by simp)) _
          refine ⟨rfl, ⟨X, 7, ?_, fun h3 => ?_, fun _ => ?_⟩, G', hp1d.away hkf (fun z hz => ?_), hkd.mono (fun z hz => .inl (by simp [hz])) |>.trans hkf (fun z hz => .inl (by simp at hz; simp [hz])), HK1.out.2⟩
          · rw [rhd_bad y X E HBAD.out]
            exact ((hb1d).set_ 9 (.int .i64 7)).set_ 8 (.int .i64 3)
          · rw [rhd_over] at h3; cases h3
          · exact ⟨(rhd_e7 HBAD.out).symm, fun h => by rw [rhd_e7 HBAD.out] at h; cases h⟩
          · simp at hz
            subst hz
            exact ⟨HB.out.2.2, HBG1.out, fun t ht => by rw [hb1d.tyOf] at ht; injection ht with ht; subst ht; decide⟩
      · have e2 : (hv.gen != x.f.gen) = true := by simp [h2]
        have HBAD : Hid (hv.state ≠ 2 ∨ hv.gen ≠ x.f.gen ∨ hv.doomed = true) := .inr (.inl h2)
        clear h1 h2
        go_wp2_with fail
        go_quiet (fail)
        go_wp2_with fail
        go_ret
        have hb1d := (HB1.out.drewN nq)
        have hp1d := (HP1.out.calm ((Keeps.refl [] wa).drewN nq))
        have hkd := (HK1.out.1.trans ((Keeps.refl [] wa).drewN nq) (by simp))
        generalize wa.drewN nq = wz at *
        have hkf : Keeps [b] wz ((wz.setCell ⟨b, 9, none⟩ (.int .i64 7)).setCell ⟨b, 8, none⟩ (.int .i64 3)) := ((Keeps.refl [b] _).setCell (.inl (by simp)) _).setCell (.inl (by simp)) _
        refine ⟨rfl, ⟨X, 7, ?_, fun h3 => ?_, fun _ => ?_⟩, G', hp1d.away hkf (fun z hz => ?_), hkd.mono (fun z hz => .inl (by simp [hz])) |>.trans hkf (fun z hz => .inl (by simp at hz; simp [hz])), HK1.out.2⟩
        · rw [rhd_bad y X E HBAD.out]
          exact ((hb1d).set_ 9 (.int .i64 7)).set_ 8 (.int .i64 3)
        · rw [rhd_over] at h3; cases h3
        · exact ⟨(rhd_e7 HBAD.out).symm, fun h => by rw [rhd_e7 HBAD.out] at h; cases h⟩
        · simp at hz
          subst hz
          exact ⟨HB.out.2.2, HBG1.out, fun t ht => by rw [hb1d.tyOf] at ht; injection ht with ht; subst ht; decide⟩
    · have e1 : (hv.state != 2) = true := by simp [h1]
      have HBAD : Hid (hv.state ≠ 2 ∨ hv.gen ≠ x.f.gen ∨ hv.doomed = true) := .inl h1
      clear h1
      go_wp2_with fail
      go_quiet (fail)
      go_wp2_with fail
      go_ret
      have hb1d := (HB1.out.drewN nq)
      have hp1d := (HP1.out.calm ((Keeps.refl [] wa).drewN nq))
      have hkd := (HK1.out.1.trans ((Keeps.refl [] wa).drewN nq) (by simp))
      generalize wa.drewN nq = wz at *
      have hkf : Keeps [b] wz ((wz.setCell ⟨b, 9, none⟩ (.int .i64 7)).setCell ⟨b, 8, none⟩ (.int .i64 3)) := ((Keeps.refl [b] _).setCell (.inl (by simp)) _).setCell (.inl (by simp)) _
      refine ⟨rfl, ⟨X, 7, ?_, fun h3 => ?_, fun _ => ?_⟩, G', hp1d.away hkf (fun z hz => ?_), hkd.mono (fun z hz => .inl (by simp [hz])) |>.trans hkf (fun z hz => .inl (by simp at hz; simp [hz])), HK1.out.2⟩
      · rw [rhd_bad y X E HBAD.out]
        exact ((hb1d).set_ 9 (.int .i64 7)).set_ 8 (.int .i64 3)
      · rw [rhd_over] at h3; cases h3
      · exact ⟨(rhd_e7 HBAD.out).symm, fun h => by rw [rhd_e7 HBAD.out] at h; cases h⟩
      · simp at hz
        subst hz
        exact ⟨HB.out.2.2, HBG1.out, fun t ht => by rw [hb1d.tyOf] at ht; injection ht with ht; subst ht; decide⟩
end
end Go.Proofs.YtdhgiohjdhcedaaGreat

namespace Go.Proofs.YtdhgiohjdhcedaaGreat
open Go.RowKit
set_option linter.unusedVariables false
set_option linter.unusedSimpArgs false
section
variable {w w' w0 : World} {y : Rb} {G F : List Nat} {z : Sb} {S : Sp} {b k : Nat} {x : Rd}
theorem doc_step (h : RP w0 w y G S) (hf : Fit k S) (hk : k ≤ 1099511627776) (hd : DocAt w y b x) (hb0 : w0.heap.size ≤ b) (hbG : b ∉ G) (hi : RI x) (hj : JI S.c.bits x) (c0 : 0 ≤ x.cell) (c1 : x.cell ≤ 255) :
    Calls Tryz.prog 79 #[PT b] w fun e w' => e = .returned (.int .i64 (x.step S).1) ∧ WentD w0 w w' y G b (x.step S).2.2 (x.step S).2.1 := by
  cases ho : x.over with
  | true => exact doc_step_fin h hd ho
  | false =>
    rcases hi.ways ho with ⟨hn, wd, l, hw⟩ | ⟨hn, hw⟩ | ⟨hn, hw⟩ | ⟨hn, hw⟩
    · exact doc_step_pub h hf hk hd hb0 hbG hi hj c0 c1 hw hn ho
    · exact doc_step_load h hf hk hd hb0 hbG hi hj c0 c1 hw hn ho
    · exact doc_step_gate h hf hk hd hb0 hbG hn ho
    · exact doc_step_head h hf hk hd hb0 hbG hn ho
set_option maxRecDepth 100000 in
set_option maxHeartbeats 8000000 in
theorem read_new_no0 (h : SP w0 w z F S) (f : Fr) (cell : Int)  (hq : cell < 0) : Calls Tryz.prog 76 #[PT z.p, f.val, .int .i64 cell] w fun e w' => e = .returned (.tuple #[.pointer none, .int .i64 2]) ∧ Keeps [] w w' := by
  unfold Fr.val Fr.cells
  have hb0 := Blk.new w 171 #[.int .i64 f.slot, .int .i64 f.gen, .int .i64 f.seen, .int .u64 (f.sig.a : Int), .int .u64 (f.sig.b : Int)]
  have hk0 : Keeps [] w (w.alloc (.cells #[.int .i64 f.slot, .int .i64 f.gen, .int .i64 f.seen, .int .u64 (f.sig.a : Int), .int .u64 (f.sig.b : Int)] 171)) := by simp
  have h0 := h.calm hk0
  have QC := Lib.hid (sp_config h0)
  have HB0 := Lib.hid hb0
  have HK0 := Lib.hid hk0
  have d0 : decide (cell < 0) = true := decide_eq_true hq
  clear hb0 hk0 h h0 hq
  go_enter Tryz.func76, Tryz.ntmps76
  go_wp2_with fail
  refine QC.out.mono ?_
  rintro e w1 ⟨rfl, hk⟩
  have hka : Keeps [] w1 (w1.alloc (.cells #[.int .i64 S.c.cells, .int .i64 S.c.slots, .int .i64 S.c.bits, .int .i64 S.c.tag, .int .i64 S.c.bias, .int .i64 S.c.defer] 23)) := by simp
  have hbx := (HB0.out.keeps hk (by simp)).keeps hka (by simp)
  have hql := (HB0.out.keeps hk (by simp)).lt
  have hqn : w.heap.size ≠ w1.heap.size := by omega
  obtain ⟨x0, x1, x2, x3, x4⟩ := And.intro ((hbx.cell 0).trans rfl : _ = some (.int .i64 f.slot)) (And.intro ((hbx.cell 1).trans rfl : _ = some (.int .i64 f.gen)) (And.intro ((hbx.cell 2).trans rfl : _ = some (.int .i64 f.seen)) (And.intro ((hbx.cell 3).trans rfl : _ = some (.int .u64 (f.sig.a : Int))) ((hbx.cell 4).trans rfl : _ = some (.int .u64 (f.sig.b : Int))))))
  go_wp2_with fail
  refine bodyPost_ret (v := .tuple #[.pointer none, .int .i64 2]) (by simp [results, Tryz.results76, go_sem]) rfl ⟨rfl, ?_⟩
  exact HK0.out.trans (hk.trans hka (by simp)) (by simp)
set_option maxRecDepth 100000 in
set_option maxHeartbeats 8000000 in
theorem read_new_no1 (h : SP w0 w z F S) (f : Fr) (cell : Int) (e0 : ¬ (cell < 0)) (hq : S.c.cells ≤ cell) : Calls Tryz.prog 76 #[PT z.p, f.val, .int .i64 cell] w fun e w' => e = .returned (.tuple #[.pointer none, .int .i64 2]) ∧ Keeps [] w w' := by
  unfold Fr.val Fr.cells
  have hb0 := Blk.new w 171 #[.int .i64 f.slot, .int .i64 f.gen, .int .i64 f.seen, .int .u64 (f.sig.a : Int), .int .u64 (f.sig.b : Int)]
  have hk0 : Keeps [] w (w.alloc (.cells #[.int .i64 f.slot, .int .i64 f.gen, .int .i64 f.seen, .int .u64 (f.sig.a : Int), .int .u64 (f.sig.b : Int)] 171)) := by simp
  have h0 := h.calm hk0
  have QC := Lib.hid (sp_config h0)
  have HB0 := Lib.hid hb0
  have HK0 := Lib.hid hk0
  have d0 : decide (cell < 0) = false := decide_eq_false e0
  have d1 : decide (S.c.cells ≤ cell) = true := decide_eq_true hq
  clear hb0 hk0 h h0 hq
  go_enter Tryz.func76, Tryz.ntmps76
  go_wp2_with fail
  refine QC.out.mono ?_
  rintro e w1 ⟨rfl, hk⟩
  have hka : Keeps [] w1 (w1.alloc (.cells #[.int .i64 S.c.cells, .int .i64 S.c.slots, .int .i64 S.c.bits, .int .i64 S.c.tag, .int .i64 S.c.bias, .int .i64 S.c.defer] 23)) := by simp
  have hbx := (HB0.out.keeps hk (by simp)).keeps hka (by simp)
  have hql := (HB0.out.keeps hk (by simp)).lt
  have hqn : w.heap.size ≠ w1.heap.size := by omega
  obtain ⟨x0, x1, x2, x3, x4⟩ := And.intro ((hbx.cell 0).trans rfl : _ = some (.int .i64 f.slot)) (And.intro ((hbx.cell 1).trans rfl : _ = some (.int .i64 f.gen)) (And.intro ((hbx.cell 2).trans rfl : _ = some (.int .i64 f.seen)) (And.intro ((hbx.cell 3).trans rfl : _ = some (.int .u64 (f.sig.a : Int))) ((hbx.cell 4).trans rfl : _ = some (.int .u64 (f.sig.b : Int))))))
  go_wp2_with fail
  refine bodyPost_ret (v := .tuple #[.pointer none, .int .i64 2]) (by simp [results, Tryz.results76, go_sem]) rfl ⟨rfl, ?_⟩
  exact HK0.out.trans (hk.trans hka (by simp)) (by simp)
set_option maxRecDepth 100000 in
set_option maxHeartbeats 8000000 in
theorem read_new_no2 (h : SP w0 w z F S) (f : Fr) (cell : Int) (e0 : ¬ (cell < 0)) (e1 : ¬ (S.c.cells ≤ cell)) (hq : f.slot < 0) : Calls Tryz.prog 76 #[PT z.p, f.val, .int .i64 cell] w fun e w' => e = .returned (.tuple #[.pointer none, .int .i64 2]) ∧ Keeps [] w w' := by
  unfold Fr.val Fr.cells
  have hb0 := Blk.new w 171 #[.int .i64 f.slot, .int .i64 f.gen, .int .i64 f.seen, .int .u64 (f.sig.a : Int), .int .u64 (f.sig.b : Int)]
  have hk0 : Keeps [] w (w.alloc (.cells #[.int .i64 f.slot, .int .i64 f.gen, .int .i64 f.seen, .int .u64 (f.sig.a : Int), .int .u64 (f.sig.b : Int)] 171)) := by simp
  have h0 := h.calm hk0
  have QC := Lib.hid (sp_config h0)
  have HB0 := Lib.hid hb0
  have HK0 := Lib.hid hk0
  have d0 : decide (cell < 0) = false := decide_eq_false e0
  have d1 : decide (S.c.cells ≤ cell) = false := decide_eq_false e1
  have d2 : decide (f.slot < 0) = true := decide_eq_true hq
  clear hb0 hk0 h h0 hq
  go_enter Tryz.func76, Tryz.ntmps76
  go_wp2_with fail
  refine QC.out.mono ?_
  rintro e w1 ⟨rfl, hk⟩
  have hka : Keeps [] w1 (w1.alloc (.cells #[.int .i64 S.c.cells, .int .i64 S.c.slots, .int .i64 S.c.bits, .int .i64 S.c.tag, .int .i64 S.c.bias, .int .i64 S.c.defer] 23)) := by simp
  have hbx := (HB0.out.keeps hk (by simp)).keeps hka (by simp)
  have hql := (HB0.out.keeps hk (by simp)).lt
  have hqn : w.heap.size ≠ w1.heap.size := by omega
  obtain ⟨x0, x1, x2, x3, x4⟩ := And.intro ((hbx.cell 0).trans rfl : _ = some (.int .i64 f.slot)) (And.intro ((hbx.cell 1).trans rfl : _ = some (.int .i64 f.gen)) (And.intro ((hbx.cell 2).trans rfl : _ = some (.int .i64 f.seen)) (And.intro ((hbx.cell 3).trans rfl : _ = some (.int .u64 (f.sig.a : Int))) ((hbx.cell 4).trans rfl : _ = some (.int .u64 (f.sig.b : Int))))))
  go_wp2_with fail
  refine bodyPost_ret (v := .tuple #[.pointer none, .int .i64 2]) (by simp [results, Tryz.results76, go_sem]) rfl ⟨rfl, ?_⟩
  exact HK0.out.trans (hk.trans hka (by simp)) (by simp)
set_option maxRecDepth 100000 in
set_option maxHeartbeats 8000000 in
theorem read_new_no3 (h : SP w0 w z F S) (f : Fr) (cell : Int) (e0 : ¬ (cell < 0)) (e1 : ¬ (S.c.cells ≤ cell)) (e2 : ¬ (f.slot < 0)) (hq : S.c.slots ≤ f.slot) : Calls Tryz.prog 76 #[PT z.p, f.val, .int .i64 cell] w fun e w' => e = .returned (.tuple #[.pointer none, .int .i64 2]) ∧ Keeps [] w w' := by
  unfold Fr.val Fr.cells
  have hb0 := Blk.new w 171 #[.int .i64 f.slot, .int .i64 f.gen, .int .i64 f.seen, .int .u64 (f.sig.a : Int), .int .u64 (f.sig.b : Int)]
  have hk0 : Keeps [] w (w.alloc (.cells #[.int .i64 f.slot, .int .i64 f.gen, .int .i64 f.seen, .int .u64 (f.sig.a : Int), .int .u64 (f.sig.b : Int)] 171)) := by simp
  have h0 := h.calm hk0
  have QC := Lib.hid (sp_config h0)
  have HB0 := Lib.hid hb0
  have HK0 := Lib.hid hk0
  have d0 : decide (cell < 0) = false := decide_eq_false e0
  have d1 : decide (S.c.cells ≤ cell) = false := decide_eq_false e1
  have d2 : decide (f.slot < 0) = false := decide_eq_false e2
  have d3 : decide (S.c.slots ≤ f.slot) = true := decide_eq_true hq
  clear hb0 hk0 h h0 hq
  go_enter Tryz.func76, Tryz.ntmps76
  go_wp2_with fail
  refine QC.out.mono ?_
  rintro e w1 ⟨rfl, hk⟩
  have hka : Keeps [] w1 (w1.alloc (.cells #[.int .i64 S.c.cells, .int .i64 S.c.slots, .int .i64 S.c.bits, .int .i64 S.c.tag, .int .i64 S.c.bias, .int .i64 S.c.defer] 23)) := by simp
  have hbx := (HB0.out.keeps hk (by simp)).keeps hka (by simp)
  have hql := (HB0.out.keeps hk (by simp)).lt
  have hqn : w.heap.size ≠ w1.heap.size := by omega
  obtain ⟨x0, x1, x2, x3, x4⟩ := And.intro ((hbx.cell 0).trans rfl : _ = some (.int .i64 f.slot)) (And.intro ((hbx.cell 1).trans rfl : _ = some (.int .i64 f.gen)) (And.intro ((hbx.cell 2).trans rfl : _ = some (.int .i64 f.seen)) (And.intro ((hbx.cell 3).trans rfl : _ = some (.int .u64 (f.sig.a : Int))) ((hbx.cell 4).trans rfl : _ = some (.int .u64 (f.sig.b : Int))))))
  go_wp2_with fail
  refine bodyPost_ret (v := .tuple #[.pointer none, .int .i64 2]) (by simp [results, Tryz.results76, go_sem]) rfl ⟨rfl, ?_⟩
  exact HK0.out.trans (hk.trans hka (by simp)) (by simp)
theorem read_new_no (h : SP w0 w z F S) (f : Fr) (cell : Int) (hb : ¬ (0 ≤ cell ∧ cell < S.c.cells ∧ 0 ≤ f.slot ∧ f.slot < S.c.slots)) : Calls Tryz.prog 76 #[PT z.p, f.val, .int .i64 cell] w fun e w' => e = .returned (.tuple #[.pointer none, .int .i64 2]) ∧ Keeps [] w w' := by
  by_cases e0 : cell < 0
  · exact read_new_no0 h f cell e0
  by_cases e1 : S.c.cells ≤ cell
  · exact read_new_no1 h f cell e0 e1
  by_cases e2 : f.slot < 0
  · exact read_new_no2 h f cell e0 e1 e2
  · exact read_new_no3 h f cell e0 e1 e2 (by omega)
theorem rp_fill (h : RP w0 w y G S) (A : Option Addr) (xs : List Int) (c : Nat) (hA : Slc w0 A xs) : Calls Tryz.prog 75 #[PT y.r, .slice A xs.length c] w fun e w' => e = .returned (.int .i64 (S.fill xs).1) ∧ RWent w0 w w' y G (S.fill xs).2 := by
  have hAw := hA.keeps h.keep
  have hlow : w0.heap.size ≤ y.b := by
    obtain ⟨⟨lb, v, hs, hF⟩, hl, _⟩ := h
    exact hl _ (by rw [hF]; simp [footY])
  obtain ⟨lb, v, hs, hF⟩ := h.ex
  unfold Sp.fill
  split
  · rename_i hl
    refine (RefI.fill_ok w y.r y.b 1 (some y.m) S.cells hs.row A c xs hAw (fun h0 ad hd e => ?_) hl).mono fun e w' ⟨he, h1, h2⟩ => ⟨he, h.went hF (hs.filled h1 h2)⟩
    subst hd
    rcases hA.2 with hn | ⟨b, off, hA2, hb, _⟩
    · rw [hn] at h0; simp at h0
    · injection hA2 with hA2
      rw [hA2] at e
      have e' : b = y.b := e
      omega
  · rename_i hl
    exact (RefI.fill_many w y.r y.b 1 (some y.m) S.cells hs.row A xs.length c (by omega) hA.1).mono fun e w' ⟨he, hk⟩ => ⟨he, h.stay (hk ▸ Keeps.refl _ _)⟩
end
end Go.Proofs.YtdhgiohjdhcedaaGreat
