/- quashlaw08.awake: the document's example. -/
import Derived.Test.YtcoekpomiljofaaLocal
namespace Go.Proofs.Ytcoekpomiljofaa
open Go.RowKit
set_option linter.unusedVariables false
set_option linter.unusedSimpArgs false
namespace Aw8
def c0 : Cf := ⟨2, 1, 8, 1, 0, 0⟩
def s0 : Sp := ⟨c0, MS.zero, [0, 0], Gt.zero, [Hd.zero], [0, 0], []⟩
def s1 : Sp := ⟨c0, MS.zero, [5, 0], Gt.zero, [Hd.zero], [0, 0], []⟩
def s2 : Sp := ⟨c0, ⟨1, 3, 0, 0, []⟩, [5, 0], Gt.zero, [Hd.zero], [0, 0], []⟩
def s3 : Sp := ⟨c0, ⟨1, 3, 1, 1, [⟨1, 3, 1, 0, 1, true⟩]⟩, [5, 0], Gt.zero, [Hd.zero], [0, 0], []⟩
def s4 : Sp := ⟨c0, ⟨1, 3, 2, 2, [⟨1, 3, 1, 0, 1, true⟩, ⟨1, 3, 2, 0, 3, true⟩]⟩, [5, 0], ⟨1, 3⟩, [Hd.zero], [0, 0], []⟩
def s5 : Sp := ⟨c0, ⟨1, 3, 2, 2, [⟨1, 3, 1, 0, 1, true⟩, ⟨1, 3, 2, 0, 3, true⟩]⟩, [5, 0], ⟨1, 3⟩, [Hd.zero], [0, 0], [⟨2, 1, 0, 0, 0, 0, false, 0, 0, 0⟩]⟩
theorem e2 : s1.begin 3 = s2 := by simp [Sp.begin, Sp.load, Sp.take, Sp.note, Sp.acc, Ev.at_, MS.begin, MS.note, MS.zero, imax, wrap64, nth, Gt.zero, s1, s2]
theorem e3 : s2.load 0 = ((5, 0), s3) := by simp [Sp.begin, Sp.load, Sp.take, Sp.note, Sp.acc, Ev.at_, MS.begin, MS.note, MS.zero, imax, wrap64, nth, Gt.zero, s2, s3]
theorem e4 : s3.take 3 = ((1, 0), s4) := by simp [Sp.begin, Sp.load, Sp.take, Sp.note, Sp.acc, Ev.at_, MS.begin, MS.note, MS.zero, imax, wrap64, nth, Gt.zero, s3, s4]
theorem e5 : s4.note ⟨2, 99, 0, 0, 0, 0, false, 0, 0, 0⟩ = s5 := by simp [Sp.begin, Sp.load, Sp.take, Sp.note, Sp.acc, Ev.at_, MS.begin, MS.note, MS.zero, imax, wrap64, nth, Gt.zero, s4, s5]
theorem small8 (w : World) : Calls Try.prog 13 #[] w fun e w' => e = .returned (.agg #[.int .i64 2, .int .i64 1, .int .i64 8, .int .i64 1, .int .i64 0, .int .i64 0]) ∧ Keeps [] w w' := by
  go_enter Try.func13, Try.ntmps13
  go_wp2
  refine bodyPost_ret (v := .agg #[.int .i64 2, .int .i64 1, .int .i64 8, .int .i64 1, .int .i64 0, .int .i64 0]) (by simp [results, Try.results13, go_sem]) rfl ⟨rfl, ?_⟩
  simp
end Aw8
open Aw8
set_option maxRecDepth 100000 in
set_option maxHeartbeats 8000000 in
theorem awake8 (w : World) : Calls Try.prog 4 #[] w fun e w' => e = .returned (.bool true) ∧ Keeps [] w w' := by
  go_enter Try.func4, Try.ntmps4
  go_wp2_with fail
  refine (small8 _).mono ?_
  rintro e w1 ⟨rfl, hk1⟩
  have HK := Lib.hid hk1
  clear hk1
  go_wp2_with fail
  have hq : Calls Try.prog 5 #[.agg #[.int .i64 2, .int .i64 1, .int .i64 8, .int .i64 1, .int .i64 0, .int .i64 0]] w1 fun e w' => ∃ z F, e = .returned (.tuple #[PT z.p, .int .i64 0]) ∧ SP w1 w' z F s0 := sp_new w1 c0 (by decide)
  refine hq.mono ?_
  rintro e w2 ⟨z, F, rfl, hs⟩
  have HS := Lib.hid (hs.base HK.out)
  have HF : Hid (Fit 0 s0) := Fit.new (c := c0) (by decide)
  clear hq hs HK
  go_wp2_with fail
  have hq : Calls Try.prog 5 #[.agg #[.int .i64 2, .int .i64 1, .int .i64 8, .int .i64 0, .int .i64 0, .int .i64 0]] w2 fun e w' => e = .returned (.tuple #[.pointer none, .int .i64 1]) ∧ Keeps [] w2 w' := sp_new_bad w2 ⟨2, 1, 8, 0, 0, 0⟩ (by decide)
  refine hq.mono ?_
  rintro e w3 ⟨rfl, hk⟩
  replace HS := Lib.hid (HS.out.calm hk)
  clear hq hk
  go_wp2_with fail
  have hka : Keeps [] w3 (w3.alloc (.cells #[.int .i64 5] 2)) := by simp
  replace HS := Lib.hid (HS.out.calm hka)
  have hsrc : Src (w3.alloc (.cells #[.int .i64 5] 2)) (some ⟨w3.heap.size, 0, none⟩) [5] := fun _ => ⟨_, rfl, fun j v hv => by
    have hj : j = 0 := by have := (List.getElem?_eq_some_iff.1 hv).1; simpa using this
    subst hj
    exact ((Blk.new w3 2 #[.int .i64 5]).cell 0).trans hv⟩
  obtain ⟨w4, hw4⟩ : ∃ w4, w3.alloc (.cells #[.int .i64 5] 2) = w4 := ⟨_, rfl⟩
  rw [hw4] at HS hsrc ⊢
  clear hw4 hka
  have hq : Calls Try.prog 6 #[PT z.p, .slice (some ⟨w3.heap.size, 0, none⟩) 1 1] w4 fun e w' => e = .returned (.int .i64 0) ∧ Went w w4 w' z F s1 := sp_fill HS.out (some ⟨w3.heap.size, 0, none⟩) [5] 1 hsrc (by decide)
  refine hq.mono ?_
  rintro e w5 ⟨rfl, F1, hs, hk, hn⟩
  clear hq HS
  have HS := Lib.hid hs
  replace HF := Lib.hid (show Fit 0 s1 from HF.out.fill [5])
  clear hs hk hn
  clear hsrc
  go_wp2_with fail
  have hq : Calls Try.prog 7 #[PT z.p, .int .i64 3] w5 fun e w' => e = .returned (.tuple #[]) ∧ Went w w5 w' z F1 s2 := by have hh := sp_turn HS.out 3; rw [e2] at hh; exact hh
  refine hq.mono ?_
  rintro e w6 ⟨rfl, F2, hs, hk, hn⟩
  clear hq HS
  have HS := Lib.hid hs
  replace HF := Lib.hid (show Fit _ s2 from by have hh := HF.out.begin 3; rw [e2] at hh; exact hh)
  clear hs hk hn
  go_wp2_with fail
  have hq : Calls Try.prog 8 #[PT z.p, .int .i64 0] w6 fun e w' => e = .returned (.tuple #[.int .i64 5, .int .i64 0]) ∧ Went w w6 w' z F2 s3 := by have hh := sp_load HS.out HF.out (by decide) 0; rw [e3] at hh; exact hh
  refine hq.mono ?_
  rintro e w7 ⟨rfl, F3, hs, hk, hn⟩
  clear hq HS
  have HS := Lib.hid hs
  replace HF := Lib.hid (show Fit _ s3 from by have hh := HF.out.load 0; rw [e3] at hh; exact hh)
  clear hs hk hn
  go_wp2_with fail
  refine (sp_gate HS.out).mono ?_
  rintro e wq ⟨rfl, rfl⟩
  go_wp2_with fail
  refine (sp_slots HS.out).mono ?_
  rintro e wq ⟨rfl, rfl⟩
  go_wp2_with fail
  refine (sp_gate HS.out).mono ?_
  rintro e wq ⟨rfl, rfl⟩
  go_wp2_with fail
  have hq : Calls Try.prog 16 #[PT z.q, .int .i64 3] w7 fun e w' => e = .returned (.tuple #[.int .i64 1, .int .i64 0]) ∧ Went w w7 w' z F3 s4 := by have hh := sp_take HS.out HF.out (by decide) 3; rw [e4] at hh; exact hh
  refine hq.mono ?_
  rintro e w8 ⟨rfl, F4, hs, hk, hn⟩
  clear hq HS
  have HS := Lib.hid hs
  replace HF := Lib.hid (show Fit _ s4 from by have hh := HF.out.take 3; rw [e4] at hh; exact hh)
  clear hs hk hn
  go_wp2_with fail
  have hq : Calls Try.prog 10 #[PT z.p] w8 fun e w' => ∃ a1 c1 a2 c2, e = .returned (.agg #[.slice (some ⟨a1, 0, none⟩) 2 c1, .int .i64 1, .int .i64 3, .slice (some ⟨a2, 0, none⟩) 1 c2]) ∧ OwnC w' a1 c1 [5, 0] ∧ OwnS w' a2 c2 1 (slL [Hd.zero] [0, 0]) ∧ w8.heap.size ≤ a1 ∧ w8.heap.size ≤ a2 ∧ Keeps [] w8 w' := sp_view HS.out HF.out
  refine hq.mono ?_
  rintro e w9 ⟨a1, c1, a2, c2, rfl, h1, h2, hl1, hl2, hk⟩
  have L1 : Hid (LocR w9 F4 a1 2 1 2 c1 [.int .i64 5, .int .i64 0]) := ⟨h1, HS.out.fresh hl1⟩
  replace HS := Lib.hid (HS.out.calm hk)
  clear hq hk h1 h2 hl1 hl2
  go_wp2_with fail
  have hka : Keeps [] w9 (w9.alloc (.cells #[.slice (some ⟨a1, 0, none⟩) 2 c1, .int .i64 1, .int .i64 3, .slice (some ⟨a2, 0, none⟩) 1 c2] 41)) := by simp
  have L2 : Hid (Loc (w9.alloc (.cells #[.slice (some ⟨a1, 0, none⟩) 2 c1, .int .i64 1, .int .i64 3, .slice (some ⟨a2, 0, none⟩) 1 c2] 41)) F4 w9.heap.size 41 #[.slice (some ⟨a1, 0, none⟩) 2 c1, .int .i64 1, .int .i64 3, .slice (some ⟨a2, 0, none⟩) 1 c2]) := HS.out.local_ _ _
  replace L1 := Lib.hid (L1.out.calm hka)
  replace HS := Lib.hid (HS.out.calm hka)
  obtain ⟨w10, hw10⟩ : ∃ w10, w9.alloc (.cells #[.slice (some ⟨a1, 0, none⟩) 2 c1, .int .i64 1, .int .i64 3, .slice (some ⟨a2, 0, none⟩) 1 c2] 41) = w10 := ⟨_, rfl⟩
  rw [hw10] at HS L1 L2 ⊢
  clear hw10 hka
  obtain ⟨zv, hzv⟩ : ∃ zv, w9.heap.size = zv := ⟨_, rfl⟩
  rw [hzv] at L2 ⊢
  clear hzv
  have hq : Calls Try.prog 9 #[PT z.p, .agg #[.int .i64 2, .int .i64 99, .int .i64 0, .int .i64 0, .int .i64 0, .int .i64 0, .bool false, .int .i64 0, .int .i64 0, .int .i64 0]] w10 fun e w' => e = .returned (.tuple #[]) ∧ Went w w10 w' z F4 s5 := by have hh := sp_note HS.out HF.out (by decide) ⟨2, 99, 0, 0, 0, 0, false, 0, 0, 0⟩; rw [e5] at hh; exact hh
  refine hq.mono ?_
  rintro e w11 ⟨rfl, F5, hs, hk, hn⟩
  clear hq HS
  have HS := Lib.hid hs
  replace L1 := Lib.hid (L1.out.step hk hn)
  replace L2 := Lib.hid (L2.out.step hk hn)
  replace HF := Lib.hid (show Fit _ s5 from by have hh := HF.out.note ⟨2, 99, 0, 0, 0, 0, false, 0, 0, 0⟩; rw [e5] at hh; exact hh)
  clear hs hk hn
  go_wp2_with fail
  refine (sp_events HS.out HF.out (by decide)).mono ?_
  rintro e w12 ⟨v, rfl, hown, hk⟩
  obtain ⟨a3, c3, rfl, ha3⟩ := own_slice hown (by decide)
  have L3 : Hid (LocR w12 F5 a3 27 10 1 c3 (evCells [⟨2, 1, 0, 0, 0, 0, false, 0, 0, 0⟩])) := ⟨own_base hown (fun _ _ => Nat.zero_le _), HS.out.fresh ha3⟩
  replace L1 := Lib.hid (L1.out.calm hk)
  replace L2 := Lib.hid (L2.out.calm hk)
  replace HS := Lib.hid (HS.out.calm hk)
  clear hown hk ha3
  have d0 : w12.cell? ⟨zv, 0, none⟩ = some (.slice (some ⟨a1, 0, none⟩) 2 c1) := (L2.out.blk.cell 0).trans rfl
  have d1 : w12.cell? ⟨zv, 1, none⟩ = some (.int .i64 1) := (L2.out.blk.cell 1).trans rfl
  have d2 : w12.cell? ⟨zv, 2, none⟩ = some (.int .i64 3) := (L2.out.blk.cell 2).trans rfl
  have x0 : w12.cell? ⟨a1, 0, none⟩ = some (.int .i64 5) := L1.out.cell rfl
  have y0 : w12.cell? ⟨a3, 0, none⟩ = some (.int .i64 2) := L3.out.cell rfl
  have y1 : w12.cell? ⟨a3, 1, none⟩ = some (.int .i64 1) := L3.out.cell rfl
  have y2 : w12.cell? ⟨a3, 2, none⟩ = some (.int .i64 0) := L3.out.cell rfl
  have y3 : w12.cell? ⟨a3, 3, none⟩ = some (.int .i64 0) := L3.out.cell rfl
  have y4 : w12.cell? ⟨a3, 4, none⟩ = some (.int .i64 0) := L3.out.cell rfl
  have y5 : w12.cell? ⟨a3, 5, none⟩ = some (.int .i64 0) := L3.out.cell rfl
  have y6 : w12.cell? ⟨a3, 6, none⟩ = some (.bool false) := L3.out.cell rfl
  have y7 : w12.cell? ⟨a3, 7, none⟩ = some (.int .i64 0) := L3.out.cell rfl
  have y8 : w12.cell? ⟨a3, 8, none⟩ = some (.int .i64 0) := L3.out.cell rfl
  have y9 : w12.cell? ⟨a3, 9, none⟩ = some (.int .i64 0) := L3.out.cell rfl
  have q1 : ∀ w, (Op.equalIn 10000 38 (.agg #[.int .i64 1, .int .i64 3]) (.agg #[.int .i64 1, .int .i64 3])).run Try.prog w = .ok true w := fun w => by have := RowG.eq_run w ⟨1, 3⟩ ⟨1, 3⟩; rw [decide_eq_true rfl] at this; exact this
  have q2 : ∀ w, (Op.equalIn 10000 27 (.agg #[.int .i64 2, .int .i64 1, .int .i64 0, .int .i64 0, .int .i64 0, .int .i64 0, .bool false, .int .i64 0, .int .i64 0, .int .i64 0]) (.agg #[.int .i64 2, .int .i64 1, .int .i64 0, .int .i64 0, .int .i64 0, .int .i64 0, .bool false, .int .i64 0, .int .i64 0, .int .i64 0])).run Try.prog w = .ok true w := fun w => by have := ev_eq w ⟨2, 1, 0, 0, 0, 0, false, 0, 0, 0⟩ ⟨2, 1, 0, 0, 0, 0, false, 0, 0, 0⟩; rw [decide_eq_true rfl] at this; exact this
  have c0 := HS.out.cells.1
  have Q1 : Hid (Calls Try.prog 17 #[PT z.p] w12 fun e w' => e = .returned (.int .i64 1) ∧ w12 = w') := sp_step HS.out
  have Q2 : Hid (Calls Try.prog 18 #[PT z.m] w12 fun e w' => e = .returned (.int .i64 2) ∧ w12 = w') := sp_done HS.out
  go_wp2_with fail
  refine Q1.out.mono ?_
  rintro e wq ⟨rfl, rfl⟩
  go_wp2_with fail
  refine Q2.out.mono ?_
  rintro e wq ⟨rfl, rfl⟩
  go_wp2_with fail
  go_ret
  exact ⟨rfl, HS.out.keep⟩
end Go.Proofs.Ytcoekpomiljofaa
