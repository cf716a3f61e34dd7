/- quashlaw08.raw: a raw step over a space and the document's: the same answers, the same ends. -/
import Derived.Test.YtcoekpomiljofaaGreatRawF
import Derived.Test.YtcoekpomiljofaaGreatRpNote
import Derived.Deep.RegionHeld3
import Derived.Deep.QuietTactic
import Derived.BigQuiet
namespace Go.Proofs.YtcoekpomiljofaaGreat
open Go.RowKit
set_option linter.unusedVariables false
namespace Do08
section
variable {w0 w w' : World} {z : Sb} {F : List Nat} {y : Rb} {G : List Nat} {S : Sp} {k : Nat}
set_option maxRecDepth 100000 in
set_option maxHeartbeats 4000000 in
theorem turn_any (h : Two w0 w z F y G S S) (m : Bool) (i n x : Int) (q0 q1 q2 q3 q4 q5 q6 q7 q8 q9 q10 : Value) :
    Calls Tryz.prog 37 #[PT z.p, PT y.p, .agg #[.bool m, .int .i64 1, .int .i64 i, .int .i64 n, .int .i64 x, q0, q1, q2, q3, q4, q5, q6, q7, q8, q9, q10]] w fun e w' => e = .returned (.bool true) ∧ TwoWent w0 w w' z F y G (S.begin i) := by
  have kB : Keeps [] w (w.alloc (.cells #[.bool m, .int .i64 1, .int .i64 i, .int .i64 n, .int .i64 x, q0, q1, q2, q3, q4, q5, q6, q7, q8, q9, q10] 100)) := (Keeps.refl _ _).alloc _
  have hB := h.calm kB
  have bb := Blk.new w 100 #[.bool m, .int .i64 1, .int .i64 i, .int .i64 n, .int .i64 x, q0, q1, q2, q3, q4, q5, q6, q7, q8, q9, q10]
  obtain ⟨wB, hwB⟩ : ∃ v, w.alloc (.cells #[.bool m, .int .i64 1, .int .i64 i, .int .i64 n, .int .i64 x, q0, q1, q2, q3, q4, q5, q6, q7, q8, q9, q10] 100) = v := ⟨_, rfl⟩
  rw [hwB] at kB hB bb
  have hp := fun w' (hk' : Keeps [] wB w') => sp_turn (hB.sp.calm hk') i
  have hd := fun (w2 : World) (F' : List Nat) (S' : Sp) (h2 : Two w0 w2 z F' y G S' S) w' (hk' : Keeps [] w2 w') => rp_begin (h2.rp.calm hk') i
  obtain ⟨S', hS'⟩ : ∃ v, (S.begin i) = v := ⟨_, rfl⟩
  simp only [hS'] at hp hd ⊢
  clear hS'
  have QP : Hid (∀ w' vv, Keeps [] wB w' → vv = #[PT z.p, .int .i64 i] → Calls Tryz.prog 21 vv w' fun e w'' => e = .returned (.tuple #[]) ∧ Went w0 wB w'' z F S') := fun w' vv hk' hv => hv ▸ (hp w' hk').mono fun e w'' ⟨he, hw⟩ => ⟨he, hw.pre hk'⟩
  have QD : Hid (∀ (w2 : World) (F' : List Nat), Two w0 w2 z F' y G S' S → ∀ w' vv, Keeps [] w2 w' → vv = #[PT y.m, .int .i64 i] → Calls Tryz.prog 49 vv w' fun e w'' => e = .returned (.tuple #[]) ∧ RWent w0 w2 w'' y G S') := fun w2 F' h2 w' vv hk' hv => hv ▸ (hd w2 F' S' h2 w' hk').mono fun e w'' ⟨he, hw⟩ => ⟨he, RWent.pre hk' hw⟩
  have HC := Lib.hid (show ∀ w', Keeps [] wB w' → w'.cell? ⟨w.heap.size, 2, none⟩ = some (.int .i64 i) from fun w' hk => ((bb.keeps hk (by simp)).cell 2).trans rfl)
  have hoff : w.heap.size ∉ F := fun hx => by have := h.sp.lt _ hx; omega
  have hoffG : w.heap.size ∉ G := fun hx => by have := h.rp.lt _ hx; omega
  have hkB : Keeps [] wB wB := Keeps.refl _ _
  have b0 : wB.cell? ⟨w.heap.size, 1, none⟩ = some (.int .i64 1) := (bb.cell 1).trans rfl
  have b2 : wB.cell? ⟨w.heap.size, 2, none⟩ = some (.int .i64 i) := (bb.cell 2).trans rfl
  have b4 : wB.cell? ⟨w.heap.size, 4, none⟩ = some (.int .i64 x) := (bb.cell 4).trans rfl
  have HB := Lib.hid (And.intro hB (And.intro kB (And.intro bb (And.intro hoff hoffG))))
  clear h hp hd hB kB bb hoff hoffG
  go_enter Tryz.func37, Tryz.ntmps37
  go_wp2_with fail
  try rw [hwB]
  clear hwB
  refine (QP.out _ _ (Keeps.refl _ _) rfl).mono ?_
  rintro e wd ⟨rfl, hW⟩
  have HW := Lib.hid hW
  clear hW
  all_goals
    obtain ⟨F', hT, hk1, hn1⟩ := HB.out.1.left HW.out
    have bd := HB.out.2.2.1.keeps hk1 HB.out.2.2.2.1
    have HBD := Lib.hid bd
    have HT := Lib.hid hT
    have HK := Lib.hid (And.intro hk1 hn1)
    have HD := Lib.hid (show ∀ w', Keeps [] wd w' → w'.cell? ⟨y.p, 6, none⟩ = some (PT y.m) ∧ w'.cell? ⟨w.heap.size, 2, none⟩ = some (.int .i64 i) from fun w' hk => ⟨(hT.rp.calm hk).cells.2.2.2.1, ((bd.keeps hk (by simp)).cell 2).trans rfl⟩)
    have hkD : Keeps [] wd wd := Keeps.refl _ _
    clear hT hk1 hn1 bd hkB
    go_wp2_with fail
    go_region_held3 (fun w' => w'.cell? ⟨y.p, 6, none⟩ = some (PT y.m) ∧ w'.cell? ⟨w.heap.size, 2, none⟩ = some (.int .i64 i)) (first | with_reducible exact HD.out _ (by first | with_reducible assumption | with_reducible exact Keeps.drew (by with_reducible assumption)) | with_reducible exact HDF | go_keep) (((go_at_call 49; (with_reducible refine (QD.out _ _ HT.out _ _ (by first | with_reducible assumption | with_reducible exact Keeps.drew (by with_reducible assumption)) (by first | with_reducible rfl | rfl)).mono ?_); rintro e wf ⟨rfl, hR⟩; obtain ⟨_, hR1, hkq, _⟩ := id hR; have be := HBD.out.keeps hkq HB.out.2.2.2.2; have HDF : wf.cell? ⟨y.p, 6, none⟩ = some (PT y.m) ∧ wf.cell? ⟨w.heap.size, 2, none⟩ = some (.int .i64 i) := ⟨hR1.cells.2.2.2.1, (be.cell 2).trans rfl⟩; clear hR1 hkq be; have HR := Lib.hid hR; clear hR)))
    all_goals
      go_wp2_with fail
      go_ret
      exact ⟨rfl, Two.both HB.out.2.1 HK.out.1 HK.out.2 HT.out HR.out⟩
set_option maxRecDepth 100000 in
set_option maxHeartbeats 4000000 in
theorem none_any (h : Two w0 w z F y G S S) (m : Bool) (kd i n x : Int) (q0 q1 q2 q3 q4 q5 q6 q7 q8 q9 q10 : Value) (n1 : kd ≠ 1) (n2 : kd ≠ 2) (n3 : kd ≠ 3) (n4 : kd ≠ 4) (n5 : kd ≠ 5) (n6 : kd ≠ 6) (n7 : kd ≠ 7) (n8 : kd ≠ 8) (n9 : kd ≠ 9) (n10 : kd ≠ 10) (n11 : kd ≠ 11) (n12 : kd ≠ 12) (n13 : kd ≠ 13) :
    Calls Tryz.prog 37 #[PT z.p, PT y.p, .agg #[.bool m, .int .i64 kd, .int .i64 i, .int .i64 n, .int .i64 x, q0, q1, q2, q3, q4, q5, q6, q7, q8, q9, q10]] w fun e w' => e = .returned (.bool true) ∧ TwoWent w0 w w' z F y G S := by
  have kB : Keeps [] w (w.alloc (.cells #[.bool m, .int .i64 kd, .int .i64 i, .int .i64 n, .int .i64 x, q0, q1, q2, q3, q4, q5, q6, q7, q8, q9, q10] 100)) := (Keeps.refl _ _).alloc _
  have bb := Blk.new w 100 #[.bool m, .int .i64 kd, .int .i64 i, .int .i64 n, .int .i64 x, q0, q1, q2, q3, q4, q5, q6, q7, q8, q9, q10]
  have b0 : (w.alloc (.cells #[.bool m, .int .i64 kd, .int .i64 i, .int .i64 n, .int .i64 x, q0, q1, q2, q3, q4, q5, q6, q7, q8, q9, q10] 100)).cell? ⟨w.heap.size, 1, none⟩ = some (.int .i64 kd) := (bb.cell 1).trans rfl
  have HT := Lib.hid (And.intro h kB)
  have e1 : (kd == 1) = false := by simpa using n1
  have e2 : (kd == 2) = false := by simpa using n2
  have e3 : (kd == 3) = false := by simpa using n3
  have e4 : (kd == 4) = false := by simpa using n4
  have e5 : (kd == 5) = false := by simpa using n5
  have e6 : (kd == 6) = false := by simpa using n6
  have e7 : (kd == 7) = false := by simpa using n7
  have e8 : (kd == 8) = false := by simpa using n8
  have e9 : (kd == 9) = false := by simpa using n9
  have e10 : (kd == 10) = false := by simpa using n10
  have e11 : (kd == 11) = false := by simpa using n11
  have e12 : (kd == 12) = false := by simpa using n12
  have e13 : (kd == 13) = false := by simpa using n13
  clear h kB bb n1 n2 n3 n4 n5 n6 n7 n8 n9 n10 n11 n12 n13
  go_enter Tryz.func37, Tryz.ntmps37
  go_wp2_with fail
  go_ret
  exact ⟨rfl, HT.out.1.still HT.out.2⟩
set_option maxRecDepth 100000 in
set_option maxHeartbeats 4000000 in
theorem note_any (h : Two w0 w z F y G S S) (hf : Fit k S) (hk : k ≤ 1099511627776) (m : Bool) (i n x : Int) (q0 : Value) (v : Ev) :
    Calls Tryz.prog 37 #[PT z.p, PT y.p, .agg #[.bool m, .int .i64 13, .int .i64 i, .int .i64 n, .int .i64 x, q0, .int .i64 v.kind, .int .i64 v.step, .int .i64 v.thread, .int .i64 v.stamp, .int .i64 v.cell, .int .i64 v.x, .bool v.mine, .int .i64 v.gate, .int .i64 v.e, .int .i64 v.who]] w fun e w' => e = .returned (.bool true) ∧ TwoWent w0 w w' z F y G (S.note v) := by
  have kB : Keeps [] w (w.alloc (.cells #[.bool m, .int .i64 13, .int .i64 i, .int .i64 n, .int .i64 x, q0, .int .i64 v.kind, .int .i64 v.step, .int .i64 v.thread, .int .i64 v.stamp, .int .i64 v.cell, .int .i64 v.x, .bool v.mine, .int .i64 v.gate, .int .i64 v.e, .int .i64 v.who] 100)) := (Keeps.refl _ _).alloc _
  have hB := h.calm kB
  have bb := Blk.new w 100 #[.bool m, .int .i64 13, .int .i64 i, .int .i64 n, .int .i64 x, q0, .int .i64 v.kind, .int .i64 v.step, .int .i64 v.thread, .int .i64 v.stamp, .int .i64 v.cell, .int .i64 v.x, .bool v.mine, .int .i64 v.gate, .int .i64 v.e, .int .i64 v.who]
  obtain ⟨wB, hwB⟩ : ∃ wq, w.alloc (.cells #[.bool m, .int .i64 13, .int .i64 i, .int .i64 n, .int .i64 x, q0, .int .i64 v.kind, .int .i64 v.step, .int .i64 v.thread, .int .i64 v.stamp, .int .i64 v.cell, .int .i64 v.x, .bool v.mine, .int .i64 v.gate, .int .i64 v.e, .int .i64 v.who] 100) = wq := ⟨_, rfl⟩
  rw [hwB] at kB hB bb
  have hoff : w.heap.size ∉ F := fun hx => by have := h.sp.lt _ hx; omega
  have hoffG : w.heap.size ∉ G := fun hx => by have := h.rp.lt _ hx; omega
  have b1 : wB.cell? ⟨w.heap.size, 1, none⟩ = some (.int .i64 13) := (bb.cell 1).trans rfl
  have b6 : wB.cell? ⟨w.heap.size, 6, none⟩ = some (.int .i64 v.kind) := (bb.cell 6).trans rfl
  have b7 : wB.cell? ⟨w.heap.size, 7, none⟩ = some (.int .i64 v.step) := (bb.cell 7).trans rfl
  have b8 : wB.cell? ⟨w.heap.size, 8, none⟩ = some (.int .i64 v.thread) := (bb.cell 8).trans rfl
  have b9 : wB.cell? ⟨w.heap.size, 9, none⟩ = some (.int .i64 v.stamp) := (bb.cell 9).trans rfl
  have b10 : wB.cell? ⟨w.heap.size, 10, none⟩ = some (.int .i64 v.cell) := (bb.cell 10).trans rfl
  have b11 : wB.cell? ⟨w.heap.size, 11, none⟩ = some (.int .i64 v.x) := (bb.cell 11).trans rfl
  have b12 : wB.cell? ⟨w.heap.size, 12, none⟩ = some (.bool v.mine) := (bb.cell 12).trans rfl
  have b13 : wB.cell? ⟨w.heap.size, 13, none⟩ = some (.int .i64 v.gate) := (bb.cell 13).trans rfl
  have b14 : wB.cell? ⟨w.heap.size, 14, none⟩ = some (.int .i64 v.e) := (bb.cell 14).trans rfl
  have b15 : wB.cell? ⟨w.heap.size, 15, none⟩ = some (.int .i64 v.who) := (bb.cell 15).trans rfl
  have QN := Lib.hid (sp_note hB.sp hf hk v)
  have HB := Lib.hid (And.intro hB (And.intro kB (And.intro bb (And.intro hoff hoffG))))
  have HF := Lib.hid hf
  clear h hB kB bb hoff hoffG hf
  go_enter Tryz.func37, Tryz.ntmps37
  go_wp2_with fail
  try rw [hwB]
  clear hwB
  refine QN.out.mono ?_
  rintro e wd ⟨rfl, hW⟩
  obtain ⟨F', hT, hk1, hn1⟩ := HB.out.1.left hW
  have bd := HB.out.2.2.1.keeps hk1 HB.out.2.2.2.1
  clear b1 b6 b7 b8 b9 b10 b11 b12 b13 b14 b15 QN
  have b6 : wd.cell? ⟨w.heap.size, 6, none⟩ = some (.int .i64 v.kind) := (bd.cell 6).trans rfl
  have b7 : wd.cell? ⟨w.heap.size, 7, none⟩ = some (.int .i64 v.step) := (bd.cell 7).trans rfl
  have b8 : wd.cell? ⟨w.heap.size, 8, none⟩ = some (.int .i64 v.thread) := (bd.cell 8).trans rfl
  have b9 : wd.cell? ⟨w.heap.size, 9, none⟩ = some (.int .i64 v.stamp) := (bd.cell 9).trans rfl
  have b10 : wd.cell? ⟨w.heap.size, 10, none⟩ = some (.int .i64 v.cell) := (bd.cell 10).trans rfl
  have b11 : wd.cell? ⟨w.heap.size, 11, none⟩ = some (.int .i64 v.x) := (bd.cell 11).trans rfl
  have b12 : wd.cell? ⟨w.heap.size, 12, none⟩ = some (.bool v.mine) := (bd.cell 12).trans rfl
  have b13 : wd.cell? ⟨w.heap.size, 13, none⟩ = some (.int .i64 v.gate) := (bd.cell 13).trans rfl
  have b14 : wd.cell? ⟨w.heap.size, 14, none⟩ = some (.int .i64 v.e) := (bd.cell 14).trans rfl
  have b15 : wd.cell? ⟨w.heap.size, 15, none⟩ = some (.int .i64 v.who) := (bd.cell 15).trans rfl
  have QD := Lib.hid (Rpn.rp_note hT.rp HF.out hk v)
  have HT := Lib.hid (And.intro hT (And.intro hk1 hn1))
  clear hT hk1 hn1 bd hW
  go_wp2_with fail
  refine QD.out.mono ?_
  rintro e wf ⟨rfl, hR⟩
  have HR := Lib.hid hR
  clear hR b6 b7 b8 b9 b10 b11 b12 b13 b14 b15 QD
  go_wp2_with fail
  go_ret
  exact ⟨rfl, Two.both HB.out.2.1 HT.out.2.1 HT.out.2.2 HT.out.1 HR.out⟩
end
end Do08
end Go.Proofs.YtcoekpomiljofaaGreat
