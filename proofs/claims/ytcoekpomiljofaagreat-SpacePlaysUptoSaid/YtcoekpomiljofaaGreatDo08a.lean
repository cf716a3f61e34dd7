/- quashlaw08.raw: a raw step over a space and the document's: the same answers, the same ends. -/
import Derived.Test.YtcoekpomiljofaaGreatRawF
import Derived.Deep.RegionHeld3
import Derived.Deep.QuietTactic
import Derived.BigQuiet
namespace Go.Proofs.YtcoekpomiljofaaGreat
open Go.RowKit
set_option linter.unusedVariables false
namespace Do08
section
variable {w0 w w' : World} {z : Sb} {F : List Nat} {y : Rb} {G : List Nat} {S : Sp} {k : Nat}
set_option maxRecDepth 100000 in
set_option maxHeartbeats 4000000 in
theorem store_any (h : Two w0 w z F y G S S) (hf : Fit k S) (hk : k ≤ 1099511627776) (m : Bool) (i n x : Int) (q0 q1 q2 q3 q4 q5 q6 q7 q8 q9 q10 : Value) :
    Calls Tryz.prog 37 #[PT z.p, PT y.p, .agg #[.bool m, .int .i64 3, .int .i64 i, .int .i64 n, .int .i64 x, q0, q1, q2, q3, q4, q5, q6, q7, q8, q9, q10]] w fun e w' => e = .returned (.bool true) ∧ TwoWent w0 w w' z F y G (S.store i x).2 := by
  have kB : Keeps [] w (w.alloc (.cells #[.bool m, .int .i64 3, .int .i64 i, .int .i64 n, .int .i64 x, q0, q1, q2, q3, q4, q5, q6, q7, q8, q9, q10] 100)) := (Keeps.refl _ _).alloc _
  have hB := h.calm kB
  have bb := Blk.new w 100 #[.bool m, .int .i64 3, .int .i64 i, .int .i64 n, .int .i64 x, q0, q1, q2, q3, q4, q5, q6, q7, q8, q9, q10]
  obtain ⟨wB, hwB⟩ : ∃ v, w.alloc (.cells #[.bool m, .int .i64 3, .int .i64 i, .int .i64 n, .int .i64 x, q0, q1, q2, q3, q4, q5, q6, q7, q8, q9, q10] 100) = v := ⟨_, rfl⟩
  rw [hwB] at kB hB bb
  have hp := fun w' (hk' : Keeps [] wB w') => sp_store (hB.sp.calm hk') hf hk i x
  have hd := fun (w2 : World) (F' : List Nat) (S' : Sp) (h2 : Two w0 w2 z F' y G S' S) w' (hk' : Keeps [] w2 w') => rp_store (h2.rp.calm hk') hf hk i x
  obtain ⟨re, hre⟩ : ∃ v, (S.store i x).1 = v := ⟨_, rfl⟩
  obtain ⟨S', hS'⟩ : ∃ v, (S.store i x).2 = v := ⟨_, rfl⟩
  simp only [hre, hS'] at hp hd ⊢
  clear hre hS'
  have QP : Hid (∀ w' vv, Keeps [] wB w' → vv = #[PT z.p, .int .i64 i, .int .i64 x] → Calls Tryz.prog 86 vv w' fun e w'' => e = .returned (.int .i64 re) ∧ Went w0 wB w'' z F S') := fun w' vv hk' hv => hv ▸ (hp w' hk').mono fun e w'' ⟨he, hw⟩ => ⟨he, hw.pre hk'⟩
  have QD : Hid (∀ (w2 : World) (F' : List Nat), Two w0 w2 z F' y G S' S → ∀ w' vv, Keeps [] w2 w' → vv = #[PT y.r, .int .i64 i, .int .i64 x] → Calls Tryz.prog 87 vv w' fun e w'' => e = .returned (.int .i64 re) ∧ RWent w0 w2 w'' y G S') := fun w2 F' h2 w' vv hk' hv => hv ▸ (hd w2 F' S' h2 w' hk').mono fun e w'' ⟨he, hw⟩ => ⟨he, RWent.pre hk' hw⟩
  have HC := Lib.hid (show ∀ w', Keeps [] wB w' → w'.cell? ⟨w.heap.size, 2, none⟩ = some (.int .i64 i) ∧ w'.cell? ⟨w.heap.size, 4, none⟩ = some (.int .i64 x) from fun w' hk => ⟨((bb.keeps hk (by simp)).cell 2).trans rfl, ((bb.keeps hk (by simp)).cell 4).trans rfl⟩)
  have hoff : w.heap.size ∉ F := fun hx => by have := h.sp.lt _ hx; omega
  have hoffG : w.heap.size ∉ G := fun hx => by have := h.rp.lt _ hx; omega
  have hkB : Keeps [] wB wB := Keeps.refl _ _
  have b0 : wB.cell? ⟨w.heap.size, 1, none⟩ = some (.int .i64 3) := (bb.cell 1).trans rfl
  have b2 : wB.cell? ⟨w.heap.size, 2, none⟩ = some (.int .i64 i) := (bb.cell 2).trans rfl
  have b4 : wB.cell? ⟨w.heap.size, 4, none⟩ = some (.int .i64 x) := (bb.cell 4).trans rfl
  have HB := Lib.hid (And.intro hB (And.intro kB (And.intro bb (And.intro hoff hoffG))))
  clear h hf hk hp hd hB kB bb hoff hoffG
  go_enter Tryz.func37, Tryz.ntmps37
  go_wp2_with fail
  try rw [hwB]
  clear hwB
  refine (QP.out _ _ (Keeps.refl _ _) rfl).mono ?_
  rintro e wd ⟨rfl, hW⟩
  have HW := Lib.hid hW
  clear hW
  all_goals
    obtain ⟨F', hT, hk1, hn1⟩ := HB.out.1.left HW.out
    have bd := HB.out.2.2.1.keeps hk1 HB.out.2.2.2.1
    have HBD := Lib.hid bd
    have HT := Lib.hid hT
    have HK := Lib.hid (And.intro hk1 hn1)
    have HD := Lib.hid (show ∀ w', Keeps [] wd w' → w'.cell? ⟨y.p, 7, none⟩ = some (PT y.r) ∧ w'.cell? ⟨w.heap.size, 2, none⟩ = some (.int .i64 i) ∧ w'.cell? ⟨w.heap.size, 4, none⟩ = some (.int .i64 x) from fun w' hk => ⟨(hT.rp.calm hk).cells.2.2.2.2.1, ((bd.keeps hk (by simp)).cell 2).trans rfl, ((bd.keeps hk (by simp)).cell 4).trans rfl⟩)
    have hkD : Keeps [] wd wd := Keeps.refl _ _
    clear hT hk1 hn1 bd hkB
    go_wp2_with fail
    go_region_held3 (fun w' => w'.cell? ⟨y.p, 7, none⟩ = some (PT y.r) ∧ w'.cell? ⟨w.heap.size, 2, none⟩ = some (.int .i64 i) ∧ w'.cell? ⟨w.heap.size, 4, none⟩ = some (.int .i64 x)) (first | with_reducible exact HD.out _ (by first | with_reducible assumption | with_reducible exact Keeps.drew (by with_reducible assumption)) | with_reducible exact HDF | go_keep) (((go_at_call 87; (with_reducible refine (QD.out _ _ HT.out _ _ (by first | with_reducible assumption | with_reducible exact Keeps.drew (by with_reducible assumption)) (by first | with_reducible rfl | rfl)).mono ?_); rintro e wf ⟨rfl, hR⟩; obtain ⟨_, hR1, hkq, _⟩ := id hR; have be := HBD.out.keeps hkq HB.out.2.2.2.2; have HDF : wf.cell? ⟨y.p, 7, none⟩ = some (PT y.r) ∧ wf.cell? ⟨w.heap.size, 2, none⟩ = some (.int .i64 i) ∧ wf.cell? ⟨w.heap.size, 4, none⟩ = some (.int .i64 x) := ⟨hR1.cells.2.2.2.2.1, (be.cell 2).trans rfl, (be.cell 4).trans rfl⟩; clear hR1 hkq be; have HR := Lib.hid hR; clear hR)))
    all_goals
      go_wp2_with fail
      go_ret
      exact ⟨rfl, Two.both HB.out.2.1 HK.out.1 HK.out.2 HT.out HR.out⟩
set_option maxRecDepth 100000 in
set_option maxHeartbeats 4000000 in
theorem take_any (h : Two w0 w z F y G S S) (hf : Fit k S) (hk : k ≤ 1099511627776) (m : Bool) (i n x : Int) (q0 q1 q2 q3 q4 q5 q6 q7 q8 q9 q10 : Value) :
    Calls Tryz.prog 37 #[PT z.p, PT y.p, .agg #[.bool m, .int .i64 5, .int .i64 i, .int .i64 n, .int .i64 x, q0, q1, q2, q3, q4, q5, q6, q7, q8, q9, q10]] w fun e w' => e = .returned (.bool true) ∧ TwoWent w0 w w' z F y G (S.take i).2 := by
  have kB : Keeps [] w (w.alloc (.cells #[.bool m, .int .i64 5, .int .i64 i, .int .i64 n, .int .i64 x, q0, q1, q2, q3, q4, q5, q6, q7, q8, q9, q10] 100)) := (Keeps.refl _ _).alloc _
  have hB := h.calm kB
  have bb := Blk.new w 100 #[.bool m, .int .i64 5, .int .i64 i, .int .i64 n, .int .i64 x, q0, q1, q2, q3, q4, q5, q6, q7, q8, q9, q10]
  obtain ⟨wB, hwB⟩ : ∃ v, w.alloc (.cells #[.bool m, .int .i64 5, .int .i64 i, .int .i64 n, .int .i64 x, q0, q1, q2, q3, q4, q5, q6, q7, q8, q9, q10] 100) = v := ⟨_, rfl⟩
  rw [hwB] at kB hB bb
  have hp := fun w' (hk' : Keeps [] wB w') => sp_take (hB.sp.calm hk') hf hk i
  have hd := fun (w2 : World) (F' : List Nat) (S' : Sp) (h2 : Two w0 w2 z F' y G S' S) w' (hk' : Keeps [] w2 w') => rp_take (h2.rp.calm hk') hf hk i
  obtain ⟨ra, hra⟩ : ∃ v, (S.take i).1.1 = v := ⟨_, rfl⟩
  obtain ⟨re, hre⟩ : ∃ v, (S.take i).1.2 = v := ⟨_, rfl⟩
  obtain ⟨S', hS'⟩ : ∃ v, (S.take i).2 = v := ⟨_, rfl⟩
  simp only [hra, hre, hS'] at hp hd ⊢
  clear hra hre hS'
  have QP : Hid (∀ w' vv, Keeps [] wB w' → vv = #[PT z.q, .int .i64 i] → Calls Tryz.prog 76 vv w' fun e w'' => e = .returned (.tuple #[.int .i64 ra, .int .i64 re]) ∧ Went w0 wB w'' z F S') := fun w' vv hk' hv => hv ▸ (hp w' hk').mono fun e w'' ⟨he, hw⟩ => ⟨he, hw.pre hk'⟩
  have QD : Hid (∀ (w2 : World) (F' : List Nat), Two w0 w2 z F' y G S' S → ∀ w' vv, Keeps [] w2 w' → vv = #[PT y.g, .int .i64 i] → Calls Tryz.prog 89 vv w' fun e w'' => e = .returned (.tuple #[.int .i64 ra, .int .i64 re]) ∧ RWent w0 w2 w'' y G S') := fun w2 F' h2 w' vv hk' hv => hv ▸ (hd w2 F' S' h2 w' hk').mono fun e w'' ⟨he, hw⟩ => ⟨he, RWent.pre hk' hw⟩
  have QA := Lib.hid (fun w' (hk : Keeps [] wB w') => gate_held hB.sp hk)
  have HC := Lib.hid (show ∀ w', Keeps [] wB w' → w'.cell? ⟨w.heap.size, 2, none⟩ = some (.int .i64 i) from fun w' hk => ((bb.keeps hk (by simp)).cell 2).trans rfl)
  have hoff : w.heap.size ∉ F := fun hx => by have := h.sp.lt _ hx; omega
  have hoffG : w.heap.size ∉ G := fun hx => by have := h.rp.lt _ hx; omega
  have hkB : Keeps [] wB wB := Keeps.refl _ _
  have b0 : wB.cell? ⟨w.heap.size, 1, none⟩ = some (.int .i64 5) := (bb.cell 1).trans rfl
  have b2 : wB.cell? ⟨w.heap.size, 2, none⟩ = some (.int .i64 i) := (bb.cell 2).trans rfl
  have b4 : wB.cell? ⟨w.heap.size, 4, none⟩ = some (.int .i64 x) := (bb.cell 4).trans rfl
  have HB := Lib.hid (And.intro hB (And.intro kB (And.intro bb (And.intro hoff hoffG))))
  clear h hf hk hp hd hB kB bb hoff hoffG
  go_enter Tryz.func37, Tryz.ntmps37
  go_wp2_with fail
  try rw [hwB]
  clear hwB
  go_region_held3 (fun w' => w'.cell? ⟨w.heap.size, 2, none⟩ = some (.int .i64 i)) (first | with_reducible exact HC.out _ (by first | with_reducible assumption | with_reducible exact Keeps.drew (by with_reducible assumption)) | with_reducible exact HDC | go_keep) ((first
      | (go_at_call 19; (with_reducible refine (QA.out _ (by first | with_reducible assumption | with_reducible exact Keeps.drew (by with_reducible assumption))).mono ?_); rintro e wc ⟨rfl, hkc⟩)
      | (go_at_call 76; (with_reducible refine (QP.out _ _ (by first | with_reducible assumption | with_reducible exact Keeps.drew (by with_reducible assumption)) (by first | with_reducible rfl | rfl)).mono ?_); rintro e wd ⟨rfl, hW⟩; obtain ⟨_, _, hkq, _⟩ := id hW; have bd := HB.out.2.2.1.keeps hkq HB.out.2.2.2.1; have HDC : wd.cell? ⟨w.heap.size, 2, none⟩ = some (.int .i64 i) := (bd.cell 2).trans rfl; clear hkq bd; have HW := Lib.hid hW; clear hW)))
  all_goals
    obtain ⟨F', hT, hk1, hn1⟩ := HB.out.1.left HW.out
    have bd := HB.out.2.2.1.keeps hk1 HB.out.2.2.2.1
    have HBD := Lib.hid bd
    have HT := Lib.hid hT
    have HK := Lib.hid (And.intro hk1 hn1)
    have HD := Lib.hid (show ∀ w', Keeps [] wd w' → w'.cell? ⟨y.p, 8, none⟩ = some (PT y.g) ∧ w'.cell? ⟨w.heap.size, 2, none⟩ = some (.int .i64 i) from fun w' hk => ⟨(hT.rp.calm hk).cells.2.2.2.2.2.1, ((bd.keeps hk (by simp)).cell 2).trans rfl⟩)
    have hkD : Keeps [] wd wd := Keeps.refl _ _
    clear hT hk1 hn1 bd hkB
    go_wp2_with fail
    go_region_held3 (fun w' => w'.cell? ⟨y.p, 8, none⟩ = some (PT y.g) ∧ w'.cell? ⟨w.heap.size, 2, none⟩ = some (.int .i64 i)) (first | with_reducible exact HD.out _ (by first | with_reducible assumption | with_reducible exact Keeps.drew (by with_reducible assumption)) | with_reducible exact HDF | go_keep) (((go_at_call 89; (with_reducible refine (QD.out _ _ HT.out _ _ (by first | with_reducible assumption | with_reducible exact Keeps.drew (by with_reducible assumption)) (by first | with_reducible rfl | rfl)).mono ?_); rintro e wf ⟨rfl, hR⟩; obtain ⟨_, hR1, hkq, _⟩ := id hR; have be := HBD.out.keeps hkq HB.out.2.2.2.2; have HDF : wf.cell? ⟨y.p, 8, none⟩ = some (PT y.g) ∧ wf.cell? ⟨w.heap.size, 2, none⟩ = some (.int .i64 i) := ⟨hR1.cells.2.2.2.2.2.1, (be.cell 2).trans rfl⟩; clear hR1 hkq be; have HR := Lib.hid hR; clear hR)))
    all_goals
      go_wp2_with fail
      go_ret
      exact ⟨rfl, Two.both HB.out.2.1 HK.out.1 HK.out.2 HT.out HR.out⟩
set_option maxRecDepth 100000 in
set_option maxHeartbeats 4000000 in
theorem give_any (h : Two w0 w z F y G S S) (hf : Fit k S) (hk : k ≤ 1099511627776) (m : Bool) (i n x : Int) (q0 q1 q2 q3 q4 q5 q6 q7 q8 q9 q10 : Value) :
    Calls Tryz.prog 37 #[PT z.p, PT y.p, .agg #[.bool m, .int .i64 6, .int .i64 i, .int .i64 n, .int .i64 x, q0, q1, q2, q3, q4, q5, q6, q7, q8, q9, q10]] w fun e w' => e = .returned (.bool true) ∧ TwoWent w0 w w' z F y G (S.give i).2 := by
  have kB : Keeps [] w (w.alloc (.cells #[.bool m, .int .i64 6, .int .i64 i, .int .i64 n, .int .i64 x, q0, q1, q2, q3, q4, q5, q6, q7, q8, q9, q10] 100)) := (Keeps.refl _ _).alloc _
  have hB := h.calm kB
  have bb := Blk.new w 100 #[.bool m, .int .i64 6, .int .i64 i, .int .i64 n, .int .i64 x, q0, q1, q2, q3, q4, q5, q6, q7, q8, q9, q10]
  obtain ⟨wB, hwB⟩ : ∃ v, w.alloc (.cells #[.bool m, .int .i64 6, .int .i64 i, .int .i64 n, .int .i64 x, q0, q1, q2, q3, q4, q5, q6, q7, q8, q9, q10] 100) = v := ⟨_, rfl⟩
  rw [hwB] at kB hB bb
  have hp := fun w' (hk' : Keeps [] wB w') => sp_give (hB.sp.calm hk') hf hk i
  have hd := fun (w2 : World) (F' : List Nat) (S' : Sp) (h2 : Two w0 w2 z F' y G S' S) w' (hk' : Keeps [] w2 w') => rp_give (h2.rp.calm hk') hf hk i
  obtain ⟨re, hre⟩ : ∃ v, (S.give i).1 = v := ⟨_, rfl⟩
  obtain ⟨S', hS'⟩ : ∃ v, (S.give i).2 = v := ⟨_, rfl⟩
  simp only [hre, hS'] at hp hd ⊢
  clear hre hS'
  have QP : Hid (∀ w' vv, Keeps [] wB w' → vv = #[PT z.q, .int .i64 i] → Calls Tryz.prog 90 vv w' fun e w'' => e = .returned (.int .i64 re) ∧ Went w0 wB w'' z F S') := fun w' vv hk' hv => hv ▸ (hp w' hk').mono fun e w'' ⟨he, hw⟩ => ⟨he, hw.pre hk'⟩
  have QD : Hid (∀ (w2 : World) (F' : List Nat), Two w0 w2 z F' y G S' S → ∀ w' vv, Keeps [] w2 w' → vv = #[PT y.g, .int .i64 i] → Calls Tryz.prog 91 vv w' fun e w'' => e = .returned (.int .i64 re) ∧ RWent w0 w2 w'' y G S') := fun w2 F' h2 w' vv hk' hv => hv ▸ (hd w2 F' S' h2 w' hk').mono fun e w'' ⟨he, hw⟩ => ⟨he, RWent.pre hk' hw⟩
  have QA := Lib.hid (fun w' (hk : Keeps [] wB w') => gate_held hB.sp hk)
  have HC := Lib.hid (show ∀ w', Keeps [] wB w' → w'.cell? ⟨w.heap.size, 2, none⟩ = some (.int .i64 i) from fun w' hk => ((bb.keeps hk (by simp)).cell 2).trans rfl)
  have hoff : w.heap.size ∉ F := fun hx => by have := h.sp.lt _ hx; omega
  have hoffG : w.heap.size ∉ G := fun hx => by have := h.rp.lt _ hx; omega
  have hkB : Keeps [] wB wB := Keeps.refl _ _
  have b0 : wB.cell? ⟨w.heap.size, 1, none⟩ = some (.int .i64 6) := (bb.cell 1).trans rfl
  have b2 : wB.cell? ⟨w.heap.size, 2, none⟩ = some (.int .i64 i) := (bb.cell 2).trans rfl
  have b4 : wB.cell? ⟨w.heap.size, 4, none⟩ = some (.int .i64 x) := (bb.cell 4).trans rfl
  have HB := Lib.hid (And.intro hB (And.intro kB (And.intro bb (And.intro hoff hoffG))))
  clear h hf hk hp hd hB kB bb hoff hoffG
  go_enter Tryz.func37, Tryz.ntmps37
  go_wp2_with fail
  try rw [hwB]
  clear hwB
  go_region_held3 (fun w' => w'.cell? ⟨w.heap.size, 2, none⟩ = some (.int .i64 i)) (first | with_reducible exact HC.out _ (by first | with_reducible assumption | with_reducible exact Keeps.drew (by with_reducible assumption)) | with_reducible exact HDC | go_keep) ((first
      | (go_at_call 19; (with_reducible refine (QA.out _ (by first | with_reducible assumption | with_reducible exact Keeps.drew (by with_reducible assumption))).mono ?_); rintro e wc ⟨rfl, hkc⟩)
      | (go_at_call 90; (with_reducible refine (QP.out _ _ (by first | with_reducible assumption | with_reducible exact Keeps.drew (by with_reducible assumption)) (by first | with_reducible rfl | rfl)).mono ?_); rintro e wd ⟨rfl, hW⟩; obtain ⟨_, _, hkq, _⟩ := id hW; have bd := HB.out.2.2.1.keeps hkq HB.out.2.2.2.1; have HDC : wd.cell? ⟨w.heap.size, 2, none⟩ = some (.int .i64 i) := (bd.cell 2).trans rfl; clear hkq bd; have HW := Lib.hid hW; clear hW)))
  all_goals
    obtain ⟨F', hT, hk1, hn1⟩ := HB.out.1.left HW.out
    have bd := HB.out.2.2.1.keeps hk1 HB.out.2.2.2.1
    have HBD := Lib.hid bd
    have HT := Lib.hid hT
    have HK := Lib.hid (And.intro hk1 hn1)
    have HD := Lib.hid (show ∀ w', Keeps [] wd w' → w'.cell? ⟨y.p, 8, none⟩ = some (PT y.g) ∧ w'.cell? ⟨w.heap.size, 2, none⟩ = some (.int .i64 i) from fun w' hk => ⟨(hT.rp.calm hk).cells.2.2.2.2.2.1, ((bd.keeps hk (by simp)).cell 2).trans rfl⟩)
    have hkD : Keeps [] wd wd := Keeps.refl _ _
    clear hT hk1 hn1 bd hkB
    go_wp2_with fail
    go_region_held3 (fun w' => w'.cell? ⟨y.p, 8, none⟩ = some (PT y.g) ∧ w'.cell? ⟨w.heap.size, 2, none⟩ = some (.int .i64 i)) (first | with_reducible exact HD.out _ (by first | with_reducible assumption | with_reducible exact Keeps.drew (by with_reducible assumption)) | with_reducible exact HDF | go_keep) (((go_at_call 91; (with_reducible refine (QD.out _ _ HT.out _ _ (by first | with_reducible assumption | with_reducible exact Keeps.drew (by with_reducible assumption)) (by first | with_reducible rfl | rfl)).mono ?_); rintro e wf ⟨rfl, hR⟩; obtain ⟨_, hR1, hkq, _⟩ := id hR; have be := HBD.out.keeps hkq HB.out.2.2.2.2; have HDF : wf.cell? ⟨y.p, 8, none⟩ = some (PT y.g) ∧ wf.cell? ⟨w.heap.size, 2, none⟩ = some (.int .i64 i) := ⟨hR1.cells.2.2.2.2.2.1, (be.cell 2).trans rfl⟩; clear hR1 hkq be; have HR := Lib.hid hR; clear hR)))
    all_goals
      go_wp2_with fail
      go_ret
      exact ⟨rfl, Two.both HB.out.2.1 HK.out.1 HK.out.2 HT.out HR.out⟩
set_option maxRecDepth 100000 in
set_option maxHeartbeats 4000000 in
theorem load_any (h : Two w0 w z F y G S S) (hf : Fit k S) (hk : k ≤ 1099511627776) (m : Bool) (i n x : Int) (q0 q1 q2 q3 q4 q5 q6 q7 q8 q9 q10 : Value) :
    Calls Tryz.prog 37 #[PT z.p, PT y.p, .agg #[.bool m, .int .i64 2, .int .i64 i, .int .i64 n, .int .i64 x, q0, q1, q2, q3, q4, q5, q6, q7, q8, q9, q10]] w fun e w' => e = .returned (.bool true) ∧ TwoWent w0 w w' z F y G (S.load i).2 := by
  have kB : Keeps [] w (w.alloc (.cells #[.bool m, .int .i64 2, .int .i64 i, .int .i64 n, .int .i64 x, q0, q1, q2, q3, q4, q5, q6, q7, q8, q9, q10] 100)) := (Keeps.refl _ _).alloc _
  have hB := h.calm kB
  have bb := Blk.new w 100 #[.bool m, .int .i64 2, .int .i64 i, .int .i64 n, .int .i64 x, q0, q1, q2, q3, q4, q5, q6, q7, q8, q9, q10]
  obtain ⟨wB, hwB⟩ : ∃ v, w.alloc (.cells #[.bool m, .int .i64 2, .int .i64 i, .int .i64 n, .int .i64 x, q0, q1, q2, q3, q4, q5, q6, q7, q8, q9, q10] 100) = v := ⟨_, rfl⟩
  rw [hwB] at kB hB bb
  have hp := fun w' (hk' : Keeps [] wB w') => sp_load (hB.sp.calm hk') hf hk i
  have hd := fun (w2 : World) (F' : List Nat) (S' : Sp) (h2 : Two w0 w2 z F' y G S' S) w' (hk' : Keeps [] w2 w') => rp_load (h2.rp.calm hk') hf hk i
  obtain ⟨ra, hra⟩ : ∃ v, (S.load i).1.1 = v := ⟨_, rfl⟩
  obtain ⟨re, hre⟩ : ∃ v, (S.load i).1.2 = v := ⟨_, rfl⟩
  obtain ⟨S', hS'⟩ : ∃ v, (S.load i).2 = v := ⟨_, rfl⟩
  simp only [hra, hre, hS'] at hp hd ⊢
  clear hra hre hS'
  have QP : Hid (∀ w' vv, Keeps [] wB w' → vv = #[PT z.p, .int .i64 i] → Calls Tryz.prog 75 vv w' fun e w'' => e = .returned (.tuple #[.int .i64 ra, .int .i64 re]) ∧ Went w0 wB w'' z F S') := fun w' vv hk' hv => hv ▸ (hp w' hk').mono fun e w'' ⟨he, hw⟩ => ⟨he, hw.pre hk'⟩
  have QD : Hid (∀ (w2 : World) (F' : List Nat), Two w0 w2 z F' y G S' S → ∀ w' vv, Keeps [] w2 w' → vv = #[PT y.r, .int .i64 i] → Calls Tryz.prog 85 vv w' fun e w'' => e = .returned (.tuple #[.int .i64 ra, .int .i64 re]) ∧ RWent w0 w2 w'' y G S') := fun w2 F' h2 w' vv hk' hv => hv ▸ (hd w2 F' S' h2 w' hk').mono fun e w'' ⟨he, hw⟩ => ⟨he, RWent.pre hk' hw⟩
  have HC := Lib.hid (show ∀ w', Keeps [] wB w' → w'.cell? ⟨w.heap.size, 2, none⟩ = some (.int .i64 i) from fun w' hk => ((bb.keeps hk (by simp)).cell 2).trans rfl)
  have hoff : w.heap.size ∉ F := fun hx => by have := h.sp.lt _ hx; omega
  have hoffG : w.heap.size ∉ G := fun hx => by have := h.rp.lt _ hx; omega
  have hkB : Keeps [] wB wB := Keeps.refl _ _
  have b0 : wB.cell? ⟨w.heap.size, 1, none⟩ = some (.int .i64 2) := (bb.cell 1).trans rfl
  have b2 : wB.cell? ⟨w.heap.size, 2, none⟩ = some (.int .i64 i) := (bb.cell 2).trans rfl
  have b4 : wB.cell? ⟨w.heap.size, 4, none⟩ = some (.int .i64 x) := (bb.cell 4).trans rfl
  have HB := Lib.hid (And.intro hB (And.intro kB (And.intro bb (And.intro hoff hoffG))))
  clear h hf hk hp hd hB kB bb hoff hoffG
  go_enter Tryz.func37, Tryz.ntmps37
  go_wp2_with fail
  try rw [hwB]
  clear hwB
  refine (QP.out _ _ (Keeps.refl _ _) rfl).mono ?_
  rintro e wd ⟨rfl, hW⟩
  have HW := Lib.hid hW
  clear hW
  all_goals
    obtain ⟨F', hT, hk1, hn1⟩ := HB.out.1.left HW.out
    have bd := HB.out.2.2.1.keeps hk1 HB.out.2.2.2.1
    have HBD := Lib.hid bd
    have HT := Lib.hid hT
    have HK := Lib.hid (And.intro hk1 hn1)
    have HD := Lib.hid (show ∀ w', Keeps [] wd w' → w'.cell? ⟨y.p, 7, none⟩ = some (PT y.r) ∧ w'.cell? ⟨w.heap.size, 2, none⟩ = some (.int .i64 i) from fun w' hk => ⟨(hT.rp.calm hk).cells.2.2.2.2.1, ((bd.keeps hk (by simp)).cell 2).trans rfl⟩)
    have hkD : Keeps [] wd wd := Keeps.refl _ _
    clear hT hk1 hn1 bd hkB
    go_wp2_with fail
    go_region_held3 (fun w' => w'.cell? ⟨y.p, 7, none⟩ = some (PT y.r) ∧ w'.cell? ⟨w.heap.size, 2, none⟩ = some (.int .i64 i)) (first | with_reducible exact HD.out _ (by first | with_reducible assumption | with_reducible exact Keeps.drew (by with_reducible assumption)) | with_reducible exact HDF | go_keep) (((go_at_call 85; (with_reducible refine (QD.out _ _ HT.out _ _ (by first | with_reducible assumption | with_reducible exact Keeps.drew (by with_reducible assumption)) (by first | with_reducible rfl | rfl)).mono ?_); rintro e wf ⟨rfl, hR⟩; obtain ⟨_, hR1, hkq, _⟩ := id hR; have be := HBD.out.keeps hkq HB.out.2.2.2.2; have HDF : wf.cell? ⟨y.p, 7, none⟩ = some (PT y.r) ∧ wf.cell? ⟨w.heap.size, 2, none⟩ = some (.int .i64 i) := ⟨hR1.cells.2.2.2.2.1, (be.cell 2).trans rfl⟩; clear hR1 hkq be; have HR := Lib.hid hR; clear hR)))
    all_goals
      go_wp2_with fail
      go_ret
      exact ⟨rfl, Two.both HB.out.2.1 HK.out.1 HK.out.2 HT.out HR.out⟩
end
end Do08
end Go.Proofs.YtcoekpomiljofaaGreat
