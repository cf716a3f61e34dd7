/- quashlaw08.raw: a raw step over a space and the document's: the same answers, the same ends. -/
import Derived.Test.YtcoekpomiljofaaGreatRawF
import Derived.Deep.RegionHeld3
import Derived.Deep.QuietTactic
import Derived.BigQuiet
namespace Go.Proofs.YtcoekpomiljofaaGreat
open Go.RowKit
set_option linter.unusedVariables false
namespace Do08
section
variable {w0 w w' : World} {z : Sb} {F : List Nat} {y : Rb} {G : List Nat} {S : Sp} {k : Nat}
set_option maxRecDepth 100000 in
set_option maxHeartbeats 4000000 in
theorem free_any (h : Two w0 w z F y G S S) (hf : Fit k S) (hk : k ≤ 1099511627776) (m : Bool) (i n x : Int) (q0 q1 q2 q3 q4 q5 q6 q7 q8 q9 q10 : Value) :
    Calls Tryz.prog 37 #[PT z.p, PT y.p, .agg #[.bool m, .int .i64 10, .int .i64 i, .int .i64 n, .int .i64 x, q0, q1, q2, q3, q4, q5, q6, q7, q8, q9, q10]] w fun e w' => e = .returned (.bool true) ∧ TwoWent w0 w w' z F y G (S.free i n).2 := by
  have kB : Keeps [] w (w.alloc (.cells #[.bool m, .int .i64 10, .int .i64 i, .int .i64 n, .int .i64 x, q0, q1, q2, q3, q4, q5, q6, q7, q8, q9, q10] 100)) := (Keeps.refl _ _).alloc _
  have hB := h.calm kB
  have bb := Blk.new w 100 #[.bool m, .int .i64 10, .int .i64 i, .int .i64 n, .int .i64 x, q0, q1, q2, q3, q4, q5, q6, q7, q8, q9, q10]
  obtain ⟨wB, hwB⟩ : ∃ v, w.alloc (.cells #[.bool m, .int .i64 10, .int .i64 i, .int .i64 n, .int .i64 x, q0, q1, q2, q3, q4, q5, q6, q7, q8, q9, q10] 100) = v := ⟨_, rfl⟩
  rw [hwB] at kB hB bb
  have hp := fun w' (hk' : Keeps [] wB w') => sp_free (hB.sp.calm hk') hf hk i n
  have hd := fun (w2 : World) (F' : List Nat) (S' : Sp) (h2 : Two w0 w2 z F' y G S' S) w' (hk' : Keeps [] w2 w') => rp_free (h2.rp.calm hk') hf hk i n
  obtain ⟨re, hre⟩ : ∃ v, (S.free i n).1 = v := ⟨_, rfl⟩
  obtain ⟨S', hS'⟩ : ∃ v, (S.free i n).2 = v := ⟨_, rfl⟩
  simp only [hre, hS'] at hp hd ⊢
  clear hre hS'
  have QP : Hid (∀ w' vv, Keeps [] wB w' → vv = #[PT z.t.q, .int .i64 i, .int .i64 n] → Calls Tryz.prog 71 vv w' fun e w'' => e = .returned (.int .i64 re) ∧ Went w0 wB w'' z F S') := fun w' vv hk' hv => hv ▸ (hp w' hk').mono fun e w'' ⟨he, hw⟩ => ⟨he, hw.pre hk'⟩
  have QD : Hid (∀ (w2 : World) (F' : List Nat), Two w0 w2 z F' y G S' S → ∀ w' vv, Keeps [] w2 w' → vv = #[PT y.t, .int .i64 i, .int .i64 n] → Calls Tryz.prog 95 vv w' fun e w'' => e = .returned (.int .i64 re) ∧ RWent w0 w2 w'' y G S') := fun w2 F' h2 w' vv hk' hv => hv ▸ (hd w2 F' S' h2 w' hk').mono fun e w'' ⟨he, hw⟩ => ⟨he, RWent.pre hk' hw⟩
  have QA := Lib.hid (fun w' (hk : Keeps [] wB w') => slots_held hB.sp hk)
  have HC := Lib.hid (show ∀ w', Keeps [] wB w' → w'.cell? ⟨w.heap.size, 2, none⟩ = some (.int .i64 i) ∧ w'.cell? ⟨w.heap.size, 3, none⟩ = some (.int .i64 n) from fun w' hk => ⟨((bb.keeps hk (by simp)).cell 2).trans rfl, ((bb.keeps hk (by simp)).cell 3).trans rfl⟩)
  have hoff : w.heap.size ∉ F := fun hx => by have := h.sp.lt _ hx; omega
  have hoffG : w.heap.size ∉ G := fun hx => by have := h.rp.lt _ hx; omega
  have hkB : Keeps [] wB wB := Keeps.refl _ _
  have b0 : wB.cell? ⟨w.heap.size, 1, none⟩ = some (.int .i64 10) := (bb.cell 1).trans rfl
  have b2 : wB.cell? ⟨w.heap.size, 2, none⟩ = some (.int .i64 i) := (bb.cell 2).trans rfl
  have b4 : wB.cell? ⟨w.heap.size, 4, none⟩ = some (.int .i64 x) := (bb.cell 4).trans rfl
  have HB := Lib.hid (And.intro hB (And.intro kB (And.intro bb (And.intro hoff hoffG))))
  clear h hf hk hp hd hB kB bb hoff hoffG
  go_enter Tryz.func37, Tryz.ntmps37
  go_wp2_with fail
  try rw [hwB]
  clear hwB
  go_region_held3 (fun w' => w'.cell? ⟨w.heap.size, 2, none⟩ = some (.int .i64 i) ∧ w'.cell? ⟨w.heap.size, 3, none⟩ = some (.int .i64 n)) (first | with_reducible exact HC.out _ (by first | with_reducible assumption | with_reducible exact Keeps.drew (by with_reducible assumption)) | with_reducible exact HDC | go_keep) ((first
      | (go_at_call 13; (with_reducible refine (QA.out _ (by first | with_reducible assumption | with_reducible exact Keeps.drew (by with_reducible assumption))).mono ?_); rintro e wc ⟨rfl, hkc⟩)
      | (go_at_call 71; (with_reducible refine (QP.out _ _ (by first | with_reducible assumption | with_reducible exact Keeps.drew (by with_reducible assumption)) (by first | with_reducible rfl | rfl)).mono ?_); rintro e wd ⟨rfl, hW⟩; obtain ⟨_, _, hkq, _⟩ := id hW; have bd := HB.out.2.2.1.keeps hkq HB.out.2.2.2.1; have HDC : wd.cell? ⟨w.heap.size, 2, none⟩ = some (.int .i64 i) ∧ wd.cell? ⟨w.heap.size, 3, none⟩ = some (.int .i64 n) := ⟨(bd.cell 2).trans rfl, (bd.cell 3).trans rfl⟩; clear hkq bd; have HW := Lib.hid hW; clear hW)))
  all_goals
    obtain ⟨F', hT, hk1, hn1⟩ := HB.out.1.left HW.out
    have bd := HB.out.2.2.1.keeps hk1 HB.out.2.2.2.1
    have HBD := Lib.hid bd
    have HT := Lib.hid hT
    have HK := Lib.hid (And.intro hk1 hn1)
    have HD := Lib.hid (show ∀ w', Keeps [] wd w' → w'.cell? ⟨y.p, 9, none⟩ = some (PT y.t) ∧ w'.cell? ⟨w.heap.size, 2, none⟩ = some (.int .i64 i) ∧ w'.cell? ⟨w.heap.size, 3, none⟩ = some (.int .i64 n) from fun w' hk => ⟨(hT.rp.calm hk).cells.2.2.2.2.2.2, ((bd.keeps hk (by simp)).cell 2).trans rfl, ((bd.keeps hk (by simp)).cell 3).trans rfl⟩)
    have hkD : Keeps [] wd wd := Keeps.refl _ _
    clear hT hk1 hn1 bd hkB
    go_wp2_with fail
    go_region_held3 (fun w' => w'.cell? ⟨y.p, 9, none⟩ = some (PT y.t) ∧ w'.cell? ⟨w.heap.size, 2, none⟩ = some (.int .i64 i) ∧ w'.cell? ⟨w.heap.size, 3, none⟩ = some (.int .i64 n)) (first | with_reducible exact HD.out _ (by first | with_reducible assumption | with_reducible exact Keeps.drew (by with_reducible assumption)) | with_reducible exact HDF | go_keep) (((go_at_call 95; (with_reducible refine (QD.out _ _ HT.out _ _ (by first | with_reducible assumption | with_reducible exact Keeps.drew (by with_reducible assumption)) (by first | with_reducible rfl | rfl)).mono ?_); rintro e wf ⟨rfl, hR⟩; obtain ⟨_, hR1, hkq, _⟩ := id hR; have be := HBD.out.keeps hkq HB.out.2.2.2.2; have HDF : wf.cell? ⟨y.p, 9, none⟩ = some (PT y.t) ∧ wf.cell? ⟨w.heap.size, 2, none⟩ = some (.int .i64 i) ∧ wf.cell? ⟨w.heap.size, 3, none⟩ = some (.int .i64 n) := ⟨hR1.cells.2.2.2.2.2.2, (be.cell 2).trans rfl, (be.cell 3).trans rfl⟩; clear hR1 hkq be; have HR := Lib.hid hR; clear hR)))
    all_goals
      go_wp2_with fail
      go_ret
      exact ⟨rfl, Two.both HB.out.2.1 HK.out.1 HK.out.2 HT.out HR.out⟩
set_option maxRecDepth 100000 in
set_option maxHeartbeats 4000000 in
theorem put_any (h : Two w0 w z F y G S S) (hf : Fit k S) (hk : k ≤ 1099511627776) (m : Bool) (i n x : Int) (q0 q1 q2 q3 q4 q5 q6 q7 q8 q9 q10 : Value) :
    Calls Tryz.prog 37 #[PT z.p, PT y.p, .agg #[.bool m, .int .i64 12, .int .i64 i, .int .i64 n, .int .i64 x, q0, q1, q2, q3, q4, q5, q6, q7, q8, q9, q10]] w fun e w' => e = .returned (.bool true) ∧ TwoWent w0 w w' z F y G (S.put i n (asU x)).2 := by
  have kB : Keeps [] w (w.alloc (.cells #[.bool m, .int .i64 12, .int .i64 i, .int .i64 n, .int .i64 x, q0, q1, q2, q3, q4, q5, q6, q7, q8, q9, q10] 100)) := (Keeps.refl _ _).alloc _
  have hB := h.calm kB
  have bb := Blk.new w 100 #[.bool m, .int .i64 12, .int .i64 i, .int .i64 n, .int .i64 x, q0, q1, q2, q3, q4, q5, q6, q7, q8, q9, q10]
  obtain ⟨wB, hwB⟩ : ∃ v, w.alloc (.cells #[.bool m, .int .i64 12, .int .i64 i, .int .i64 n, .int .i64 x, q0, q1, q2, q3, q4, q5, q6, q7, q8, q9, q10] 100) = v := ⟨_, rfl⟩
  rw [hwB] at kB hB bb
  have hp := fun w' (hk' : Keeps [] wB w') => sp_put (hB.sp.calm hk') hf hk i n (asU x)
  have hd := fun (w2 : World) (F' : List Nat) (S' : Sp) (h2 : Two w0 w2 z F' y G S' S) w' (hk' : Keeps [] w2 w') => rp_put (h2.rp.calm hk') hf hk i n (asU x)
  obtain ⟨re, hre⟩ : ∃ v, (S.put i n (asU x)).1 = v := ⟨_, rfl⟩
  obtain ⟨S', hS'⟩ : ∃ v, (S.put i n (asU x)).2 = v := ⟨_, rfl⟩
  simp only [hre, hS'] at hp hd ⊢
  clear hre hS'
  obtain ⟨ux, hux⟩ : ∃ v, asU x = v := ⟨_, rfl⟩
  have hconv : IntKind.u64.wrap x = ux := hux
  rw [hux] at hp hd
  clear hux
  have QP : Hid (∀ w' vv, Keeps [] wB w' → vv = #[PT z.t.q, .int .i64 i, .int .i64 n, .int .u64 ux] → Calls Tryz.prog 69 vv w' fun e w'' => e = .returned (.int .i64 re) ∧ Went w0 wB w'' z F S') := fun w' vv hk' hv => hv ▸ (hp w' hk').mono fun e w'' ⟨he, hw⟩ => ⟨he, hw.pre hk'⟩
  have QD : Hid (∀ (w2 : World) (F' : List Nat), Two w0 w2 z F' y G S' S → ∀ w' vv, Keeps [] w2 w' → vv = #[PT y.t, .int .i64 i, .int .i64 n, .int .u64 ux] → Calls Tryz.prog 98 vv w' fun e w'' => e = .returned (.int .i64 re) ∧ RWent w0 w2 w'' y G S') := fun w2 F' h2 w' vv hk' hv => hv ▸ (hd w2 F' S' h2 w' hk').mono fun e w'' ⟨he, hw⟩ => ⟨he, RWent.pre hk' hw⟩
  have QA := Lib.hid (fun w' (hk : Keeps [] wB w') => slots_held hB.sp hk)
  have HC := Lib.hid (show ∀ w', Keeps [] wB w' → w'.cell? ⟨w.heap.size, 2, none⟩ = some (.int .i64 i) ∧ w'.cell? ⟨w.heap.size, 3, none⟩ = some (.int .i64 n) ∧ w'.cell? ⟨w.heap.size, 4, none⟩ = some (.int .i64 x) from fun w' hk => ⟨((bb.keeps hk (by simp)).cell 2).trans rfl, ((bb.keeps hk (by simp)).cell 3).trans rfl, ((bb.keeps hk (by simp)).cell 4).trans rfl⟩)
  have hoff : w.heap.size ∉ F := fun hx => by have := h.sp.lt _ hx; omega
  have hoffG : w.heap.size ∉ G := fun hx => by have := h.rp.lt _ hx; omega
  have hkB : Keeps [] wB wB := Keeps.refl _ _
  have b0 : wB.cell? ⟨w.heap.size, 1, none⟩ = some (.int .i64 12) := (bb.cell 1).trans rfl
  have b2 : wB.cell? ⟨w.heap.size, 2, none⟩ = some (.int .i64 i) := (bb.cell 2).trans rfl
  have b4 : wB.cell? ⟨w.heap.size, 4, none⟩ = some (.int .i64 x) := (bb.cell 4).trans rfl
  have HB := Lib.hid (And.intro hB (And.intro kB (And.intro bb (And.intro hoff hoffG))))
  clear h hf hk hp hd hB kB bb hoff hoffG
  go_enter Tryz.func37, Tryz.ntmps37
  go_wp2_with fail
  try rw [hwB]
  clear hwB
  go_region_held3 (fun w' => w'.cell? ⟨w.heap.size, 2, none⟩ = some (.int .i64 i) ∧ w'.cell? ⟨w.heap.size, 3, none⟩ = some (.int .i64 n) ∧ w'.cell? ⟨w.heap.size, 4, none⟩ = some (.int .i64 x)) (first | with_reducible exact HC.out _ (by first | with_reducible assumption | with_reducible exact Keeps.drew (by with_reducible assumption)) | with_reducible exact HDC | go_keep) ((first
      | (go_at_call 13; (with_reducible refine (QA.out _ (by first | with_reducible assumption | with_reducible exact Keeps.drew (by with_reducible assumption))).mono ?_); rintro e wc ⟨rfl, hkc⟩)
      | (go_at_call 69; (with_reducible refine (QP.out _ _ (by first | with_reducible assumption | with_reducible exact Keeps.drew (by with_reducible assumption)) (by first | with_reducible rfl | rfl)).mono ?_); rintro e wd ⟨rfl, hW⟩; obtain ⟨_, _, hkq, _⟩ := id hW; have bd := HB.out.2.2.1.keeps hkq HB.out.2.2.2.1; have HDC : wd.cell? ⟨w.heap.size, 2, none⟩ = some (.int .i64 i) ∧ wd.cell? ⟨w.heap.size, 3, none⟩ = some (.int .i64 n) ∧ wd.cell? ⟨w.heap.size, 4, none⟩ = some (.int .i64 x) := ⟨(bd.cell 2).trans rfl, (bd.cell 3).trans rfl, (bd.cell 4).trans rfl⟩; clear hkq bd; have HW := Lib.hid hW; clear hW)))
  all_goals
    obtain ⟨F', hT, hk1, hn1⟩ := HB.out.1.left HW.out
    have bd := HB.out.2.2.1.keeps hk1 HB.out.2.2.2.1
    have HBD := Lib.hid bd
    have HT := Lib.hid hT
    have HK := Lib.hid (And.intro hk1 hn1)
    have HD := Lib.hid (show ∀ w', Keeps [] wd w' → w'.cell? ⟨y.p, 9, none⟩ = some (PT y.t) ∧ w'.cell? ⟨w.heap.size, 2, none⟩ = some (.int .i64 i) ∧ w'.cell? ⟨w.heap.size, 3, none⟩ = some (.int .i64 n) ∧ w'.cell? ⟨w.heap.size, 4, none⟩ = some (.int .i64 x) from fun w' hk => ⟨(hT.rp.calm hk).cells.2.2.2.2.2.2, ((bd.keeps hk (by simp)).cell 2).trans rfl, ((bd.keeps hk (by simp)).cell 3).trans rfl, ((bd.keeps hk (by simp)).cell 4).trans rfl⟩)
    have hkD : Keeps [] wd wd := Keeps.refl _ _
    clear hT hk1 hn1 bd hkB
    go_wp2_with fail
    go_region_held3 (fun w' => w'.cell? ⟨y.p, 9, none⟩ = some (PT y.t) ∧ w'.cell? ⟨w.heap.size, 2, none⟩ = some (.int .i64 i) ∧ w'.cell? ⟨w.heap.size, 3, none⟩ = some (.int .i64 n) ∧ w'.cell? ⟨w.heap.size, 4, none⟩ = some (.int .i64 x)) (first | with_reducible exact HD.out _ (by first | with_reducible assumption | with_reducible exact Keeps.drew (by with_reducible assumption)) | with_reducible exact HDF | go_keep) (((go_at_call 98; (with_reducible refine (QD.out _ _ HT.out _ _ (by first | with_reducible assumption | with_reducible exact Keeps.drew (by with_reducible assumption)) (by first | with_reducible rfl | rfl)).mono ?_); rintro e wf ⟨rfl, hR⟩; obtain ⟨_, hR1, hkq, _⟩ := id hR; have be := HBD.out.keeps hkq HB.out.2.2.2.2; have HDF : wf.cell? ⟨y.p, 9, none⟩ = some (PT y.t) ∧ wf.cell? ⟨w.heap.size, 2, none⟩ = some (.int .i64 i) ∧ wf.cell? ⟨w.heap.size, 3, none⟩ = some (.int .i64 n) ∧ wf.cell? ⟨w.heap.size, 4, none⟩ = some (.int .i64 x) := ⟨hR1.cells.2.2.2.2.2.2, (be.cell 2).trans rfl, (be.cell 3).trans rfl, (be.cell 4).trans rfl⟩; clear hR1 hkq be; have HR := Lib.hid hR; clear hR)))
    all_goals
      go_wp2_with fail
      go_ret
      exact ⟨rfl, Two.both HB.out.2.1 HK.out.1 HK.out.2 HT.out HR.out⟩
set_option maxRecDepth 100000 in
set_option maxHeartbeats 4000000 in
theorem word_any (h : Two w0 w z F y G S S) (hf : Fit k S) (hk : k ≤ 1099511627776) (m : Bool) (i n x : Int) (q0 q1 q2 q3 q4 q5 q6 q7 q8 q9 q10 : Value) :
    Calls Tryz.prog 37 #[PT z.p, PT y.p, .agg #[.bool m, .int .i64 11, .int .i64 i, .int .i64 n, .int .i64 x, q0, q1, q2, q3, q4, q5, q6, q7, q8, q9, q10]] w fun e w' => e = .returned (.bool true) ∧ TwoWent w0 w w' z F y G (S.word i n).2 := by
  have kB : Keeps [] w (w.alloc (.cells #[.bool m, .int .i64 11, .int .i64 i, .int .i64 n, .int .i64 x, q0, q1, q2, q3, q4, q5, q6, q7, q8, q9, q10] 100)) := (Keeps.refl _ _).alloc _
  have hB := h.calm kB
  have bb := Blk.new w 100 #[.bool m, .int .i64 11, .int .i64 i, .int .i64 n, .int .i64 x, q0, q1, q2, q3, q4, q5, q6, q7, q8, q9, q10]
  obtain ⟨wB, hwB⟩ : ∃ v, w.alloc (.cells #[.bool m, .int .i64 11, .int .i64 i, .int .i64 n, .int .i64 x, q0, q1, q2, q3, q4, q5, q6, q7, q8, q9, q10] 100) = v := ⟨_, rfl⟩
  rw [hwB] at kB hB bb
  have hp := fun w' (hk' : Keeps [] wB w') => sp_word (hB.sp.calm hk') hf hk i n
  have hd := fun (w2 : World) (F' : List Nat) (S' : Sp) (h2 : Two w0 w2 z F' y G S' S) w' (hk' : Keeps [] w2 w') => rp_word (h2.rp.calm hk') hf hk i n
  obtain ⟨ra, hra⟩ : ∃ v, (S.word i n).1.1 = v := ⟨_, rfl⟩
  obtain ⟨re, hre⟩ : ∃ v, (S.word i n).1.2 = v := ⟨_, rfl⟩
  obtain ⟨S', hS'⟩ : ∃ v, (S.word i n).2 = v := ⟨_, rfl⟩
  simp only [hra, hre, hS'] at hp hd ⊢
  clear hra hre hS'
  have QP : Hid (∀ w' vv, Keeps [] wB w' → vv = #[PT z.t.q, .int .i64 i, .int .i64 n] → Calls Tryz.prog 96 vv w' fun e w'' => e = .returned (.tuple #[.int .u64 ra, .int .i64 re]) ∧ Went w0 wB w'' z F S') := fun w' vv hk' hv => hv ▸ (hp w' hk').mono fun e w'' ⟨he, hw⟩ => ⟨he, hw.pre hk'⟩
  have QD : Hid (∀ (w2 : World) (F' : List Nat), Two w0 w2 z F' y G S' S → ∀ w' vv, Keeps [] w2 w' → vv = #[PT y.t, .int .i64 i, .int .i64 n] → Calls Tryz.prog 97 vv w' fun e w'' => e = .returned (.tuple #[.int .u64 ra, .int .i64 re]) ∧ RWent w0 w2 w'' y G S') := fun w2 F' h2 w' vv hk' hv => hv ▸ (hd w2 F' S' h2 w' hk').mono fun e w'' ⟨he, hw⟩ => ⟨he, RWent.pre hk' hw⟩
  have QA := Lib.hid (fun w' (hk : Keeps [] wB w') => slots_held hB.sp hk)
  have HC := Lib.hid (show ∀ w', Keeps [] wB w' → w'.cell? ⟨w.heap.size, 2, none⟩ = some (.int .i64 i) ∧ w'.cell? ⟨w.heap.size, 3, none⟩ = some (.int .i64 n) from fun w' hk => ⟨((bb.keeps hk (by simp)).cell 2).trans rfl, ((bb.keeps hk (by simp)).cell 3).trans rfl⟩)
  have hoff : w.heap.size ∉ F := fun hx => by have := h.sp.lt _ hx; omega
  have hoffG : w.heap.size ∉ G := fun hx => by have := h.rp.lt _ hx; omega
  have hkB : Keeps [] wB wB := Keeps.refl _ _
  have b0 : wB.cell? ⟨w.heap.size, 1, none⟩ = some (.int .i64 11) := (bb.cell 1).trans rfl
  have b2 : wB.cell? ⟨w.heap.size, 2, none⟩ = some (.int .i64 i) := (bb.cell 2).trans rfl
  have b4 : wB.cell? ⟨w.heap.size, 4, none⟩ = some (.int .i64 x) := (bb.cell 4).trans rfl
  have HB := Lib.hid (And.intro hB (And.intro kB (And.intro bb (And.intro hoff hoffG))))
  clear h hf hk hp hd hB kB bb hoff hoffG
  go_enter Tryz.func37, Tryz.ntmps37
  go_wp2_with fail
  try rw [hwB]
  clear hwB
  go_region_held3 (fun w' => w'.cell? ⟨w.heap.size, 2, none⟩ = some (.int .i64 i) ∧ w'.cell? ⟨w.heap.size, 3, none⟩ = some (.int .i64 n)) (first | with_reducible exact HC.out _ (by first | with_reducible assumption | with_reducible exact Keeps.drew (by with_reducible assumption)) | with_reducible exact HDC | go_keep) ((first
      | (go_at_call 13; (with_reducible refine (QA.out _ (by first | with_reducible assumption | with_reducible exact Keeps.drew (by with_reducible assumption))).mono ?_); rintro e wc ⟨rfl, hkc⟩)
      | (go_at_call 96; (with_reducible refine (QP.out _ _ (by first | with_reducible assumption | with_reducible exact Keeps.drew (by with_reducible assumption)) (by first | with_reducible rfl | rfl)).mono ?_); rintro e wd ⟨rfl, hW⟩; obtain ⟨_, _, hkq, _⟩ := id hW; have bd := HB.out.2.2.1.keeps hkq HB.out.2.2.2.1; have HDC : wd.cell? ⟨w.heap.size, 2, none⟩ = some (.int .i64 i) ∧ wd.cell? ⟨w.heap.size, 3, none⟩ = some (.int .i64 n) := ⟨(bd.cell 2).trans rfl, (bd.cell 3).trans rfl⟩; clear hkq bd; have HW := Lib.hid hW; clear hW)))
  all_goals
    obtain ⟨F', hT, hk1, hn1⟩ := HB.out.1.left HW.out
    have bd := HB.out.2.2.1.keeps hk1 HB.out.2.2.2.1
    have HBD := Lib.hid bd
    have HT := Lib.hid hT
    have HK := Lib.hid (And.intro hk1 hn1)
    have HD := Lib.hid (show ∀ w', Keeps [] wd w' → w'.cell? ⟨y.p, 9, none⟩ = some (PT y.t) ∧ w'.cell? ⟨w.heap.size, 2, none⟩ = some (.int .i64 i) ∧ w'.cell? ⟨w.heap.size, 3, none⟩ = some (.int .i64 n) from fun w' hk => ⟨(hT.rp.calm hk).cells.2.2.2.2.2.2, ((bd.keeps hk (by simp)).cell 2).trans rfl, ((bd.keeps hk (by simp)).cell 3).trans rfl⟩)
    have hkD : Keeps [] wd wd := Keeps.refl _ _
    clear hT hk1 hn1 bd hkB
    go_wp2_with fail
    go_region_held3 (fun w' => w'.cell? ⟨y.p, 9, none⟩ = some (PT y.t) ∧ w'.cell? ⟨w.heap.size, 2, none⟩ = some (.int .i64 i) ∧ w'.cell? ⟨w.heap.size, 3, none⟩ = some (.int .i64 n)) (first | with_reducible exact HD.out _ (by first | with_reducible assumption | with_reducible exact Keeps.drew (by with_reducible assumption)) | with_reducible exact HDF | go_keep) (((go_at_call 97; (with_reducible refine (QD.out _ _ HT.out _ _ (by first | with_reducible assumption | with_reducible exact Keeps.drew (by with_reducible assumption)) (by first | with_reducible rfl | rfl)).mono ?_); rintro e wf ⟨rfl, hR⟩; obtain ⟨_, hR1, hkq, _⟩ := id hR; have be := HBD.out.keeps hkq HB.out.2.2.2.2; have HDF : wf.cell? ⟨y.p, 9, none⟩ = some (PT y.t) ∧ wf.cell? ⟨w.heap.size, 2, none⟩ = some (.int .i64 i) ∧ wf.cell? ⟨w.heap.size, 3, none⟩ = some (.int .i64 n) := ⟨hR1.cells.2.2.2.2.2.2, (be.cell 2).trans rfl, (be.cell 3).trans rfl⟩; clear hR1 hkq be; have HR := Lib.hid hR; clear hR)))
    all_goals
      go_wp2_with fail
      go_ret
      exact ⟨rfl, Two.both HB.out.2.1 HK.out.1 HK.out.2 HT.out HR.out⟩
end
end Do08
end Go.Proofs.YtcoekpomiljofaaGreat
