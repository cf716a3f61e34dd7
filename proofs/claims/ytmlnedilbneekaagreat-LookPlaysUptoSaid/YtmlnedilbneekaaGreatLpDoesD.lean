/- quashlaw12's does: a step of a script over the law's bundle, whatever it is. -/
import Derived.Test.YtmlnedilbneekaaGreatLpDoes
import Derived.Test.YtmlnedilbneekaaGreatElOp12
import Derived.Test.YtmlnedilbneekaaGreatDdN
import Derived.Test.YtmlnedilbneekaaGreatAw12b
import Derived.Test.YtmlnedilbneekaaGreatLdB
import Derived.Test.YtmlnedilbneekaaGreatRegT
import Derived.Deep.RegionHeld3
import Derived.Deep.QuietTactic
import Derived.BigQuiet
import Derived.Deep.DeepCutAuto
import Derived.Deep.CutBlock
namespace Go.Proofs.YtmlnedilbneekaaGreat
open Go.RowKit
set_option linter.unusedVariables false
namespace LP
open PR Ld
section
variable {w0 w w1 w' : World} {z : Sb} {y : Rb} {n gb k : Nat} {cf : Cf} {S S' : Sp} {M N : ML} {A B : MD} {j : Nat}
set_option maxRecDepth 100000 in
set_option maxHeartbeats 16000000 in
theorem does_new (hI : Ins w0 w z y n gb k cf S M N A B) (hk : k ≤ 1048576) (hn : cf.slots = (n : Int)) (n8 : n ≤ 8) (mm pi pn px : Int) (fa fb : Nat) (hsg : (⟨fa, fb⟩ : Sg).ok) (lv : Value) :
    Calls Tryz.prog 8 #[PT gb, .agg #[.int .i64 20, .int .i64 mm, .int .i64 pi, .int .i64 pn, .int .i64 px, .int .u64 (fa : Int), .int .u64 (fb : Int), lv]] w fun e w' => e = .returned (.bool true) ∧ Out w0 w' z y n gb (k + 1) cf := by
  obtain ⟨j, hj⟩ : ∃ j : Nat, mm % 2 = (j : Int) := ⟨(mm % 2).toNat, by omega⟩
  have m1 : bits .and .i64 mm 1 = (j : Int) := (i64_and1 mm).trans hj
  have hj2 : j < 2 := by omega
  have j0 : (0 : Int) ≤ (j : Int) := by omega
  have j1 : (j : Int) < 2 := by omega
  clear hj
  have HI := Lib.hid hI
  have HN := Lib.hid (And.intro hn n8)
  have HK := Lib.hid hk
  have HSG := Lib.hid hsg
  have HR1 := Lib.hid (hI.rg.laid #[.int .i64 20, .int .i64 mm, .int .i64 pi, .int .i64 pn, .int .i64 px, .int .u64 (fa : Int), .int .u64 (fb : Int), lv])
  clear hI hn n8 hk hsg
  go_enter Tryz.func8, Tryz.ntmps8
  go_upto_region 1 with fail
  obtain ⟨wa, hwa⟩ : ∃ v, w.alloc (.cells #[.int .i64 20, .int .i64 mm, .int .i64 pi, .int .i64 pn, .int .i64 px, .int .u64 (fa : Int), .int .u64 (fb : Int), lv] 50) = v := ⟨_, rfl⟩
  obtain ⟨bo, hbo⟩ : ∃ b, w.heap.size = b := ⟨_, rfl⟩
  rw [hwa] at HR1
  rw [hbo] at HR1
  try rw [hwa]
  try rw [hbo]
  have bx := HR1.out.box
  obtain ⟨g0, g1⟩ := HR1.out.pc
  clear hwa hbo
  have d1 : wa.cell? ⟨bo, 1, none⟩ = some (.int .i64 mm) := (bx.cell 1).trans rfl
  clear bx
  go_wp2_with fail
  refine (HR1.out.turn _).mono ?_
  rintro e w1 ⟨rfl, hr2⟩
  have HR2 := Lib.hid hr2
  clear g0 g1 d1 HR1 m1
  obtain ⟨g0, g1⟩ := hr2.pc
  have yc := hr2.yc
  clear hr2
  go_wp2_with fail
  refine (HR2.out.begin _).mono ?_
  rintro e w2 ⟨rfl, hr3⟩
  have HR3 := Lib.hid hr3
  clear g0 g1 yc HR2
  have bx := hr3.box
  have d0 : w2.cell? ⟨bo, 0, none⟩ = some (.int .i64 20) := (bx.cell 0).trans rfl
  clear hr3 bx
  have HF1 : Hid (Fit k (S.begin j)) := HI.out.fit.begin _
  have HC1 : Hid ((S.begin j).c = cf) := HI.out.c
  have HW1 : Hid ((S.begin j).wu) := HI.out.wu
  obtain ⟨S1, hS1⟩ : ∃ v, S.begin j = v := ⟨_, rfl⟩
  rw [hS1] at HR3 HF1 HC1 HW1
  clear hS1
  have hH : (S1.H.length : Int) = (n : Int) := by have h1 := HF1.out.slots; rw [HC1.out] at h1; have h2 := HN.out.1; omega
  have hHn : S1.H.length = n := by omega
  have hcn : S1.c.slots = (n : Int) := by rw [HC1.out]; exact HN.out.1
  obtain ⟨F3, hsp⟩ := HR3.out.sp
  by_cases hv : 0 ≤ pi ∧ pi < (n : Int)
  · have QN : Hid (∀ w', Keeps [] w2 w' → Calls Tryz.prog 30 #[PT z.p, .int .i64 pi, .agg #[.int .u64 (fa : Int), .int .u64 (fb : Int)]] w' fun e w'' => ∃ a G, e = .returned (.tuple #[PT a, .int .i64 0]) ∧ LK w0 w'' z F3 a G (Lk.new n pi ⟨fa, fb⟩) ∧ (∀ q, q ∈ G → w2.heap.size ≤ q) ∧ Keeps [] w2 w'') := fun w' hk => by
          have h5 := lk_new (hsp.calm hk) HF1.out ⟨fa, fb⟩ pi hv.1 (by rw [hH]; exact hv.2)
          rw [hHn] at h5
          have hz := hk.size
          exact h5.mono fun e w'' ⟨a, G, he, h1, h2, h3⟩ => ⟨a, G, he, h1, fun q hq => Nat.le_trans hz (h2 q hq), hk.trans h3 (by simp)⟩
    have HC7 : Hid (∀ w', Keeps [] w2 w' → w'.cell? ⟨gb, 0, none⟩ = some (PT z.p) ∧ w'.cell? ⟨bo, 2, none⟩ = some (.int .i64 pi) ∧ w'.cell? ⟨bo, 5, none⟩ = some (.int .u64 (fa : Int)) ∧ w'.cell? ⟨bo, 6, none⟩ = some (.int .u64 (fb : Int))) := fun w' hk => by
      have h := HR3.out.calm hk
      exact ⟨h.pc.1, (h.box.cell 2).trans rfl, (h.box.cell 5).trans rfl, (h.box.cell 6).trans rfl⟩
    have hkB : Keeps [] w2 w2 := Keeps.refl _ _
    clear hsp
    go_upto_region 7 with fail
    clear d0
    go_region_held3 (fun w' => w'.cell? ⟨gb, 0, none⟩ = some (PT z.p) ∧ w'.cell? ⟨bo, 2, none⟩ = some (.int .i64 pi) ∧ w'.cell? ⟨bo, 5, none⟩ = some (.int .u64 (fa : Int)) ∧ w'.cell? ⟨bo, 6, none⟩ = some (.int .u64 (fb : Int))) (first | with_reducible exact HC7.out _ (by first | with_reducible assumption | with_reducible exact Keeps.drew (by with_reducible assumption)) | go_keep) ((go_at_call 30; (with_reducible refine (QN.out _ (by first | with_reducible assumption | with_reducible exact Keeps.drew (by with_reducible assumption))).mono ?_); rintro e w3 ⟨a, Gm, rfl, ha, hla, hk3⟩; have HA := Lib.hid (And.intro ha hla); clear ha hla))
    clear hkB
    obtain ⟨_, hrp⟩ := (HR3.out.calm hk3).rp
    have QR : Hid (∀ w', Keeps [] w3 w' → Calls Tryz.prog 47 #[PT y.p, .int .i64 pi, .agg #[.int .u64 (fa : Int), .int .u64 (fb : Int)]] w' fun e w'' => ∃ b, e = .returned (.tuple #[PT b, .int .i64 0]) ∧ Ld.At w'' y n b (Lk.new n pi ⟨fa, fb⟩) (.slice none 0 0) ∧ w3.heap.size ≤ b ∧ Keeps [] w3 w'') := fun w' hk => by
          have hz := hk.size
          exact (doc_new (hrp.calm hk) pi ⟨fa, fb⟩ hcn HN.out.2 hv.1 hv.2).mono fun e w'' ⟨b, he, h1, h2, h3⟩ => ⟨b, he, h1, Nat.le_trans hz h2, hk.trans h3 (by simp)⟩
    have HC8 : Hid (∀ w', Keeps [] w3 w' → w'.cell? ⟨gb, 1, none⟩ = some (PT y.p) ∧ w'.cell? ⟨bo, 2, none⟩ = some (.int .i64 pi) ∧ w'.cell? ⟨bo, 5, none⟩ = some (.int .u64 (fa : Int)) ∧ w'.cell? ⟨bo, 6, none⟩ = some (.int .u64 (fb : Int))) := fun w' hk => by
      have h := HR3.out.calm (hk3.trans hk (by simp))
      exact ⟨h.pc.2, (h.box.cell 2).trans rfl, (h.box.cell 5).trans rfl, (h.box.cell 6).trans rfl⟩
    have hkB : Keeps [] w3 w3 := Keeps.refl _ _
    clear hrp HC7 QN
    go_upto_region 8 with fail
    go_region_held3 (fun w' => w'.cell? ⟨gb, 1, none⟩ = some (PT y.p) ∧ w'.cell? ⟨bo, 2, none⟩ = some (.int .i64 pi) ∧ w'.cell? ⟨bo, 5, none⟩ = some (.int .u64 (fa : Int)) ∧ w'.cell? ⟨bo, 6, none⟩ = some (.int .u64 (fb : Int))) (first | with_reducible exact HC8.out _ (by first | with_reducible assumption | with_reducible exact Keeps.drew (by with_reducible assumption)) | go_keep) ((go_at_call 47; (with_reducible refine (QR.out _ (by first | with_reducible assumption | with_reducible exact Keeps.drew (by with_reducible assumption))).mono ?_); rintro e w4 ⟨b, rfl, hb, hlb, hk4⟩; have HB := Lib.hid (And.intro hb hlb); clear hb hlb))
    clear hkB QR HC8
    have hk24 : Keeps [] w2 w4 := hk3.trans hk4 (by simp)
    have hle := hk3.size
    have RN : Hid (∀ w5, Keeps [gb] w4 w5 → Blk w5 gb 43 (rigA z y (upd' M j (some (a, (Lk.new n pi ⟨fa, fb⟩)))) (upd' N j (some (b, (Lk.new n pi ⟨fa, fb⟩)))) A B) → Rg w0 w5 z y n gb (some (bo, #[.int .i64 20, .int .i64 mm, .int .i64 pi, .int .i64 pn, .int .i64 px, .int .u64 (fa : Int), .int .u64 (fb : Int), lv])) S1 S1 (upd' M j (some (a, (Lk.new n pi ⟨fa, fb⟩)))) (upd' N j (some (b, (Lk.new n pi ⟨fa, fb⟩)))) A B) := fun w5 hk5 hb5 => renewL (gm := Gm) HR3.out hk24 ⟨(HA.out.1.calm hk4).ex, HA.out.2⟩ (fun b1 x1 e => by
      injection e with e
      injection e with e1 e2
      subst e1 e2
      exact ⟨HB.out.1, Nat.le_trans hle HB.out.2, fun hg => by have h5 := HA.out.1.apt.lt _ hg; have h6 := HB.out.2; omega⟩) hk5 hb5
    have hbr := HR3.out.rig.keeps hk24 (by simp)
    have cx := (Rg.cells (HR3.out.calm hk24) hj2)
    have fx := hbr.frozen (2 + j)
    have fy := hbr.frozen (4 + j)
    obtain ⟨cx, cy, -, -⟩ := cx
    have HBR := Lib.hid hbr
    clear hbr
    go_upto_region 9 with fail
    go_region
    all_goals
      go_wp2_with fail
      go_ret
      trace_state
      first
        | (have hr5 := RN.out _ (((Keeps.refl [gb] w4).setCell (p := ⟨gb, 2 + j, none⟩) (.inl (by simp)) (pv (some (a, (Lk.new n pi ⟨fa, fb⟩))))).setCell (p := ⟨gb, 4 + j, none⟩) (.inl (by simp)) (pv (some (b, (Lk.new n pi ⟨fa, fb⟩))))) (st2 HBR.out hj2 (some (a, (Lk.new n pi ⟨fa, fb⟩))) (some (b, (Lk.new n pi ⟨fa, fb⟩)))); exact ⟨rfl, _, _, _, _, _, (hr5.left).calm (by first | exact Keeps.refl _ _ | exact (Keeps.refl _ _).drew | exact (Keeps.refl _ _).drewN _), HF1.out.succ, HW1.out, HC1.out, (Pair.mono HI.out.pl (fun x h => okS h)).set j (by exact (Lk.new_ok HN.out.2 pi HSG.out).wide (Nat.zero_le _)), Pair.mono HI.out.pd (fun x h => Nat.le_succ_of_le h)⟩)
        | (have hr5 := RN.out _ (((Keeps.refl [gb] w4).setCell (p := ⟨gb, 4 + j, none⟩) (.inl (by simp)) (pv (some (b, (Lk.new n pi ⟨fa, fb⟩))))).setCell (p := ⟨gb, 2 + j, none⟩) (.inl (by simp)) (pv (some (a, (Lk.new n pi ⟨fa, fb⟩))))) (st2' HBR.out hj2 (some (a, (Lk.new n pi ⟨fa, fb⟩))) (some (b, (Lk.new n pi ⟨fa, fb⟩)))); exact ⟨rfl, _, _, _, _, _, (hr5.left).calm (by first | exact Keeps.refl _ _ | exact (Keeps.refl _ _).drew | exact (Keeps.refl _ _).drewN _), HF1.out.succ, HW1.out, HC1.out, (Pair.mono HI.out.pl (fun x h => okS h)).set j (by exact (Lk.new_ok HN.out.2 pi HSG.out).wide (Nat.zero_le _)), Pair.mono HI.out.pd (fun x h => Nat.le_succ_of_le h)⟩)
        | (have hr5 := RN.out _ (((Keeps.refl [gb] w4).drew.setCell (p := ⟨gb, 2 + j, none⟩) (.inl (by simp)) (pv (some (a, (Lk.new n pi ⟨fa, fb⟩))))).setCell (p := ⟨gb, 4 + j, none⟩) (.inl (by simp)) (pv (some (b, (Lk.new n pi ⟨fa, fb⟩))))) (st2 HBR.out.drew hj2 (some (a, (Lk.new n pi ⟨fa, fb⟩))) (some (b, (Lk.new n pi ⟨fa, fb⟩)))); exact ⟨rfl, _, _, _, _, _, (hr5.left).calm (by first | exact Keeps.refl _ _ | exact (Keeps.refl _ _).drew | exact (Keeps.refl _ _).drewN _), HF1.out.succ, HW1.out, HC1.out, (Pair.mono HI.out.pl (fun x h => okS h)).set j (by exact (Lk.new_ok HN.out.2 pi HSG.out).wide (Nat.zero_le _)), Pair.mono HI.out.pd (fun x h => Nat.le_succ_of_le h)⟩)
        | (have hr5 := RN.out _ (((Keeps.refl [gb] w4).drew.setCell (p := ⟨gb, 4 + j, none⟩) (.inl (by simp)) (pv (some (b, (Lk.new n pi ⟨fa, fb⟩))))).setCell (p := ⟨gb, 2 + j, none⟩) (.inl (by simp)) (pv (some (a, (Lk.new n pi ⟨fa, fb⟩))))) (st2' HBR.out.drew hj2 (some (a, (Lk.new n pi ⟨fa, fb⟩))) (some (b, (Lk.new n pi ⟨fa, fb⟩)))); exact ⟨rfl, _, _, _, _, _, (hr5.left).calm (by first | exact Keeps.refl _ _ | exact (Keeps.refl _ _).drew | exact (Keeps.refl _ _).drewN _), HF1.out.succ, HW1.out, HC1.out, (Pair.mono HI.out.pl (fun x h => okS h)).set j (by exact (Lk.new_ok HN.out.2 pi HSG.out).wide (Nat.zero_le _)), Pair.mono HI.out.pd (fun x h => Nat.le_succ_of_le h)⟩)
  · have QN : Hid (∀ w', Keeps [] w2 w' → Calls Tryz.prog 30 #[PT z.p, .int .i64 pi, .agg #[.int .u64 (fa : Int), .int .u64 (fb : Int)]] w' fun e w'' => e = .returned (.tuple #[.pointer none, .int .i64 2]) ∧ Keeps [] w2 w'') := fun w' hk => (lk_new_bad (hsp.calm hk) ⟨fa, fb⟩ pi (by rw [hH]; omega)).mono fun e w'' ⟨he, h3⟩ => ⟨he, hk.trans h3 (by simp)⟩
    have HC7 : Hid (∀ w', Keeps [] w2 w' → w'.cell? ⟨gb, 0, none⟩ = some (PT z.p) ∧ w'.cell? ⟨bo, 2, none⟩ = some (.int .i64 pi) ∧ w'.cell? ⟨bo, 5, none⟩ = some (.int .u64 (fa : Int)) ∧ w'.cell? ⟨bo, 6, none⟩ = some (.int .u64 (fb : Int))) := fun w' hk => by
      have h := HR3.out.calm hk
      exact ⟨h.pc.1, (h.box.cell 2).trans rfl, (h.box.cell 5).trans rfl, (h.box.cell 6).trans rfl⟩
    have hkB : Keeps [] w2 w2 := Keeps.refl _ _
    clear hsp
    go_upto_region 7 with fail
    clear d0
    go_region_held3 (fun w' => w'.cell? ⟨gb, 0, none⟩ = some (PT z.p) ∧ w'.cell? ⟨bo, 2, none⟩ = some (.int .i64 pi) ∧ w'.cell? ⟨bo, 5, none⟩ = some (.int .u64 (fa : Int)) ∧ w'.cell? ⟨bo, 6, none⟩ = some (.int .u64 (fb : Int))) (first | with_reducible exact HC7.out _ (by first | with_reducible assumption | with_reducible exact Keeps.drew (by with_reducible assumption)) | go_keep) ((go_at_call 30; (with_reducible refine (QN.out _ (by first | with_reducible assumption | with_reducible exact Keeps.drew (by with_reducible assumption))).mono ?_); rintro e w3 ⟨rfl, hk3⟩))
    clear hkB
    obtain ⟨_, hrp⟩ := (HR3.out.calm hk3).rp
    have QR : Hid (∀ w', Keeps [] w3 w' → Calls Tryz.prog 47 #[PT y.p, .int .i64 pi, .agg #[.int .u64 (fa : Int), .int .u64 (fb : Int)]] w' fun e w'' => e = .returned (.tuple #[.pointer none, .int .i64 2]) ∧ Keeps [] w3 w'') := fun w' hk => (doc_new_bad (hrp.calm hk) pi ⟨fa, fb⟩ hcn (by omega)).mono fun e w'' ⟨he, h3⟩ => ⟨he, hk.trans h3 (by simp)⟩
    have HC8 : Hid (∀ w', Keeps [] w3 w' → w'.cell? ⟨gb, 1, none⟩ = some (PT y.p) ∧ w'.cell? ⟨bo, 2, none⟩ = some (.int .i64 pi) ∧ w'.cell? ⟨bo, 5, none⟩ = some (.int .u64 (fa : Int)) ∧ w'.cell? ⟨bo, 6, none⟩ = some (.int .u64 (fb : Int))) := fun w' hk => by
      have h := HR3.out.calm (hk3.trans hk (by simp))
      exact ⟨h.pc.2, (h.box.cell 2).trans rfl, (h.box.cell 5).trans rfl, (h.box.cell 6).trans rfl⟩
    have hkB : Keeps [] w3 w3 := Keeps.refl _ _
    clear hrp HC7 QN
    go_upto_region 8 with fail
    go_region_held3 (fun w' => w'.cell? ⟨gb, 1, none⟩ = some (PT y.p) ∧ w'.cell? ⟨bo, 2, none⟩ = some (.int .i64 pi) ∧ w'.cell? ⟨bo, 5, none⟩ = some (.int .u64 (fa : Int)) ∧ w'.cell? ⟨bo, 6, none⟩ = some (.int .u64 (fb : Int))) (first | with_reducible exact HC8.out _ (by first | with_reducible assumption | with_reducible exact Keeps.drew (by with_reducible assumption)) | go_keep) ((go_at_call 47; (with_reducible refine (QR.out _ (by first | with_reducible assumption | with_reducible exact Keeps.drew (by with_reducible assumption))).mono ?_); rintro e w4 ⟨rfl, hk4⟩))
    clear hkB QR HC8
    have hk24 : Keeps [] w2 w4 := hk3.trans hk4 (by simp)
    have RN : Hid (∀ w5, Keeps [gb] w4 w5 → Blk w5 gb 43 (rigA z y (upd' M j (none : Option (Nat × Lk))) (upd' N j (none : Option (Nat × Lk))) A B) → Rg w0 w5 z y n gb (some (bo, #[.int .i64 20, .int .i64 mm, .int .i64 pi, .int .i64 pn, .int .i64 px, .int .u64 (fa : Int), .int .u64 (fb : Int), lv])) S1 S1 (upd' M j (none : Option (Nat × Lk))) (upd' N j (none : Option (Nat × Lk))) A B) := fun w5 hk5 hb5 => renewL (gm := []) HR3.out hk24 rfl (fun b1 x1 e => by cases e) hk5 hb5
    have hbr := HR3.out.rig.keeps hk24 (by simp)
    have cx := (Rg.cells (HR3.out.calm hk24) hj2)
    have fx := hbr.frozen (2 + j)
    have fy := hbr.frozen (4 + j)
    obtain ⟨cx, cy, -, -⟩ := cx
    have HBR := Lib.hid hbr
    clear hbr
    go_upto_region 9 with fail
    go_region
    all_goals
      go_wp2_with fail
      go_ret
      trace_state
      first
        | (have hr5 := RN.out _ (((Keeps.refl [gb] w4).setCell (p := ⟨gb, 2 + j, none⟩) (.inl (by simp)) (pv (none : Option (Nat × Lk)))).setCell (p := ⟨gb, 4 + j, none⟩) (.inl (by simp)) (pv (none : Option (Nat × Lk)))) (st2 HBR.out hj2 (none : Option (Nat × Lk)) (none : Option (Nat × Lk))); exact ⟨rfl, _, _, _, _, _, (hr5.left).calm (by first | exact Keeps.refl _ _ | exact (Keeps.refl _ _).drew | exact (Keeps.refl _ _).drewN _), HF1.out.succ, HW1.out, HC1.out, (Pair.mono HI.out.pl (fun x h => okS h)).unset j, Pair.mono HI.out.pd (fun x h => Nat.le_succ_of_le h)⟩)
        | (have hr5 := RN.out _ (((Keeps.refl [gb] w4).setCell (p := ⟨gb, 4 + j, none⟩) (.inl (by simp)) (pv (none : Option (Nat × Lk)))).setCell (p := ⟨gb, 2 + j, none⟩) (.inl (by simp)) (pv (none : Option (Nat × Lk)))) (st2' HBR.out hj2 (none : Option (Nat × Lk)) (none : Option (Nat × Lk))); exact ⟨rfl, _, _, _, _, _, (hr5.left).calm (by first | exact Keeps.refl _ _ | exact (Keeps.refl _ _).drew | exact (Keeps.refl _ _).drewN _), HF1.out.succ, HW1.out, HC1.out, (Pair.mono HI.out.pl (fun x h => okS h)).unset j, Pair.mono HI.out.pd (fun x h => Nat.le_succ_of_le h)⟩)
        | (have hr5 := RN.out _ (((Keeps.refl [gb] w4).drew.setCell (p := ⟨gb, 2 + j, none⟩) (.inl (by simp)) (pv (none : Option (Nat × Lk)))).setCell (p := ⟨gb, 4 + j, none⟩) (.inl (by simp)) (pv (none : Option (Nat × Lk)))) (st2 HBR.out.drew hj2 (none : Option (Nat × Lk)) (none : Option (Nat × Lk))); exact ⟨rfl, _, _, _, _, _, (hr5.left).calm (by first | exact Keeps.refl _ _ | exact (Keeps.refl _ _).drew | exact (Keeps.refl _ _).drewN _), HF1.out.succ, HW1.out, HC1.out, (Pair.mono HI.out.pl (fun x h => okS h)).unset j, Pair.mono HI.out.pd (fun x h => Nat.le_succ_of_le h)⟩)
        | (have hr5 := RN.out _ (((Keeps.refl [gb] w4).drew.setCell (p := ⟨gb, 4 + j, none⟩) (.inl (by simp)) (pv (none : Option (Nat × Lk)))).setCell (p := ⟨gb, 2 + j, none⟩) (.inl (by simp)) (pv (none : Option (Nat × Lk)))) (st2' HBR.out.drew hj2 (none : Option (Nat × Lk)) (none : Option (Nat × Lk))); exact ⟨rfl, _, _, _, _, _, (hr5.left).calm (by first | exact Keeps.refl _ _ | exact (Keeps.refl _ _).drew | exact (Keeps.refl _ _).drewN _), HF1.out.succ, HW1.out, HC1.out, (Pair.mono HI.out.pl (fun x h => okS h)).unset j, Pair.mono HI.out.pd (fun x h => Nat.le_succ_of_le h)⟩)
set_option maxRecDepth 100000 in
set_option maxHeartbeats 16000000 in
theorem does_doomA (hI : Ins w0 w z y n gb k cf S M N A B) (hk : k ≤ 1048576) (hn : cf.slots = (n : Int)) (n8 : n ≤ 8) (mm pi pn px : Int) (fa fb : Nat) (hsg : (⟨fa, fb⟩ : Sg).ok) (AA : Option Addr) (m c : Nat) (L : List Vc) (hL0 : L.length = m) (hn0 : m ≤ 1048576) (hc0 : m ≤ c ∧ c ≤ maxLen) (hv0 : Vs w0 AA L) (hcase : m ≠ 0) :
    Calls Tryz.prog 8 #[PT gb, .agg #[.int .i64 22, .int .i64 mm, .int .i64 pi, .int .i64 pn, .int .i64 px, .int .u64 (fa : Int), .int .u64 (fb : Int), .slice AA m c]] w fun e w' => e = .returned (.bool true) ∧ Out w0 w' z y n gb (k + 1) cf := by
  obtain ⟨j, hj⟩ : ∃ j : Nat, mm % 2 = (j : Int) := ⟨(mm % 2).toNat, by omega⟩
  have m1 : bits .and .i64 mm 1 = (j : Int) := (i64_and1 mm).trans hj
  have hj2 : j < 2 := by omega
  have j0 : (0 : Int) ≤ (j : Int) := by omega
  have j1 : (j : Int) < 2 := by omega
  have hjt : (mm % 2).toNat = j := by omega
  have HL0 := Lib.hid (And.intro hL0 (And.intro hn0 (And.intro hc0 hv0)))
  have HCASE := Lib.hid hcase
  clear hL0 hn0 hc0 hv0 hcase hjt
  clear hj
  have HI := Lib.hid hI
  have HN := Lib.hid (And.intro hn n8)
  have HK := Lib.hid hk
  have HSG := Lib.hid hsg
  have HR1 := Lib.hid (hI.rg.laid #[.int .i64 22, .int .i64 mm, .int .i64 pi, .int .i64 pn, .int .i64 px, .int .u64 (fa : Int), .int .u64 (fb : Int), .slice AA m c])
  clear hI hn n8 hk hsg
  go_enter Tryz.func8, Tryz.ntmps8
  go_upto_region 1 with fail
  obtain ⟨wa, hwa⟩ : ∃ v, w.alloc (.cells #[.int .i64 22, .int .i64 mm, .int .i64 pi, .int .i64 pn, .int .i64 px, .int .u64 (fa : Int), .int .u64 (fb : Int), .slice AA m c] 50) = v := ⟨_, rfl⟩
  obtain ⟨bo, hbo⟩ : ∃ b, w.heap.size = b := ⟨_, rfl⟩
  rw [hwa] at HR1
  rw [hbo] at HR1
  try rw [hwa]
  try rw [hbo]
  have bx := HR1.out.box
  obtain ⟨g0, g1⟩ := HR1.out.pc
  clear hwa hbo
  have d1 : wa.cell? ⟨bo, 1, none⟩ = some (.int .i64 mm) := (bx.cell 1).trans rfl
  clear bx
  go_wp2_with fail
  refine (HR1.out.turn _).mono ?_
  rintro e w1 ⟨rfl, hr2⟩
  have HR2 := Lib.hid hr2
  clear g0 g1 d1 HR1 m1
  obtain ⟨g0, g1⟩ := hr2.pc
  have yc := hr2.yc
  clear hr2
  go_wp2_with fail
  refine (HR2.out.begin _).mono ?_
  rintro e w2 ⟨rfl, hr3⟩
  have HR3 := Lib.hid hr3
  clear g0 g1 yc HR2
  have bx := hr3.box
  have d0 : w2.cell? ⟨bo, 0, none⟩ = some (.int .i64 22) := (bx.cell 0).trans rfl
  have d7 : w2.cell? ⟨bo, 7, none⟩ = some (.slice AA m c) := (bx.cell 7).trans rfl
  clear hr3 bx
  have HF1 : Hid (Fit k (S.begin j)) := HI.out.fit.begin _
  have HC1 : Hid ((S.begin j).c = cf) := HI.out.c
  have HW1 : Hid ((S.begin j).wu) := HI.out.wu
  obtain ⟨S1, hS1⟩ : ∃ v, S.begin j = v := ⟨_, rfl⟩
  rw [hS1] at HR3 HF1 HC1 HW1
  clear hS1
  have HLV : Hid (Vs w2 AA L ∧ L.length ≤ 1099511627776 ∧ (0 < L.length → ∀ u off, AA = some ⟨u, off, none⟩ → u < w0.heap.size ∨ ∃ b x vv, N j = some (b, x) ∧ Ld.At w2 y n b x vv ∧ u ∈ vblk vv ∧ off = 0 ∧ L = x.victims)) := ⟨HL0.out.2.2.2.keeps HR3.out.keep (by simp), by have := HL0.out.1; have := HL0.out.2.1; omega, fun h0 u off e => .inl (HL0.out.2.2.2.lt h0 e)⟩
  have HM := Lib.hid HL0.out.1
  have HCC := Lib.hid HL0.out.2.2.1
  have HMB : Hid (m ≤ 1099511627776) := by have := HL0.out.2.1; unfold Hid; omega
  have hz2 : ((m : Int) == 0) = false := by have := HCASE.out; simp; omega
  clear HCASE HL0
  have hH : (S1.H.length : Int) = (n : Int) := by have h1 := HF1.out.slots; rw [HC1.out] at h1; have h2 := HN.out.1; omega
  have hHn : S1.H.length = n := by omega
  have hcn : S1.c.slots = (n : Int) := by rw [HC1.out]; exact HN.out.1
  have QL : Hid (Calls Tryz.prog 48 #[.slice AA m c] w2 fun e w' => ∃ q cap, e = .returned (.slice (some ⟨q, 0, none⟩) m cap) ∧ w'.ownsRow 0 113 4 (.slice (some ⟨q, 0, none⟩) (m + 1) cap) (m + 1) (vcCells L ++ mark.cells) ∧ w2.heap.size ≤ q ∧ m + 1 ≤ cap ∧ cap ≤ maxLen ∧ Keeps [] w2 w') := by
    have h5 := lent_any w2 AA c L HLV.out.1 HLV.out.2.1
    rw [HM.out] at h5
    exact h5
  have hmi : (0 : Int) ≤ (m : Int) := by omega
  go_upto_region 15 with fail
  clear d0 d7
  go_wp2_with fail
  refine QL.out.mono ?_
  rintro e w3 ⟨q0, cap, rfl, ho, hq0, hcp, hcm, hk3⟩
  have HK3 := Lib.hid hk3
  have HO := Lib.hid ho
  have HOF := Lib.hid (own_front (m := m) ho (by rw [vcCells_len, HM.out]) (Nat.le_succ m))
  have HQ0 : Hid (w2.heap.size ≤ q0 ∧ q0 < w3.heap.size) := ⟨hq0, tyOf_lt (own_in ho q0 (by simp [vblk, Value.ownBlock]))⟩
  have HCAP := Lib.hid (And.intro hcp hcm)
  clear QL ho hq0 hcp hcm hk3 hz2
  try clear cy'
  try clear cv
  obtain ⟨F3, hsp⟩ := (HR3.out.calm HK3.out).sp
  by_cases hE : dmE n pn L = 0
  · have QN : Hid (∀ w', Keeps [] w3 w' → Calls Tryz.prog 34 #[PT z.p, .int .i64 pn, .slice (some ⟨q0, 0, none⟩) m cap] w' fun e w'' => ∃ a G, e = .returned (.tuple #[PT a, .int .i64 0]) ∧ DM w0 w'' z F3 a G (Dm.new pn L) ∧ (∀ q, q ∈ G → w3.heap.size ≤ q) ∧ Keeps [] w3 w'') := fun w' hk => by
      obtain ⟨e1, e2, e3⟩ := dmE_zero hE
      have h5 := dm_new (hsp.calm hk) HF1.out L (by rw [HM.out]; exact own_keeps HOF.out hk (by simp)) pn e1 e2 (by rw [hHn]; exact e3) HLV.out.2.1
      have hz := hk.size
      exact h5.mono fun e w'' ⟨a, G, he, h1, h2, h3⟩ => ⟨a, G, he, h1, fun q hq => Nat.le_trans hz (h2 q hq), hk.trans h3 (by simp)⟩
    have HC7 : Hid (∀ w', Keeps [] w3 w' → w'.cell? ⟨gb, 0, none⟩ = some (PT z.p) ∧ w'.cell? ⟨bo, 3, none⟩ = some (.int .i64 pn)) := fun w' hk => by
      have h := HR3.out.calm (HK3.out.trans hk (by simp))
      exact ⟨h.pc.1, (h.box.cell 3).trans rfl⟩
    have hkB : Keeps [] w3 w3 := Keeps.refl _ _
    clear hsp
    go_upto_region 16 with fail
    go_region_held3 (fun w' => w'.cell? ⟨gb, 0, none⟩ = some (PT z.p) ∧ w'.cell? ⟨bo, 3, none⟩ = some (.int .i64 pn)) (first | with_reducible exact HC7.out _ (by first | with_reducible assumption | with_reducible exact Keeps.drew (by with_reducible assumption)) | go_keep) ((go_at_call 34; (with_reducible refine (QN.out _ (by first | with_reducible assumption | with_reducible exact Keeps.drew (by with_reducible assumption))).mono ?_); rintro e w4 ⟨a, Gm, rfl, ha, hla, hk4⟩; have HA := Lib.hid (And.intro ha hla); clear ha hla))
    clear hkB
    obtain ⟨_, hrp⟩ := (HR3.out.calm (HK3.out.trans hk4 (by simp))).rp
    have QR : Hid (∀ w', Keeps [] w4 w' → Calls Tryz.prog 49 #[PT y.p, .int .i64 pn, .slice AA m c] w' fun e w'' => ∃ b, e = .returned (.tuple #[PT b, .int .i64 0]) ∧ Ld.DAt w'' y b (Dm.new pn L) AA c L (.slice none 0 0) ∧ w4.heap.size ≤ b ∧ Keeps [] w4 w'') := fun w' hk => by
      have hz := hk.size
      have h5 := newDoom (hrp.calm hk) hcn (HLV.out.1.keeps ((HK3.out.trans hk4 (by simp)).trans hk (by simp)) (by simp)) (by rw [HM.out]; exact HCC.out) HLV.out.2.1 pn
      rw [HM.out] at h5
      refine h5.mono fun e w'' ⟨g1, _, g3⟩ => ?_
      obtain ⟨b, he, g4, g5⟩ := g1 hE
      exact ⟨b, he, g4, Nat.le_trans hz g5, hk.trans g3 (by simp)⟩
    have HC8 : Hid (∀ w', Keeps [] w4 w' → w'.cell? ⟨gb, 1, none⟩ = some (PT y.p) ∧ w'.cell? ⟨bo, 3, none⟩ = some (.int .i64 pn)) := fun w' hk => by
      have h := HR3.out.calm ((HK3.out.trans hk4 (by simp)).trans hk (by simp))
      exact ⟨h.pc.2, (h.box.cell 3).trans rfl⟩
    have hkB : Keeps [] w4 w4 := Keeps.refl _ _
    clear hrp HC7 QN
    go_upto_region 17 with fail
    go_region_held3 (fun w' => w'.cell? ⟨gb, 1, none⟩ = some (PT y.p) ∧ w'.cell? ⟨bo, 3, none⟩ = some (.int .i64 pn)) (first | with_reducible exact HC8.out _ (by first | with_reducible assumption | with_reducible exact Keeps.drew (by with_reducible assumption)) | go_keep) ((go_at_call 49; (with_reducible refine (QR.out _ (by first | with_reducible assumption | with_reducible exact Keeps.drew (by with_reducible assumption))).mono ?_); rintro e w5 ⟨b, rfl, hb, hlb, hk5⟩; have HB := Lib.hid (And.intro hb hlb); clear hb hlb))
    clear hkB QR HC8
    have HK45 := Lib.hid hk4
    have HKQ : Hid (Keeps [] w2 w5) := (HK3.out.trans hk4 (by simp)).trans hk5 (by simp)
    have RN : Hid (∀ w7 w8, Keeps [q0] w5 w7 → Keeps [gb] w7 w8 → Blk w8 gb 43 (rigA z y M N (upd' A j (some (a, Dm.new pn L))) (upd' B j (some (b, Dm.new pn L)))) → Rg w0 w8 z y n gb (some (bo, #[.int .i64 22, .int .i64 mm, .int .i64 pi, .int .i64 pn, .int .i64 px, .int .u64 (fa : Int), .int .u64 (fb : Int), .slice AA m c])) S1 S1 M N (upd' A j (some (a, Dm.new pn L))) (upd' B j (some (b, Dm.new pn L)))) := fun w7 w8 hk7 hk8 hb8 => by
      have hA5 := HA.out.1.calm hk5
      have hA7 := hA5.keeps hk7 (F' := F3) (fun u hu hx => by simp at hx; have h5 := HA.out.2 u hu; have h6 := HQ0.out.2; omega) (fun u hu => .inl hu)
      refine renewD (gm := Gm) (AA := AA) (c := c) (L := L) HR3.out (HKQ.out.trans hk7 (fun u hu => .inr (by simp at hu; have := HQ0.out.1; omega))) ⟨hA7.ex, fun u hu => Nat.le_trans HK3.out.size (HA.out.2 u hu)⟩ (fun b1 x1 e => ?_) HLV.out.2.2 hk8 hb8
      injection e with e
      injection e with e1 e2
      subst e1 e2
      have h9 := HK45.out.size
      refine ⟨HB.out.1.keeps hk7 (fun hx => by simp at hx; have h5 := HB.out.2; have h6 := HQ0.out.2; omega) (by simp [vblk, Value.ownBlock]) (fun h0 u off e hx => by simp at hx; have h5 := HLV.out.1.lt h0 e; have h6 := HQ0.out.1; omega), by have h5 := HB.out.2; have h6 := HK3.out.size; omega, fun hg => by have h5 := HA.out.1.apt.lt _ hg; have h6 := HB.out.2; omega⟩
    have HO5 := Lib.hid (own_keeps HO.out (hk4.trans hk5 (by simp)) (by simp))
    obtain ⟨cs, hbq, hcs⟩ := own_blk HO5.out
    have HKB : Hid (Kb w5 q0 0 m L) := ⟨cs, hbq, fun t ht => hcs t⟩
    have HVS : Hid (∀ w', Keeps [q0] w5 w' → Vs w' AA L) := fun w' hk => (HLV.out.1.keeps HKQ.out (by simp)).keeps hk (fun h0 u off e hx => by simp at hx; have h5 := HLV.out.1.lt h0 e; have h6 := HQ0.out.1; omega)
    clear hk4 hk5 hbq hcs
    go_upto_region 18 with fail
    go_wp2_with fail
    go_loopw [16] (fun i wr => ∃ t : Nat, t ≤ m ∧ i = .int .i64 t ∧ Keeps [q0] w5 wr ∧ Kb wr q0 t m L) (fun i _ => m - (intOf i).toNat)
    case atStart => exact ⟨0, Nat.zero_le _, rfl, Keeps.refl _ _, HKB.out⟩
    case round =>
      obtain ⟨t, ht, rfl, hk, hkb⟩ := hrel
      have HKT := Lib.hid hk
      have HKBT := Lib.hid hkb
      clear hk hkb
      by_cases hlt : (t : Int) < (m : Int)
      · have t0 : (0 : Int) ≤ (t : Int) := by omega
        obtain ⟨v, hv⟩ : ∃ v, L[t]? = some v := ⟨_, List.getElem?_eq_getElem (by have := HM.out; omega)⟩
        obtain ⟨u, off, eA, hcell⟩ := HVS.out wr HKT.out (by have := HM.out; omega)
        subst eA
        obtain ⟨v0, v1, v2, v3⟩ := vc_at L t v hv
        have c0' := hcell _ _ v0
        have c1' : wr.cell? ⟨u, off + t * 4 + 1, none⟩ = some (.int .i64 v.gen) := by rw [Nat.add_assoc]; exact hcell _ _ v1
        have c2' : wr.cell? ⟨u, off + t * 4 + 2, none⟩ = some (.int .i64 v.stamp) := by rw [Nat.add_assoc]; exact hcell _ _ v2
        have c3' : wr.cell? ⟨u, off + t * 4 + 3, none⟩ = some (.int .i64 v.thread) := by rw [Nat.add_assoc]; exact hcell _ _ v3
        obtain ⟨k0, k1, k2, k3⟩ := HKBT.out.at_ HM.out (Nat.le_refl t) (by omega) hv
        have f0 := HKBT.out.fz (t * 4)
        have f1 := HKBT.out.fz (t * 4 + 1)
        have f2 := HKBT.out.fz (t * 4 + 2)
        have f3 := HKBT.out.fz (t * 4 + 3)
        have hsame := fun w => vc_same w v.slot v.gen v.stamp v.thread
        have hw : IntKind.i64.wrap ((t : Int) + 1) = (t : Int) + 1 := by have := HMB.out; rw [IntKind.wrap_i64]; omega
        have hcapt : (t : Int) < (cap : Int) := by have := HCAP.out.1; omega
        clear hv hcell v0 v1 v2 v3
        go_wp2_with fail
        go_quiet (fail)
        go_wp2_with fail
        first
          | exact ⟨⟨t + 1, by omega, by simp, kstored HKT.out _ _ _ _, HKBT.out.stored _ _ _ _⟩, by simp [intOf]; omega⟩
          | exact ⟨⟨t + 1, by omega, by simp, kstored (HKT.out.drewN _) _ _ _ _, (HKBT.out.drewN _).stored _ _ _ _⟩, by simp [intOf]; omega⟩
      · obtain rfl : t = m := by omega
        have hk2r := (HKQ.out.trans HKT.out (T := [q0]) (fun u hu => .inr (by simp at hu; have := HQ0.out.1; omega)))
        have hbr := HR3.out.rig.keeps hk2r (by simp)
        have cx := (Rg.cells (HR3.out.calm hk2r) hj2)
        have fx := hbr.frozen (6 + j)
        have fy := hbr.frozen (8 + j)
        obtain ⟨-, -, cx, cy⟩ := cx
        obtain ⟨k0, k1, k2, k3⟩ := HKBT.out.last HM.out
        have hgq : gb ≠ q0 := fun e => by have h5 := HR3.out.rig.lt; have h6 := HQ0.out.1; omega
        have HBR := Lib.hid hbr
        have hmk : ∀ w, (Op.equalIn 10000 113 (.agg #[.int .i64 (-77), .int .i64 0, .int .i64 0, .int .i64 0]) (.agg #[.int .i64 (-77), .int .i64 0, .int .i64 0, .int .i64 0])).run Tryz.prog w = .ok true w := fun w => vc_same w _ _ _ _
        have s1 : ((t : Int) + 1) ≤ (cap : Int) := by have := HCAP.out.1; omega
        have s2 : (0 : Int) ≤ (t : Int) + 1 := by omega
        have s3 : (t : Int) < (t : Int) + 1 := by omega
        have s4 : (0 : Int) ≤ (t : Int) := by omega
        have s5 : IntKind.i64.wrap ((t : Int) + 1) = (t : Int) + 1 := by have := HMB.out; rw [IntKind.wrap_i64]; omega
        clear hbr hlt hk2r
        go_upto_region 24 with fail
        go_region
        all_goals
          go_wp2_with fail
          go_ret
          first
            | (have hr5 := RN.out _ _ HKT.out (((Keeps.refl [gb] wr).setCell (p := ⟨gb, 6 + j, none⟩) (.inl (by simp)) (pv (some (a, Dm.new pn L)))).setCell (p := ⟨gb, 8 + j, none⟩) (.inl (by simp)) (pv (some (b, Dm.new pn L)))) (st2d HBR.out hj2 (some (a, Dm.new pn L)) (some (b, Dm.new pn L))); exact ⟨rfl, _, _, _, _, _, (hr5.left).calm (by first | exact Keeps.refl _ _ | exact (Keeps.refl _ _).drew | exact (Keeps.refl _ _).drewN _), HF1.out.succ, HW1.out, HC1.out, Pair.mono HI.out.pl (fun x h => okS h), PR.Pair.set (Pair.mono HI.out.pd (fun x h => Nat.le_succ_of_le h)) j (by show ([] : List Vc).length ≤ k + 1; simp)⟩)
            | (have hr5 := RN.out _ _ HKT.out (((Keeps.refl [gb] wr).setCell (p := ⟨gb, 8 + j, none⟩) (.inl (by simp)) (pv (some (b, Dm.new pn L)))).setCell (p := ⟨gb, 6 + j, none⟩) (.inl (by simp)) (pv (some (a, Dm.new pn L)))) (st2d' HBR.out hj2 (some (a, Dm.new pn L)) (some (b, Dm.new pn L))); exact ⟨rfl, _, _, _, _, _, (hr5.left).calm (by first | exact Keeps.refl _ _ | exact (Keeps.refl _ _).drew | exact (Keeps.refl _ _).drewN _), HF1.out.succ, HW1.out, HC1.out, Pair.mono HI.out.pl (fun x h => okS h), PR.Pair.set (Pair.mono HI.out.pd (fun x h => Nat.le_succ_of_le h)) j (by show ([] : List Vc).length ≤ k + 1; simp)⟩)
            | (have hr5 := RN.out _ _ HKT.out (((Keeps.refl [gb] wr).drew.setCell (p := ⟨gb, 6 + j, none⟩) (.inl (by simp)) (pv (some (a, Dm.new pn L)))).setCell (p := ⟨gb, 8 + j, none⟩) (.inl (by simp)) (pv (some (b, Dm.new pn L)))) (st2d HBR.out.drew hj2 (some (a, Dm.new pn L)) (some (b, Dm.new pn L))); exact ⟨rfl, _, _, _, _, _, (hr5.left).calm (by first | exact Keeps.refl _ _ | exact (Keeps.refl _ _).drew | exact (Keeps.refl _ _).drewN _), HF1.out.succ, HW1.out, HC1.out, Pair.mono HI.out.pl (fun x h => okS h), PR.Pair.set (Pair.mono HI.out.pd (fun x h => Nat.le_succ_of_le h)) j (by show ([] : List Vc).length ≤ k + 1; simp)⟩)
            | (have hr5 := RN.out _ _ HKT.out (((Keeps.refl [gb] wr).drew.setCell (p := ⟨gb, 8 + j, none⟩) (.inl (by simp)) (pv (some (b, Dm.new pn L)))).setCell (p := ⟨gb, 6 + j, none⟩) (.inl (by simp)) (pv (some (a, Dm.new pn L)))) (st2d' HBR.out.drew hj2 (some (a, Dm.new pn L)) (some (b, Dm.new pn L))); exact ⟨rfl, _, _, _, _, _, (hr5.left).calm (by first | exact Keeps.refl _ _ | exact (Keeps.refl _ _).drew | exact (Keeps.refl _ _).drewN _), HF1.out.succ, HW1.out, HC1.out, Pair.mono HI.out.pl (fun x h => okS h), PR.Pair.set (Pair.mono HI.out.pd (fun x h => Nat.le_succ_of_le h)) j (by show ([] : List Vc).length ≤ k + 1; simp)⟩)
  · have QN : Hid (∀ w', Keeps [] w3 w' → Calls Tryz.prog 34 #[PT z.p, .int .i64 pn, .slice (some ⟨q0, 0, none⟩) m cap] w' fun e w'' => e = .returned (.tuple #[.pointer none, .int .i64 (dmE n pn L)]) ∧ Keeps [] w3 w'') := fun w' hk => by
      have h5 := dm_new_no (hsp.calm hk) HF1.out L (vv := .slice (some ⟨q0, 0, none⟩) m cap) (by rw [HM.out]; exact own_keeps HOF.out hk (by simp)) pn (by rw [hHn]; exact hE) HLV.out.2.1
      rw [hHn] at h5
      exact h5.mono fun e w'' ⟨he, h3⟩ => ⟨he, hk.trans h3 (by simp)⟩
    have HC7 : Hid (∀ w', Keeps [] w3 w' → w'.cell? ⟨gb, 0, none⟩ = some (PT z.p) ∧ w'.cell? ⟨bo, 3, none⟩ = some (.int .i64 pn)) := fun w' hk => by
      have h := HR3.out.calm (HK3.out.trans hk (by simp))
      exact ⟨h.pc.1, (h.box.cell 3).trans rfl⟩
    have hkB : Keeps [] w3 w3 := Keeps.refl _ _
    clear hsp
    go_upto_region 16 with fail
    go_region_held3 (fun w' => w'.cell? ⟨gb, 0, none⟩ = some (PT z.p) ∧ w'.cell? ⟨bo, 3, none⟩ = some (.int .i64 pn)) (first | with_reducible exact HC7.out _ (by first | with_reducible assumption | with_reducible exact Keeps.drew (by with_reducible assumption)) | go_keep) ((go_at_call 34; (with_reducible refine (QN.out _ (by first | with_reducible assumption | with_reducible exact Keeps.drew (by with_reducible assumption))).mono ?_); rintro e w4 ⟨rfl, hk4⟩))
    clear hkB
    obtain ⟨_, hrp⟩ := (HR3.out.calm (HK3.out.trans hk4 (by simp))).rp
    have QR : Hid (∀ w', Keeps [] w4 w' → Calls Tryz.prog 49 #[PT y.p, .int .i64 pn, .slice AA m c] w' fun e w'' => e = .returned (.tuple #[.pointer none, .int .i64 (dmE n pn L)]) ∧ Keeps [] w4 w'') := fun w' hk => by
      have h5 := newDoom (hrp.calm hk) hcn (HLV.out.1.keeps ((HK3.out.trans hk4 (by simp)).trans hk (by simp)) (by simp)) (by rw [HM.out]; exact HCC.out) HLV.out.2.1 pn
      rw [HM.out] at h5
      exact h5.mono fun e w'' ⟨_, g2, g3⟩ => ⟨g2 hE, hk.trans g3 (by simp)⟩
    have HC8 : Hid (∀ w', Keeps [] w4 w' → w'.cell? ⟨gb, 1, none⟩ = some (PT y.p) ∧ w'.cell? ⟨bo, 3, none⟩ = some (.int .i64 pn)) := fun w' hk => by
      have h := HR3.out.calm ((HK3.out.trans hk4 (by simp)).trans hk (by simp))
      exact ⟨h.pc.2, (h.box.cell 3).trans rfl⟩
    have hkB : Keeps [] w4 w4 := Keeps.refl _ _
    clear hrp HC7 QN
    go_upto_region 17 with fail
    go_region_held3 (fun w' => w'.cell? ⟨gb, 1, none⟩ = some (PT y.p) ∧ w'.cell? ⟨bo, 3, none⟩ = some (.int .i64 pn)) (first | with_reducible exact HC8.out _ (by first | with_reducible assumption | with_reducible exact Keeps.drew (by with_reducible assumption)) | go_keep) ((go_at_call 49; (with_reducible refine (QR.out _ (by first | with_reducible assumption | with_reducible exact Keeps.drew (by with_reducible assumption))).mono ?_); rintro e w5 ⟨rfl, hk5⟩))
    clear hkB QR HC8
    have HK45 := Lib.hid hk4
    have HKQ : Hid (Keeps [] w2 w5) := (HK3.out.trans hk4 (by simp)).trans hk5 (by simp)
    have RN : Hid (∀ w7 w8, Keeps [q0] w5 w7 → Keeps [gb] w7 w8 → Blk w8 gb 43 (rigA z y M N (upd' A j (none : Option (Nat × Dm))) (upd' B j (none : Option (Nat × Dm)))) → Rg w0 w8 z y n gb (some (bo, #[.int .i64 22, .int .i64 mm, .int .i64 pi, .int .i64 pn, .int .i64 px, .int .u64 (fa : Int), .int .u64 (fb : Int), .slice AA m c])) S1 S1 M N (upd' A j (none : Option (Nat × Dm))) (upd' B j (none : Option (Nat × Dm)))) := fun w7 w8 hk7 hk8 hb8 =>
      renewD (gm := []) (AA := AA) (c := c) (L := L) HR3.out (HKQ.out.trans hk7 (fun u hu => .inr (by simp at hu; have := HQ0.out.1; omega))) rfl (fun b1 x1 e => by cases e) HLV.out.2.2 hk8 hb8
    have HO5 := Lib.hid (own_keeps HO.out (hk4.trans hk5 (by simp)) (by simp))
    obtain ⟨cs, hbq, hcs⟩ := own_blk HO5.out
    have HKB : Hid (Kb w5 q0 0 m L) := ⟨cs, hbq, fun t ht => hcs t⟩
    have HVS : Hid (∀ w', Keeps [q0] w5 w' → Vs w' AA L) := fun w' hk => (HLV.out.1.keeps HKQ.out (by simp)).keeps hk (fun h0 u off e hx => by simp at hx; have h5 := HLV.out.1.lt h0 e; have h6 := HQ0.out.1; omega)
    clear hk4 hk5 hbq hcs
    go_upto_region 18 with fail
    go_wp2_with fail
    go_loopw [16] (fun i wr => ∃ t : Nat, t ≤ m ∧ i = .int .i64 t ∧ Keeps [q0] w5 wr ∧ Kb wr q0 t m L) (fun i _ => m - (intOf i).toNat)
    case atStart => exact ⟨0, Nat.zero_le _, rfl, Keeps.refl _ _, HKB.out⟩
    case round =>
      obtain ⟨t, ht, rfl, hk, hkb⟩ := hrel
      have HKT := Lib.hid hk
      have HKBT := Lib.hid hkb
      clear hk hkb
      by_cases hlt : (t : Int) < (m : Int)
      · have t0 : (0 : Int) ≤ (t : Int) := by omega
        obtain ⟨v, hv⟩ : ∃ v, L[t]? = some v := ⟨_, List.getElem?_eq_getElem (by have := HM.out; omega)⟩
        obtain ⟨u, off, eA, hcell⟩ := HVS.out wr HKT.out (by have := HM.out; omega)
        subst eA
        obtain ⟨v0, v1, v2, v3⟩ := vc_at L t v hv
        have c0' := hcell _ _ v0
        have c1' : wr.cell? ⟨u, off + t * 4 + 1, none⟩ = some (.int .i64 v.gen) := by rw [Nat.add_assoc]; exact hcell _ _ v1
        have c2' : wr.cell? ⟨u, off + t * 4 + 2, none⟩ = some (.int .i64 v.stamp) := by rw [Nat.add_assoc]; exact hcell _ _ v2
        have c3' : wr.cell? ⟨u, off + t * 4 + 3, none⟩ = some (.int .i64 v.thread) := by rw [Nat.add_assoc]; exact hcell _ _ v3
        obtain ⟨k0, k1, k2, k3⟩ := HKBT.out.at_ HM.out (Nat.le_refl t) (by omega) hv
        have f0 := HKBT.out.fz (t * 4)
        have f1 := HKBT.out.fz (t * 4 + 1)
        have f2 := HKBT.out.fz (t * 4 + 2)
        have f3 := HKBT.out.fz (t * 4 + 3)
        have hsame := fun w => vc_same w v.slot v.gen v.stamp v.thread
        have hw : IntKind.i64.wrap ((t : Int) + 1) = (t : Int) + 1 := by have := HMB.out; rw [IntKind.wrap_i64]; omega
        have hcapt : (t : Int) < (cap : Int) := by have := HCAP.out.1; omega
        clear hv hcell v0 v1 v2 v3
        go_wp2_with fail
        go_quiet (fail)
        go_wp2_with fail
        first
          | exact ⟨⟨t + 1, by omega, by simp, kstored HKT.out _ _ _ _, HKBT.out.stored _ _ _ _⟩, by simp [intOf]; omega⟩
          | exact ⟨⟨t + 1, by omega, by simp, kstored (HKT.out.drewN _) _ _ _ _, (HKBT.out.drewN _).stored _ _ _ _⟩, by simp [intOf]; omega⟩
      · obtain rfl : t = m := by omega
        have hk2r := (HKQ.out.trans HKT.out (T := [q0]) (fun u hu => .inr (by simp at hu; have := HQ0.out.1; omega)))
        have hbr := HR3.out.rig.keeps hk2r (by simp)
        have cx := (Rg.cells (HR3.out.calm hk2r) hj2)
        have fx := hbr.frozen (6 + j)
        have fy := hbr.frozen (8 + j)
        obtain ⟨-, -, cx, cy⟩ := cx
        obtain ⟨k0, k1, k2, k3⟩ := HKBT.out.last HM.out
        have hgq : gb ≠ q0 := fun e => by have h5 := HR3.out.rig.lt; have h6 := HQ0.out.1; omega
        have HBR := Lib.hid hbr
        have hmk : ∀ w, (Op.equalIn 10000 113 (.agg #[.int .i64 (-77), .int .i64 0, .int .i64 0, .int .i64 0]) (.agg #[.int .i64 (-77), .int .i64 0, .int .i64 0, .int .i64 0])).run Tryz.prog w = .ok true w := fun w => vc_same w _ _ _ _
        have s1 : ((t : Int) + 1) ≤ (cap : Int) := by have := HCAP.out.1; omega
        have s2 : (0 : Int) ≤ (t : Int) + 1 := by omega
        have s3 : (t : Int) < (t : Int) + 1 := by omega
        have s4 : (0 : Int) ≤ (t : Int) := by omega
        have s5 : IntKind.i64.wrap ((t : Int) + 1) = (t : Int) + 1 := by have := HMB.out; rw [IntKind.wrap_i64]; omega
        clear hbr hlt hk2r
        go_upto_region 24 with fail
        go_region
        all_goals
          go_wp2_with fail
          go_ret
          first
            | (have hr5 := RN.out _ _ HKT.out (((Keeps.refl [gb] wr).setCell (p := ⟨gb, 6 + j, none⟩) (.inl (by simp)) (pv (none : Option (Nat × Dm)))).setCell (p := ⟨gb, 8 + j, none⟩) (.inl (by simp)) (pv (none : Option (Nat × Dm)))) (st2d HBR.out hj2 (none : Option (Nat × Dm)) (none : Option (Nat × Dm))); exact ⟨rfl, _, _, _, _, _, (hr5.left).calm (by first | exact Keeps.refl _ _ | exact (Keeps.refl _ _).drew | exact (Keeps.refl _ _).drewN _), HF1.out.succ, HW1.out, HC1.out, Pair.mono HI.out.pl (fun x h => okS h), (Pair.mono HI.out.pd (fun x h => Nat.le_succ_of_le h)).unset j⟩)
            | (have hr5 := RN.out _ _ HKT.out (((Keeps.refl [gb] wr).setCell (p := ⟨gb, 8 + j, none⟩) (.inl (by simp)) (pv (none : Option (Nat × Dm)))).setCell (p := ⟨gb, 6 + j, none⟩) (.inl (by simp)) (pv (none : Option (Nat × Dm)))) (st2d' HBR.out hj2 (none : Option (Nat × Dm)) (none : Option (Nat × Dm))); exact ⟨rfl, _, _, _, _, _, (hr5.left).calm (by first | exact Keeps.refl _ _ | exact (Keeps.refl _ _).drew | exact (Keeps.refl _ _).drewN _), HF1.out.succ, HW1.out, HC1.out, Pair.mono HI.out.pl (fun x h => okS h), (Pair.mono HI.out.pd (fun x h => Nat.le_succ_of_le h)).unset j⟩)
            | (have hr5 := RN.out _ _ HKT.out (((Keeps.refl [gb] wr).drew.setCell (p := ⟨gb, 6 + j, none⟩) (.inl (by simp)) (pv (none : Option (Nat × Dm)))).setCell (p := ⟨gb, 8 + j, none⟩) (.inl (by simp)) (pv (none : Option (Nat × Dm)))) (st2d HBR.out.drew hj2 (none : Option (Nat × Dm)) (none : Option (Nat × Dm))); exact ⟨rfl, _, _, _, _, _, (hr5.left).calm (by first | exact Keeps.refl _ _ | exact (Keeps.refl _ _).drew | exact (Keeps.refl _ _).drewN _), HF1.out.succ, HW1.out, HC1.out, Pair.mono HI.out.pl (fun x h => okS h), (Pair.mono HI.out.pd (fun x h => Nat.le_succ_of_le h)).unset j⟩)
            | (have hr5 := RN.out _ _ HKT.out (((Keeps.refl [gb] wr).drew.setCell (p := ⟨gb, 8 + j, none⟩) (.inl (by simp)) (pv (none : Option (Nat × Dm)))).setCell (p := ⟨gb, 6 + j, none⟩) (.inl (by simp)) (pv (none : Option (Nat × Dm)))) (st2d' HBR.out.drew hj2 (none : Option (Nat × Dm)) (none : Option (Nat × Dm))); exact ⟨rfl, _, _, _, _, _, (hr5.left).calm (by first | exact Keeps.refl _ _ | exact (Keeps.refl _ _).drew | exact (Keeps.refl _ _).drewN _), HF1.out.succ, HW1.out, HC1.out, Pair.mono HI.out.pl (fun x h => okS h), (Pair.mono HI.out.pd (fun x h => Nat.le_succ_of_le h)).unset j⟩)
set_option maxRecDepth 100000 in
set_option maxHeartbeats 16000000 in
theorem does_doomN (hI : Ins w0 w z y n gb k cf S M N A B) (hk : k ≤ 1048576) (hn : cf.slots = (n : Int)) (n8 : n ≤ 8) (mm pi pn px : Int) (fa fb : Nat) (hsg : (⟨fa, fb⟩ : Sg).ok) (AA : Option Addr) (m c : Nat) (L : List Vc) (hL0 : L.length = m) (hn0 : m ≤ 1048576) (hc0 : m ≤ c ∧ c ≤ maxLen) (hv0 : Vs w0 AA L) (hcase : m = 0 ∧ N (mm % 2).toNat = none) :
    Calls Tryz.prog 8 #[PT gb, .agg #[.int .i64 22, .int .i64 mm, .int .i64 pi, .int .i64 pn, .int .i64 px, .int .u64 (fa : Int), .int .u64 (fb : Int), .slice AA m c]] w fun e w' => e = .returned (.bool true) ∧ Out w0 w' z y n gb (k + 1) cf := by
  obtain ⟨j, hj⟩ : ∃ j : Nat, mm % 2 = (j : Int) := ⟨(mm % 2).toNat, by omega⟩
  have m1 : bits .and .i64 mm 1 = (j : Int) := (i64_and1 mm).trans hj
  have hj2 : j < 2 := by omega
  have j0 : (0 : Int) ≤ (j : Int) := by omega
  have j1 : (j : Int) < 2 := by omega
  have hjt : (mm % 2).toNat = j := by omega
  rw [hjt] at hcase
  have HL0 := Lib.hid (And.intro hL0 (And.intro hn0 (And.intro hc0 hv0)))
  have HCASE := Lib.hid hcase
  clear hL0 hn0 hc0 hv0 hcase hjt
  clear hj
  have HI := Lib.hid hI
  have HN := Lib.hid (And.intro hn n8)
  have HK := Lib.hid hk
  have HSG := Lib.hid hsg
  have HR1 := Lib.hid (hI.rg.laid #[.int .i64 22, .int .i64 mm, .int .i64 pi, .int .i64 pn, .int .i64 px, .int .u64 (fa : Int), .int .u64 (fb : Int), .slice AA m c])
  clear hI hn n8 hk hsg
  go_enter Tryz.func8, Tryz.ntmps8
  go_upto_region 1 with fail
  obtain ⟨wa, hwa⟩ : ∃ v, w.alloc (.cells #[.int .i64 22, .int .i64 mm, .int .i64 pi, .int .i64 pn, .int .i64 px, .int .u64 (fa : Int), .int .u64 (fb : Int), .slice AA m c] 50) = v := ⟨_, rfl⟩
  obtain ⟨bo, hbo⟩ : ∃ b, w.heap.size = b := ⟨_, rfl⟩
  rw [hwa] at HR1
  rw [hbo] at HR1
  try rw [hwa]
  try rw [hbo]
  have bx := HR1.out.box
  obtain ⟨g0, g1⟩ := HR1.out.pc
  clear hwa hbo
  have d1 : wa.cell? ⟨bo, 1, none⟩ = some (.int .i64 mm) := (bx.cell 1).trans rfl
  clear bx
  go_wp2_with fail
  refine (HR1.out.turn _).mono ?_
  rintro e w1 ⟨rfl, hr2⟩
  have HR2 := Lib.hid hr2
  clear g0 g1 d1 HR1 m1
  obtain ⟨g0, g1⟩ := hr2.pc
  have yc := hr2.yc
  clear hr2
  go_wp2_with fail
  refine (HR2.out.begin _).mono ?_
  rintro e w2 ⟨rfl, hr3⟩
  have HR3 := Lib.hid hr3
  clear g0 g1 yc HR2
  have bx := hr3.box
  have d0 : w2.cell? ⟨bo, 0, none⟩ = some (.int .i64 22) := (bx.cell 0).trans rfl
  have d7 : w2.cell? ⟨bo, 7, none⟩ = some (.slice AA m c) := (bx.cell 7).trans rfl
  clear hr3 bx
  have HF1 : Hid (Fit k (S.begin j)) := HI.out.fit.begin _
  have HC1 : Hid ((S.begin j).c = cf) := HI.out.c
  have HW1 : Hid ((S.begin j).wu) := HI.out.wu
  obtain ⟨S1, hS1⟩ : ∃ v, S.begin j = v := ⟨_, rfl⟩
  rw [hS1] at HR3 HF1 HC1 HW1
  clear hS1
  have HLV : Hid (Vs w2 AA L ∧ L.length ≤ 1099511627776 ∧ (0 < L.length → ∀ u off, AA = some ⟨u, off, none⟩ → u < w0.heap.size ∨ ∃ b x vv, N j = some (b, x) ∧ Ld.At w2 y n b x vv ∧ u ∈ vblk vv ∧ off = 0 ∧ L = x.victims)) := ⟨HL0.out.2.2.2.keeps HR3.out.keep (by simp), by have := HL0.out.1; have := HL0.out.2.1; omega, fun h0 u off e => .inl (HL0.out.2.2.2.lt h0 e)⟩
  have HM := Lib.hid HL0.out.1
  have HCC := Lib.hid HL0.out.2.2.1
  have HMB : Hid (m ≤ 1099511627776) := by have := HL0.out.2.1; unfold Hid; omega
  have cy := (HR3.out.cells hj2).2.1
  rw [HCASE.out.2] at cy
  have cy' : w2.cell? ⟨gb, 4 + j, none⟩ = some (.pointer none) := cy
  clear cy
  have hz2 : ((m : Int) == 0) = true := by have := HCASE.out.1; simp; omega
  clear HCASE HL0
  have hH : (S1.H.length : Int) = (n : Int) := by have h1 := HF1.out.slots; rw [HC1.out] at h1; have h2 := HN.out.1; omega
  have hHn : S1.H.length = n := by omega
  have hcn : S1.c.slots = (n : Int) := by rw [HC1.out]; exact HN.out.1
  have QL : Hid (Calls Tryz.prog 48 #[.slice AA m c] w2 fun e w' => ∃ q cap, e = .returned (.slice (some ⟨q, 0, none⟩) m cap) ∧ w'.ownsRow 0 113 4 (.slice (some ⟨q, 0, none⟩) (m + 1) cap) (m + 1) (vcCells L ++ mark.cells) ∧ w2.heap.size ≤ q ∧ m + 1 ≤ cap ∧ cap ≤ maxLen ∧ Keeps [] w2 w') := by
    have h5 := lent_any w2 AA c L HLV.out.1 HLV.out.2.1
    rw [HM.out] at h5
    exact h5
  have hmi : (0 : Int) ≤ (m : Int) := by omega
  go_upto_region 15 with fail
  clear d0 d7
  go_wp2_with fail
  refine QL.out.mono ?_
  rintro e w3 ⟨q0, cap, rfl, ho, hq0, hcp, hcm, hk3⟩
  have HK3 := Lib.hid hk3
  have HO := Lib.hid ho
  have HOF := Lib.hid (own_front (m := m) ho (by rw [vcCells_len, HM.out]) (Nat.le_succ m))
  have HQ0 : Hid (w2.heap.size ≤ q0 ∧ q0 < w3.heap.size) := ⟨hq0, tyOf_lt (own_in ho q0 (by simp [vblk, Value.ownBlock]))⟩
  have HCAP := Lib.hid (And.intro hcp hcm)
  clear QL ho hq0 hcp hcm hk3 hz2
  try clear cy'
  try clear cv
  obtain ⟨F3, hsp⟩ := (HR3.out.calm HK3.out).sp
  by_cases hE : dmE n pn L = 0
  · have QN : Hid (∀ w', Keeps [] w3 w' → Calls Tryz.prog 34 #[PT z.p, .int .i64 pn, .slice (some ⟨q0, 0, none⟩) m cap] w' fun e w'' => ∃ a G, e = .returned (.tuple #[PT a, .int .i64 0]) ∧ DM w0 w'' z F3 a G (Dm.new pn L) ∧ (∀ q, q ∈ G → w3.heap.size ≤ q) ∧ Keeps [] w3 w'') := fun w' hk => by
      obtain ⟨e1, e2, e3⟩ := dmE_zero hE
      have h5 := dm_new (hsp.calm hk) HF1.out L (by rw [HM.out]; exact own_keeps HOF.out hk (by simp)) pn e1 e2 (by rw [hHn]; exact e3) HLV.out.2.1
      have hz := hk.size
      exact h5.mono fun e w'' ⟨a, G, he, h1, h2, h3⟩ => ⟨a, G, he, h1, fun q hq => Nat.le_trans hz (h2 q hq), hk.trans h3 (by simp)⟩
    have HC7 : Hid (∀ w', Keeps [] w3 w' → w'.cell? ⟨gb, 0, none⟩ = some (PT z.p) ∧ w'.cell? ⟨bo, 3, none⟩ = some (.int .i64 pn)) := fun w' hk => by
      have h := HR3.out.calm (HK3.out.trans hk (by simp))
      exact ⟨h.pc.1, (h.box.cell 3).trans rfl⟩
    have hkB : Keeps [] w3 w3 := Keeps.refl _ _
    clear hsp
    go_upto_region 16 with fail
    go_region_held3 (fun w' => w'.cell? ⟨gb, 0, none⟩ = some (PT z.p) ∧ w'.cell? ⟨bo, 3, none⟩ = some (.int .i64 pn)) (first | with_reducible exact HC7.out _ (by first | with_reducible assumption | with_reducible exact Keeps.drew (by with_reducible assumption)) | go_keep) ((go_at_call 34; (with_reducible refine (QN.out _ (by first | with_reducible assumption | with_reducible exact Keeps.drew (by with_reducible assumption))).mono ?_); rintro e w4 ⟨a, Gm, rfl, ha, hla, hk4⟩; have HA := Lib.hid (And.intro ha hla); clear ha hla))
    clear hkB
    obtain ⟨_, hrp⟩ := (HR3.out.calm (HK3.out.trans hk4 (by simp))).rp
    have QR : Hid (∀ w', Keeps [] w4 w' → Calls Tryz.prog 49 #[PT y.p, .int .i64 pn, .slice AA m c] w' fun e w'' => ∃ b, e = .returned (.tuple #[PT b, .int .i64 0]) ∧ Ld.DAt w'' y b (Dm.new pn L) AA c L (.slice none 0 0) ∧ w4.heap.size ≤ b ∧ Keeps [] w4 w'') := fun w' hk => by
      have hz := hk.size
      have h5 := newDoom (hrp.calm hk) hcn (HLV.out.1.keeps ((HK3.out.trans hk4 (by simp)).trans hk (by simp)) (by simp)) (by rw [HM.out]; exact HCC.out) HLV.out.2.1 pn
      rw [HM.out] at h5
      refine h5.mono fun e w'' ⟨g1, _, g3⟩ => ?_
      obtain ⟨b, he, g4, g5⟩ := g1 hE
      exact ⟨b, he, g4, Nat.le_trans hz g5, hk.trans g3 (by simp)⟩
    have HC8 : Hid (∀ w', Keeps [] w4 w' → w'.cell? ⟨gb, 1, none⟩ = some (PT y.p) ∧ w'.cell? ⟨bo, 3, none⟩ = some (.int .i64 pn)) := fun w' hk => by
      have h := HR3.out.calm ((HK3.out.trans hk4 (by simp)).trans hk (by simp))
      exact ⟨h.pc.2, (h.box.cell 3).trans rfl⟩
    have hkB : Keeps [] w4 w4 := Keeps.refl _ _
    clear hrp HC7 QN
    go_upto_region 17 with fail
    go_region_held3 (fun w' => w'.cell? ⟨gb, 1, none⟩ = some (PT y.p) ∧ w'.cell? ⟨bo, 3, none⟩ = some (.int .i64 pn)) (first | with_reducible exact HC8.out _ (by first | with_reducible assumption | with_reducible exact Keeps.drew (by with_reducible assumption)) | go_keep) ((go_at_call 49; (with_reducible refine (QR.out _ (by first | with_reducible assumption | with_reducible exact Keeps.drew (by with_reducible assumption))).mono ?_); rintro e w5 ⟨b, rfl, hb, hlb, hk5⟩; have HB := Lib.hid (And.intro hb hlb); clear hb hlb))
    clear hkB QR HC8
    have HK45 := Lib.hid hk4
    have HKQ : Hid (Keeps [] w2 w5) := (HK3.out.trans hk4 (by simp)).trans hk5 (by simp)
    have RN : Hid (∀ w7 w8, Keeps [q0] w5 w7 → Keeps [gb] w7 w8 → Blk w8 gb 43 (rigA z y M N (upd' A j (some (a, Dm.new pn L))) (upd' B j (some (b, Dm.new pn L)))) → Rg w0 w8 z y n gb (some (bo, #[.int .i64 22, .int .i64 mm, .int .i64 pi, .int .i64 pn, .int .i64 px, .int .u64 (fa : Int), .int .u64 (fb : Int), .slice AA m c])) S1 S1 M N (upd' A j (some (a, Dm.new pn L))) (upd' B j (some (b, Dm.new pn L)))) := fun w7 w8 hk7 hk8 hb8 => by
      have hA5 := HA.out.1.calm hk5
      have hA7 := hA5.keeps hk7 (F' := F3) (fun u hu hx => by simp at hx; have h5 := HA.out.2 u hu; have h6 := HQ0.out.2; omega) (fun u hu => .inl hu)
      refine renewD (gm := Gm) (AA := AA) (c := c) (L := L) HR3.out (HKQ.out.trans hk7 (fun u hu => .inr (by simp at hu; have := HQ0.out.1; omega))) ⟨hA7.ex, fun u hu => Nat.le_trans HK3.out.size (HA.out.2 u hu)⟩ (fun b1 x1 e => ?_) HLV.out.2.2 hk8 hb8
      injection e with e
      injection e with e1 e2
      subst e1 e2
      have h9 := HK45.out.size
      refine ⟨HB.out.1.keeps hk7 (fun hx => by simp at hx; have h5 := HB.out.2; have h6 := HQ0.out.2; omega) (by simp [vblk, Value.ownBlock]) (fun h0 u off e hx => by simp at hx; have h5 := HLV.out.1.lt h0 e; have h6 := HQ0.out.1; omega), by have h5 := HB.out.2; have h6 := HK3.out.size; omega, fun hg => by have h5 := HA.out.1.apt.lt _ hg; have h6 := HB.out.2; omega⟩
    have HO5 := Lib.hid (own_keeps HO.out (hk4.trans hk5 (by simp)) (by simp))
    obtain ⟨cs, hbq, hcs⟩ := own_blk HO5.out
    have HKB : Hid (Kb w5 q0 0 m L) := ⟨cs, hbq, fun t ht => hcs t⟩
    have HVS : Hid (∀ w', Keeps [q0] w5 w' → Vs w' AA L) := fun w' hk => (HLV.out.1.keeps HKQ.out (by simp)).keeps hk (fun h0 u off e hx => by simp at hx; have h5 := HLV.out.1.lt h0 e; have h6 := HQ0.out.1; omega)
    clear hk4 hk5 hbq hcs
    go_upto_region 18 with fail
    go_wp2_with fail
    go_loopw [16] (fun i wr => ∃ t : Nat, t ≤ m ∧ i = .int .i64 t ∧ Keeps [q0] w5 wr ∧ Kb wr q0 t m L) (fun i _ => m - (intOf i).toNat)
    case atStart => exact ⟨0, Nat.zero_le _, rfl, Keeps.refl _ _, HKB.out⟩
    case round =>
      obtain ⟨t, ht, rfl, hk, hkb⟩ := hrel
      have HKT := Lib.hid hk
      have HKBT := Lib.hid hkb
      clear hk hkb
      by_cases hlt : (t : Int) < (m : Int)
      · have t0 : (0 : Int) ≤ (t : Int) := by omega
        obtain ⟨v, hv⟩ : ∃ v, L[t]? = some v := ⟨_, List.getElem?_eq_getElem (by have := HM.out; omega)⟩
        obtain ⟨u, off, eA, hcell⟩ := HVS.out wr HKT.out (by have := HM.out; omega)
        subst eA
        obtain ⟨v0, v1, v2, v3⟩ := vc_at L t v hv
        have c0' := hcell _ _ v0
        have c1' : wr.cell? ⟨u, off + t * 4 + 1, none⟩ = some (.int .i64 v.gen) := by rw [Nat.add_assoc]; exact hcell _ _ v1
        have c2' : wr.cell? ⟨u, off + t * 4 + 2, none⟩ = some (.int .i64 v.stamp) := by rw [Nat.add_assoc]; exact hcell _ _ v2
        have c3' : wr.cell? ⟨u, off + t * 4 + 3, none⟩ = some (.int .i64 v.thread) := by rw [Nat.add_assoc]; exact hcell _ _ v3
        obtain ⟨k0, k1, k2, k3⟩ := HKBT.out.at_ HM.out (Nat.le_refl t) (by omega) hv
        have f0 := HKBT.out.fz (t * 4)
        have f1 := HKBT.out.fz (t * 4 + 1)
        have f2 := HKBT.out.fz (t * 4 + 2)
        have f3 := HKBT.out.fz (t * 4 + 3)
        have hsame := fun w => vc_same w v.slot v.gen v.stamp v.thread
        have hw : IntKind.i64.wrap ((t : Int) + 1) = (t : Int) + 1 := by have := HMB.out; rw [IntKind.wrap_i64]; omega
        have hcapt : (t : Int) < (cap : Int) := by have := HCAP.out.1; omega
        clear hv hcell v0 v1 v2 v3
        go_wp2_with fail
        go_quiet (fail)
        go_wp2_with fail
        first
          | exact ⟨⟨t + 1, by omega, by simp, kstored HKT.out _ _ _ _, HKBT.out.stored _ _ _ _⟩, by simp [intOf]; omega⟩
          | exact ⟨⟨t + 1, by omega, by simp, kstored (HKT.out.drewN _) _ _ _ _, (HKBT.out.drewN _).stored _ _ _ _⟩, by simp [intOf]; omega⟩
      · obtain rfl : t = m := by omega
        have hk2r := (HKQ.out.trans HKT.out (T := [q0]) (fun u hu => .inr (by simp at hu; have := HQ0.out.1; omega)))
        have hbr := HR3.out.rig.keeps hk2r (by simp)
        have cx := (Rg.cells (HR3.out.calm hk2r) hj2)
        have fx := hbr.frozen (6 + j)
        have fy := hbr.frozen (8 + j)
        obtain ⟨-, -, cx, cy⟩ := cx
        obtain ⟨k0, k1, k2, k3⟩ := HKBT.out.last HM.out
        have hgq : gb ≠ q0 := fun e => by have h5 := HR3.out.rig.lt; have h6 := HQ0.out.1; omega
        have HBR := Lib.hid hbr
        have hmk : ∀ w, (Op.equalIn 10000 113 (.agg #[.int .i64 (-77), .int .i64 0, .int .i64 0, .int .i64 0]) (.agg #[.int .i64 (-77), .int .i64 0, .int .i64 0, .int .i64 0])).run Tryz.prog w = .ok true w := fun w => vc_same w _ _ _ _
        have s1 : ((t : Int) + 1) ≤ (cap : Int) := by have := HCAP.out.1; omega
        have s2 : (0 : Int) ≤ (t : Int) + 1 := by omega
        have s3 : (t : Int) < (t : Int) + 1 := by omega
        have s4 : (0 : Int) ≤ (t : Int) := by omega
        have s5 : IntKind.i64.wrap ((t : Int) + 1) = (t : Int) + 1 := by have := HMB.out; rw [IntKind.wrap_i64]; omega
        clear hbr hlt hk2r
        go_upto_region 24 with fail
        go_region
        all_goals
          go_wp2_with fail
          go_ret
          first
            | (have hr5 := RN.out _ _ HKT.out (((Keeps.refl [gb] wr).setCell (p := ⟨gb, 6 + j, none⟩) (.inl (by simp)) (pv (some (a, Dm.new pn L)))).setCell (p := ⟨gb, 8 + j, none⟩) (.inl (by simp)) (pv (some (b, Dm.new pn L)))) (st2d HBR.out hj2 (some (a, Dm.new pn L)) (some (b, Dm.new pn L))); exact ⟨rfl, _, _, _, _, _, (hr5.left).calm (by first | exact Keeps.refl _ _ | exact (Keeps.refl _ _).drew | exact (Keeps.refl _ _).drewN _), HF1.out.succ, HW1.out, HC1.out, Pair.mono HI.out.pl (fun x h => okS h), PR.Pair.set (Pair.mono HI.out.pd (fun x h => Nat.le_succ_of_le h)) j (by show ([] : List Vc).length ≤ k + 1; simp)⟩)
            | (have hr5 := RN.out _ _ HKT.out (((Keeps.refl [gb] wr).setCell (p := ⟨gb, 8 + j, none⟩) (.inl (by simp)) (pv (some (b, Dm.new pn L)))).setCell (p := ⟨gb, 6 + j, none⟩) (.inl (by simp)) (pv (some (a, Dm.new pn L)))) (st2d' HBR.out hj2 (some (a, Dm.new pn L)) (some (b, Dm.new pn L))); exact ⟨rfl, _, _, _, _, _, (hr5.left).calm (by first | exact Keeps.refl _ _ | exact (Keeps.refl _ _).drew | exact (Keeps.refl _ _).drewN _), HF1.out.succ, HW1.out, HC1.out, Pair.mono HI.out.pl (fun x h => okS h), PR.Pair.set (Pair.mono HI.out.pd (fun x h => Nat.le_succ_of_le h)) j (by show ([] : List Vc).length ≤ k + 1; simp)⟩)
            | (have hr5 := RN.out _ _ HKT.out (((Keeps.refl [gb] wr).drew.setCell (p := ⟨gb, 6 + j, none⟩) (.inl (by simp)) (pv (some (a, Dm.new pn L)))).setCell (p := ⟨gb, 8 + j, none⟩) (.inl (by simp)) (pv (some (b, Dm.new pn L)))) (st2d HBR.out.drew hj2 (some (a, Dm.new pn L)) (some (b, Dm.new pn L))); exact ⟨rfl, _, _, _, _, _, (hr5.left).calm (by first | exact Keeps.refl _ _ | exact (Keeps.refl _ _).drew | exact (Keeps.refl _ _).drewN _), HF1.out.succ, HW1.out, HC1.out, Pair.mono HI.out.pl (fun x h => okS h), PR.Pair.set (Pair.mono HI.out.pd (fun x h => Nat.le_succ_of_le h)) j (by show ([] : List Vc).length ≤ k + 1; simp)⟩)
            | (have hr5 := RN.out _ _ HKT.out (((Keeps.refl [gb] wr).drew.setCell (p := ⟨gb, 8 + j, none⟩) (.inl (by simp)) (pv (some (b, Dm.new pn L)))).setCell (p := ⟨gb, 6 + j, none⟩) (.inl (by simp)) (pv (some (a, Dm.new pn L)))) (st2d' HBR.out.drew hj2 (some (a, Dm.new pn L)) (some (b, Dm.new pn L))); exact ⟨rfl, _, _, _, _, _, (hr5.left).calm (by first | exact Keeps.refl _ _ | exact (Keeps.refl _ _).drew | exact (Keeps.refl _ _).drewN _), HF1.out.succ, HW1.out, HC1.out, Pair.mono HI.out.pl (fun x h => okS h), PR.Pair.set (Pair.mono HI.out.pd (fun x h => Nat.le_succ_of_le h)) j (by show ([] : List Vc).length ≤ k + 1; simp)⟩)
  · have QN : Hid (∀ w', Keeps [] w3 w' → Calls Tryz.prog 34 #[PT z.p, .int .i64 pn, .slice (some ⟨q0, 0, none⟩) m cap] w' fun e w'' => e = .returned (.tuple #[.pointer none, .int .i64 (dmE n pn L)]) ∧ Keeps [] w3 w'') := fun w' hk => by
      have h5 := dm_new_no (hsp.calm hk) HF1.out L (vv := .slice (some ⟨q0, 0, none⟩) m cap) (by rw [HM.out]; exact own_keeps HOF.out hk (by simp)) pn (by rw [hHn]; exact hE) HLV.out.2.1
      rw [hHn] at h5
      exact h5.mono fun e w'' ⟨he, h3⟩ => ⟨he, hk.trans h3 (by simp)⟩
    have HC7 : Hid (∀ w', Keeps [] w3 w' → w'.cell? ⟨gb, 0, none⟩ = some (PT z.p) ∧ w'.cell? ⟨bo, 3, none⟩ = some (.int .i64 pn)) := fun w' hk => by
      have h := HR3.out.calm (HK3.out.trans hk (by simp))
      exact ⟨h.pc.1, (h.box.cell 3).trans rfl⟩
    have hkB : Keeps [] w3 w3 := Keeps.refl _ _
    clear hsp
    go_upto_region 16 with fail
    go_region_held3 (fun w' => w'.cell? ⟨gb, 0, none⟩ = some (PT z.p) ∧ w'.cell? ⟨bo, 3, none⟩ = some (.int .i64 pn)) (first | with_reducible exact HC7.out _ (by first | with_reducible assumption | with_reducible exact Keeps.drew (by with_reducible assumption)) | go_keep) ((go_at_call 34; (with_reducible refine (QN.out _ (by first | with_reducible assumption | with_reducible exact Keeps.drew (by with_reducible assumption))).mono ?_); rintro e w4 ⟨rfl, hk4⟩))
    clear hkB
    obtain ⟨_, hrp⟩ := (HR3.out.calm (HK3.out.trans hk4 (by simp))).rp
    have QR : Hid (∀ w', Keeps [] w4 w' → Calls Tryz.prog 49 #[PT y.p, .int .i64 pn, .slice AA m c] w' fun e w'' => e = .returned (.tuple #[.pointer none, .int .i64 (dmE n pn L)]) ∧ Keeps [] w4 w'') := fun w' hk => by
      have h5 := newDoom (hrp.calm hk) hcn (HLV.out.1.keeps ((HK3.out.trans hk4 (by simp)).trans hk (by simp)) (by simp)) (by rw [HM.out]; exact HCC.out) HLV.out.2.1 pn
      rw [HM.out] at h5
      exact h5.mono fun e w'' ⟨_, g2, g3⟩ => ⟨g2 hE, hk.trans g3 (by simp)⟩
    have HC8 : Hid (∀ w', Keeps [] w4 w' → w'.cell? ⟨gb, 1, none⟩ = some (PT y.p) ∧ w'.cell? ⟨bo, 3, none⟩ = some (.int .i64 pn)) := fun w' hk => by
      have h := HR3.out.calm ((HK3.out.trans hk4 (by simp)).trans hk (by simp))
      exact ⟨h.pc.2, (h.box.cell 3).trans rfl⟩
    have hkB : Keeps [] w4 w4 := Keeps.refl _ _
    clear hrp HC7 QN
    go_upto_region 17 with fail
    go_region_held3 (fun w' => w'.cell? ⟨gb, 1, none⟩ = some (PT y.p) ∧ w'.cell? ⟨bo, 3, none⟩ = some (.int .i64 pn)) (first | with_reducible exact HC8.out _ (by first | with_reducible assumption | with_reducible exact Keeps.drew (by with_reducible assumption)) | go_keep) ((go_at_call 49; (with_reducible refine (QR.out _ (by first | with_reducible assumption | with_reducible exact Keeps.drew (by with_reducible assumption))).mono ?_); rintro e w5 ⟨rfl, hk5⟩))
    clear hkB QR HC8
    have HK45 := Lib.hid hk4
    have HKQ : Hid (Keeps [] w2 w5) := (HK3.out.trans hk4 (by simp)).trans hk5 (by simp)
    have RN : Hid (∀ w7 w8, Keeps [q0] w5 w7 → Keeps [gb] w7 w8 → Blk w8 gb 43 (rigA z y M N (upd' A j (none : Option (Nat × Dm))) (upd' B j (none : Option (Nat × Dm)))) → Rg w0 w8 z y n gb (some (bo, #[.int .i64 22, .int .i64 mm, .int .i64 pi, .int .i64 pn, .int .i64 px, .int .u64 (fa : Int), .int .u64 (fb : Int), .slice AA m c])) S1 S1 M N (upd' A j (none : Option (Nat × Dm))) (upd' B j (none : Option (Nat × Dm)))) := fun w7 w8 hk7 hk8 hb8 =>
      renewD (gm := []) (AA := AA) (c := c) (L := L) HR3.out (HKQ.out.trans hk7 (fun u hu => .inr (by simp at hu; have := HQ0.out.1; omega))) rfl (fun b1 x1 e => by cases e) HLV.out.2.2 hk8 hb8
    have HO5 := Lib.hid (own_keeps HO.out (hk4.trans hk5 (by simp)) (by simp))
    obtain ⟨cs, hbq, hcs⟩ := own_blk HO5.out
    have HKB : Hid (Kb w5 q0 0 m L) := ⟨cs, hbq, fun t ht => hcs t⟩
    have HVS : Hid (∀ w', Keeps [q0] w5 w' → Vs w' AA L) := fun w' hk => (HLV.out.1.keeps HKQ.out (by simp)).keeps hk (fun h0 u off e hx => by simp at hx; have h5 := HLV.out.1.lt h0 e; have h6 := HQ0.out.1; omega)
    clear hk4 hk5 hbq hcs
    go_upto_region 18 with fail
    go_wp2_with fail
    go_loopw [16] (fun i wr => ∃ t : Nat, t ≤ m ∧ i = .int .i64 t ∧ Keeps [q0] w5 wr ∧ Kb wr q0 t m L) (fun i _ => m - (intOf i).toNat)
    case atStart => exact ⟨0, Nat.zero_le _, rfl, Keeps.refl _ _, HKB.out⟩
    case round =>
      obtain ⟨t, ht, rfl, hk, hkb⟩ := hrel
      have HKT := Lib.hid hk
      have HKBT := Lib.hid hkb
      clear hk hkb
      by_cases hlt : (t : Int) < (m : Int)
      · have t0 : (0 : Int) ≤ (t : Int) := by omega
        obtain ⟨v, hv⟩ : ∃ v, L[t]? = some v := ⟨_, List.getElem?_eq_getElem (by have := HM.out; omega)⟩
        obtain ⟨u, off, eA, hcell⟩ := HVS.out wr HKT.out (by have := HM.out; omega)
        subst eA
        obtain ⟨v0, v1, v2, v3⟩ := vc_at L t v hv
        have c0' := hcell _ _ v0
        have c1' : wr.cell? ⟨u, off + t * 4 + 1, none⟩ = some (.int .i64 v.gen) := by rw [Nat.add_assoc]; exact hcell _ _ v1
        have c2' : wr.cell? ⟨u, off + t * 4 + 2, none⟩ = some (.int .i64 v.stamp) := by rw [Nat.add_assoc]; exact hcell _ _ v2
        have c3' : wr.cell? ⟨u, off + t * 4 + 3, none⟩ = some (.int .i64 v.thread) := by rw [Nat.add_assoc]; exact hcell _ _ v3
        obtain ⟨k0, k1, k2, k3⟩ := HKBT.out.at_ HM.out (Nat.le_refl t) (by omega) hv
        have f0 := HKBT.out.fz (t * 4)
        have f1 := HKBT.out.fz (t * 4 + 1)
        have f2 := HKBT.out.fz (t * 4 + 2)
        have f3 := HKBT.out.fz (t * 4 + 3)
        have hsame := fun w => vc_same w v.slot v.gen v.stamp v.thread
        have hw : IntKind.i64.wrap ((t : Int) + 1) = (t : Int) + 1 := by have := HMB.out; rw [IntKind.wrap_i64]; omega
        have hcapt : (t : Int) < (cap : Int) := by have := HCAP.out.1; omega
        clear hv hcell v0 v1 v2 v3
        go_wp2_with fail
        go_quiet (fail)
        go_wp2_with fail
        first
          | exact ⟨⟨t + 1, by omega, by simp, kstored HKT.out _ _ _ _, HKBT.out.stored _ _ _ _⟩, by simp [intOf]; omega⟩
          | exact ⟨⟨t + 1, by omega, by simp, kstored (HKT.out.drewN _) _ _ _ _, (HKBT.out.drewN _).stored _ _ _ _⟩, by simp [intOf]; omega⟩
      · obtain rfl : t = m := by omega
        have hk2r := (HKQ.out.trans HKT.out (T := [q0]) (fun u hu => .inr (by simp at hu; have := HQ0.out.1; omega)))
        have hbr := HR3.out.rig.keeps hk2r (by simp)
        have cx := (Rg.cells (HR3.out.calm hk2r) hj2)
        have fx := hbr.frozen (6 + j)
        have fy := hbr.frozen (8 + j)
        obtain ⟨-, -, cx, cy⟩ := cx
        obtain ⟨k0, k1, k2, k3⟩ := HKBT.out.last HM.out
        have hgq : gb ≠ q0 := fun e => by have h5 := HR3.out.rig.lt; have h6 := HQ0.out.1; omega
        have HBR := Lib.hid hbr
        have hmk : ∀ w, (Op.equalIn 10000 113 (.agg #[.int .i64 (-77), .int .i64 0, .int .i64 0, .int .i64 0]) (.agg #[.int .i64 (-77), .int .i64 0, .int .i64 0, .int .i64 0])).run Tryz.prog w = .ok true w := fun w => vc_same w _ _ _ _
        have s1 : ((t : Int) + 1) ≤ (cap : Int) := by have := HCAP.out.1; omega
        have s2 : (0 : Int) ≤ (t : Int) + 1 := by omega
        have s3 : (t : Int) < (t : Int) + 1 := by omega
        have s4 : (0 : Int) ≤ (t : Int) := by omega
        have s5 : IntKind.i64.wrap ((t : Int) + 1) = (t : Int) + 1 := by have := HMB.out; rw [IntKind.wrap_i64]; omega
        clear hbr hlt hk2r
        go_upto_region 24 with fail
        go_region
        all_goals
          go_wp2_with fail
          go_ret
          first
            | (have hr5 := RN.out _ _ HKT.out (((Keeps.refl [gb] wr).setCell (p := ⟨gb, 6 + j, none⟩) (.inl (by simp)) (pv (none : Option (Nat × Dm)))).setCell (p := ⟨gb, 8 + j, none⟩) (.inl (by simp)) (pv (none : Option (Nat × Dm)))) (st2d HBR.out hj2 (none : Option (Nat × Dm)) (none : Option (Nat × Dm))); exact ⟨rfl, _, _, _, _, _, (hr5.left).calm (by first | exact Keeps.refl _ _ | exact (Keeps.refl _ _).drew | exact (Keeps.refl _ _).drewN _), HF1.out.succ, HW1.out, HC1.out, Pair.mono HI.out.pl (fun x h => okS h), (Pair.mono HI.out.pd (fun x h => Nat.le_succ_of_le h)).unset j⟩)
            | (have hr5 := RN.out _ _ HKT.out (((Keeps.refl [gb] wr).setCell (p := ⟨gb, 8 + j, none⟩) (.inl (by simp)) (pv (none : Option (Nat × Dm)))).setCell (p := ⟨gb, 6 + j, none⟩) (.inl (by simp)) (pv (none : Option (Nat × Dm)))) (st2d' HBR.out hj2 (none : Option (Nat × Dm)) (none : Option (Nat × Dm))); exact ⟨rfl, _, _, _, _, _, (hr5.left).calm (by first | exact Keeps.refl _ _ | exact (Keeps.refl _ _).drew | exact (Keeps.refl _ _).drewN _), HF1.out.succ, HW1.out, HC1.out, Pair.mono HI.out.pl (fun x h => okS h), (Pair.mono HI.out.pd (fun x h => Nat.le_succ_of_le h)).unset j⟩)
            | (have hr5 := RN.out _ _ HKT.out (((Keeps.refl [gb] wr).drew.setCell (p := ⟨gb, 6 + j, none⟩) (.inl (by simp)) (pv (none : Option (Nat × Dm)))).setCell (p := ⟨gb, 8 + j, none⟩) (.inl (by simp)) (pv (none : Option (Nat × Dm)))) (st2d HBR.out.drew hj2 (none : Option (Nat × Dm)) (none : Option (Nat × Dm))); exact ⟨rfl, _, _, _, _, _, (hr5.left).calm (by first | exact Keeps.refl _ _ | exact (Keeps.refl _ _).drew | exact (Keeps.refl _ _).drewN _), HF1.out.succ, HW1.out, HC1.out, Pair.mono HI.out.pl (fun x h => okS h), (Pair.mono HI.out.pd (fun x h => Nat.le_succ_of_le h)).unset j⟩)
            | (have hr5 := RN.out _ _ HKT.out (((Keeps.refl [gb] wr).drew.setCell (p := ⟨gb, 8 + j, none⟩) (.inl (by simp)) (pv (none : Option (Nat × Dm)))).setCell (p := ⟨gb, 6 + j, none⟩) (.inl (by simp)) (pv (none : Option (Nat × Dm)))) (st2d' HBR.out.drew hj2 (none : Option (Nat × Dm)) (none : Option (Nat × Dm))); exact ⟨rfl, _, _, _, _, _, (hr5.left).calm (by first | exact Keeps.refl _ _ | exact (Keeps.refl _ _).drew | exact (Keeps.refl _ _).drewN _), HF1.out.succ, HW1.out, HC1.out, Pair.mono HI.out.pl (fun x h => okS h), (Pair.mono HI.out.pd (fun x h => Nat.le_succ_of_le h)).unset j⟩)
set_option maxRecDepth 100000 in
set_option maxHeartbeats 16000000 in
theorem does_doomB (hI : Ins w0 w z y n gb k cf S M N A B) (hk : k ≤ 1048576) (hn : cf.slots = (n : Int)) (n8 : n ≤ 8) (mm pi pn px : Int) (fa fb : Nat) (hsg : (⟨fa, fb⟩ : Sg).ok) (A0 : Option Addr) (n0 c0 : Nat) (b0 : Nat) (x0 : Lk) (hcase : n0 = 0 ∧ N (mm % 2).toNat = some (b0, x0)) :
    Calls Tryz.prog 8 #[PT gb, .agg #[.int .i64 22, .int .i64 mm, .int .i64 pi, .int .i64 pn, .int .i64 px, .int .u64 (fa : Int), .int .u64 (fb : Int), .slice A0 n0 c0]] w fun e w' => e = .returned (.bool true) ∧ Out w0 w' z y n gb (k + 1) cf := by
  obtain ⟨j, hj⟩ : ∃ j : Nat, mm % 2 = (j : Int) := ⟨(mm % 2).toNat, by omega⟩
  have m1 : bits .and .i64 mm 1 = (j : Int) := (i64_and1 mm).trans hj
  have hj2 : j < 2 := by omega
  have j0 : (0 : Int) ≤ (j : Int) := by omega
  have j1 : (j : Int) < 2 := by omega
  have hjt : (mm % 2).toNat = j := by omega
  rw [hjt] at hcase
  have HCASE := Lib.hid hcase
  clear hcase hjt
  clear hj
  have HI := Lib.hid hI
  have HN := Lib.hid (And.intro hn n8)
  have HK := Lib.hid hk
  have HSG := Lib.hid hsg
  have HR1 := Lib.hid (hI.rg.laid #[.int .i64 22, .int .i64 mm, .int .i64 pi, .int .i64 pn, .int .i64 px, .int .u64 (fa : Int), .int .u64 (fb : Int), .slice A0 n0 c0])
  clear hI hn n8 hk hsg
  go_enter Tryz.func8, Tryz.ntmps8
  go_upto_region 1 with fail
  obtain ⟨wa, hwa⟩ : ∃ v, w.alloc (.cells #[.int .i64 22, .int .i64 mm, .int .i64 pi, .int .i64 pn, .int .i64 px, .int .u64 (fa : Int), .int .u64 (fb : Int), .slice A0 n0 c0] 50) = v := ⟨_, rfl⟩
  obtain ⟨bo, hbo⟩ : ∃ b, w.heap.size = b := ⟨_, rfl⟩
  rw [hwa] at HR1
  rw [hbo] at HR1
  try rw [hwa]
  try rw [hbo]
  have bx := HR1.out.box
  obtain ⟨g0, g1⟩ := HR1.out.pc
  clear hwa hbo
  have d1 : wa.cell? ⟨bo, 1, none⟩ = some (.int .i64 mm) := (bx.cell 1).trans rfl
  clear bx
  go_wp2_with fail
  refine (HR1.out.turn _).mono ?_
  rintro e w1 ⟨rfl, hr2⟩
  have HR2 := Lib.hid hr2
  clear g0 g1 d1 HR1 m1
  obtain ⟨g0, g1⟩ := hr2.pc
  have yc := hr2.yc
  clear hr2
  go_wp2_with fail
  refine (HR2.out.begin _).mono ?_
  rintro e w2 ⟨rfl, hr3⟩
  have HR3 := Lib.hid hr3
  clear g0 g1 yc HR2
  have bx := hr3.box
  have d0 : w2.cell? ⟨bo, 0, none⟩ = some (.int .i64 22) := (bx.cell 0).trans rfl
  have d7 : w2.cell? ⟨bo, 7, none⟩ = some (.slice A0 n0 c0) := (bx.cell 7).trans rfl
  clear hr3 bx
  have HF1 : Hid (Fit k (S.begin j)) := HI.out.fit.begin _
  have HC1 : Hid ((S.begin j).c = cf) := HI.out.c
  have HW1 : Hid ((S.begin j).wu) := HI.out.wu
  obtain ⟨S1, hS1⟩ : ∃ v, S.begin j = v := ⟨_, rfl⟩
  rw [hS1] at HR3 HF1 HC1 HW1
  clear hS1
  have cy := (HR3.out.cells hj2).2.1
  rw [HCASE.out.2] at cy
  have cy' : w2.cell? ⟨gb, 4 + j, none⟩ = some (PT b0) := cy
  obtain ⟨vv, hat⟩ := HR3.out.dl_of HCASE.out.2
  obtain ⟨AA, c, rfl, hc1, hc2, hoz⟩ : ∃ AA c, vv = .slice AA x0.victims.length c ∧ x0.victims.length ≤ c ∧ c ≤ maxLen ∧ ∀ u off, AA = some ⟨u, off, none⟩ → u ∈ vblk vv ∧ off = 0 := by
    rcases hat.own.2 with ⟨h0, h1⟩ | ⟨g, cap', cur, h0, _, _, h1, h2, _⟩
    · rw [h0, h1]; exact ⟨none, 0, rfl, Nat.le_refl _, by decide, fun u off e => by cases e⟩
    · rw [h0]; exact ⟨_, _, rfl, h1, h2, fun u off e => by injection e with e; injection e with e1 e2; subst e1 e2; exact ⟨by simp [vblk, Value.ownBlock], rfl⟩⟩
  obtain ⟨L, hL⟩ : ∃ L, x0.victims = L := ⟨_, rfl⟩
  have hown := hat.own
  have cv : w2.cell? ⟨b0, 14, none⟩ = some (.slice AA L.length c) := by
    obtain ⟨⟨own, at_, wn, p0, p1, _, hbb⟩, _⟩ := hat
    rw [← hL]
    exact (hbb.cell 14).trans rfl
  have hvs : Vs w2 AA L := fun h0 => by
    rw [← hL] at h0 ⊢
    obtain ⟨_, A', c', e, _, _, _, h5⟩ := SlR.of_own hown
    injection e with e1 _ _
    subst e1
    obtain ⟨q, off, e, h6⟩ := h5 h0
    exact ⟨q, off, e, h6⟩
  have HLV : Hid (Vs w2 AA L ∧ L.length ≤ 1099511627776 ∧ (0 < L.length → ∀ u off, AA = some ⟨u, off, none⟩ → u < w0.heap.size ∨ ∃ b x vv, N j = some (b, x) ∧ Ld.At w2 y n b x vv ∧ u ∈ vblk vv ∧ off = 0 ∧ L = x.victims)) := by
    refine ⟨hvs, ?_, fun h0 u off e => .inr ⟨b0, x0, _, HCASE.out.2, hat, (hoz u off e).1, (hoz u off e).2, hL.symm⟩⟩
    rcases HI.out.pl j with ⟨_, e2⟩ | ⟨a1, b1, x1, _, e2, hok⟩
    · rw [HCASE.out.2] at e2; cases e2
    · rw [HCASE.out.2] at e2
      injection e2 with e2
      injection e2 with _ e2
      subst e2
      have h5 := hok.vs
      have h6 := HK.out
      rw [← hL]; omega
  obtain ⟨m, hm⟩ : ∃ m, L.length = m := ⟨_, rfl⟩
  have HM := Lib.hid hm
  have HCC : Hid (m ≤ c ∧ c ≤ maxLen) := ⟨by rw [← hm, ← hL]; exact hc1, hc2⟩
  have HMB : Hid (m ≤ 1099511627776) := by have h5 := HLV.out.2.1; rw [hm] at h5; exact h5
  rw [hm] at cv
  have hz2 : ((n0 : Int) == 0) = true := by have := HCASE.out.1; simp; omega
  clear HCASE cy hat hc1 hc2 hoz hL hown hvs hm
  have hH : (S1.H.length : Int) = (n : Int) := by have h1 := HF1.out.slots; rw [HC1.out] at h1; have h2 := HN.out.1; omega
  have hHn : S1.H.length = n := by omega
  have hcn : S1.c.slots = (n : Int) := by rw [HC1.out]; exact HN.out.1
  have QL : Hid (Calls Tryz.prog 48 #[.slice AA m c] w2 fun e w' => ∃ q cap, e = .returned (.slice (some ⟨q, 0, none⟩) m cap) ∧ w'.ownsRow 0 113 4 (.slice (some ⟨q, 0, none⟩) (m + 1) cap) (m + 1) (vcCells L ++ mark.cells) ∧ w2.heap.size ≤ q ∧ m + 1 ≤ cap ∧ cap ≤ maxLen ∧ Keeps [] w2 w') := by
    have h5 := lent_any w2 AA c L HLV.out.1 HLV.out.2.1
    rw [HM.out] at h5
    exact h5
  have hmi : (0 : Int) ≤ (m : Int) := by omega
  go_upto_region 15 with fail
  clear d0 d7
  go_wp2_with fail
  refine QL.out.mono ?_
  rintro e w3 ⟨q0, cap, rfl, ho, hq0, hcp, hcm, hk3⟩
  have HK3 := Lib.hid hk3
  have HO := Lib.hid ho
  have HOF := Lib.hid (own_front (m := m) ho (by rw [vcCells_len, HM.out]) (Nat.le_succ m))
  have HQ0 : Hid (w2.heap.size ≤ q0 ∧ q0 < w3.heap.size) := ⟨hq0, tyOf_lt (own_in ho q0 (by simp [vblk, Value.ownBlock]))⟩
  have HCAP := Lib.hid (And.intro hcp hcm)
  clear QL ho hq0 hcp hcm hk3 hz2
  try clear cy'
  try clear cv
  obtain ⟨F3, hsp⟩ := (HR3.out.calm HK3.out).sp
  by_cases hE : dmE n pn L = 0
  · have QN : Hid (∀ w', Keeps [] w3 w' → Calls Tryz.prog 34 #[PT z.p, .int .i64 pn, .slice (some ⟨q0, 0, none⟩) m cap] w' fun e w'' => ∃ a G, e = .returned (.tuple #[PT a, .int .i64 0]) ∧ DM w0 w'' z F3 a G (Dm.new pn L) ∧ (∀ q, q ∈ G → w3.heap.size ≤ q) ∧ Keeps [] w3 w'') := fun w' hk => by
      obtain ⟨e1, e2, e3⟩ := dmE_zero hE
      have h5 := dm_new (hsp.calm hk) HF1.out L (by rw [HM.out]; exact own_keeps HOF.out hk (by simp)) pn e1 e2 (by rw [hHn]; exact e3) HLV.out.2.1
      have hz := hk.size
      exact h5.mono fun e w'' ⟨a, G, he, h1, h2, h3⟩ => ⟨a, G, he, h1, fun q hq => Nat.le_trans hz (h2 q hq), hk.trans h3 (by simp)⟩
    have HC7 : Hid (∀ w', Keeps [] w3 w' → w'.cell? ⟨gb, 0, none⟩ = some (PT z.p) ∧ w'.cell? ⟨bo, 3, none⟩ = some (.int .i64 pn)) := fun w' hk => by
      have h := HR3.out.calm (HK3.out.trans hk (by simp))
      exact ⟨h.pc.1, (h.box.cell 3).trans rfl⟩
    have hkB : Keeps [] w3 w3 := Keeps.refl _ _
    clear hsp
    go_upto_region 16 with fail
    go_region_held3 (fun w' => w'.cell? ⟨gb, 0, none⟩ = some (PT z.p) ∧ w'.cell? ⟨bo, 3, none⟩ = some (.int .i64 pn)) (first | with_reducible exact HC7.out _ (by first | with_reducible assumption | with_reducible exact Keeps.drew (by with_reducible assumption)) | go_keep) ((go_at_call 34; (with_reducible refine (QN.out _ (by first | with_reducible assumption | with_reducible exact Keeps.drew (by with_reducible assumption))).mono ?_); rintro e w4 ⟨a, Gm, rfl, ha, hla, hk4⟩; have HA := Lib.hid (And.intro ha hla); clear ha hla))
    clear hkB
    obtain ⟨_, hrp⟩ := (HR3.out.calm (HK3.out.trans hk4 (by simp))).rp
    have QR : Hid (∀ w', Keeps [] w4 w' → Calls Tryz.prog 49 #[PT y.p, .int .i64 pn, .slice AA m c] w' fun e w'' => ∃ b, e = .returned (.tuple #[PT b, .int .i64 0]) ∧ Ld.DAt w'' y b (Dm.new pn L) AA c L (.slice none 0 0) ∧ w4.heap.size ≤ b ∧ Keeps [] w4 w'') := fun w' hk => by
      have hz := hk.size
      have h5 := newDoom (hrp.calm hk) hcn (HLV.out.1.keeps ((HK3.out.trans hk4 (by simp)).trans hk (by simp)) (by simp)) (by rw [HM.out]; exact HCC.out) HLV.out.2.1 pn
      rw [HM.out] at h5
      refine h5.mono fun e w'' ⟨g1, _, g3⟩ => ?_
      obtain ⟨b, he, g4, g5⟩ := g1 hE
      exact ⟨b, he, g4, Nat.le_trans hz g5, hk.trans g3 (by simp)⟩
    have HC8 : Hid (∀ w', Keeps [] w4 w' → w'.cell? ⟨gb, 1, none⟩ = some (PT y.p) ∧ w'.cell? ⟨bo, 3, none⟩ = some (.int .i64 pn)) := fun w' hk => by
      have h := HR3.out.calm ((HK3.out.trans hk4 (by simp)).trans hk (by simp))
      exact ⟨h.pc.2, (h.box.cell 3).trans rfl⟩
    have hkB : Keeps [] w4 w4 := Keeps.refl _ _
    clear hrp HC7 QN
    go_upto_region 17 with fail
    go_region_held3 (fun w' => w'.cell? ⟨gb, 1, none⟩ = some (PT y.p) ∧ w'.cell? ⟨bo, 3, none⟩ = some (.int .i64 pn)) (first | with_reducible exact HC8.out _ (by first | with_reducible assumption | with_reducible exact Keeps.drew (by with_reducible assumption)) | go_keep) ((go_at_call 49; (with_reducible refine (QR.out _ (by first | with_reducible assumption | with_reducible exact Keeps.drew (by with_reducible assumption))).mono ?_); rintro e w5 ⟨b, rfl, hb, hlb, hk5⟩; have HB := Lib.hid (And.intro hb hlb); clear hb hlb))
    clear hkB QR HC8
    have HK45 := Lib.hid hk4
    have HKQ : Hid (Keeps [] w2 w5) := (HK3.out.trans hk4 (by simp)).trans hk5 (by simp)
    have RN : Hid (∀ w7 w8, Keeps [q0] w5 w7 → Keeps [gb] w7 w8 → Blk w8 gb 43 (rigA z y M N (upd' A j (some (a, Dm.new pn L))) (upd' B j (some (b, Dm.new pn L)))) → Rg w0 w8 z y n gb (some (bo, #[.int .i64 22, .int .i64 mm, .int .i64 pi, .int .i64 pn, .int .i64 px, .int .u64 (fa : Int), .int .u64 (fb : Int), .slice A0 n0 c0])) S1 S1 M N (upd' A j (some (a, Dm.new pn L))) (upd' B j (some (b, Dm.new pn L)))) := fun w7 w8 hk7 hk8 hb8 => by
      have hA5 := HA.out.1.calm hk5
      have hA7 := hA5.keeps hk7 (F' := F3) (fun u hu hx => by simp at hx; have h5 := HA.out.2 u hu; have h6 := HQ0.out.2; omega) (fun u hu => .inl hu)
      refine renewD (gm := Gm) (AA := AA) (c := c) (L := L) HR3.out (HKQ.out.trans hk7 (fun u hu => .inr (by simp at hu; have := HQ0.out.1; omega))) ⟨hA7.ex, fun u hu => Nat.le_trans HK3.out.size (HA.out.2 u hu)⟩ (fun b1 x1 e => ?_) HLV.out.2.2 hk8 hb8
      injection e with e
      injection e with e1 e2
      subst e1 e2
      have h9 := HK45.out.size
      refine ⟨HB.out.1.keeps hk7 (fun hx => by simp at hx; have h5 := HB.out.2; have h6 := HQ0.out.2; omega) (by simp [vblk, Value.ownBlock]) (fun h0 u off e hx => by simp at hx; have h5 := HLV.out.1.lt h0 e; have h6 := HQ0.out.1; omega), by have h5 := HB.out.2; have h6 := HK3.out.size; omega, fun hg => by have h5 := HA.out.1.apt.lt _ hg; have h6 := HB.out.2; omega⟩
    have HO5 := Lib.hid (own_keeps HO.out (hk4.trans hk5 (by simp)) (by simp))
    obtain ⟨cs, hbq, hcs⟩ := own_blk HO5.out
    have HKB : Hid (Kb w5 q0 0 m L) := ⟨cs, hbq, fun t ht => hcs t⟩
    have HVS : Hid (∀ w', Keeps [q0] w5 w' → Vs w' AA L) := fun w' hk => (HLV.out.1.keeps HKQ.out (by simp)).keeps hk (fun h0 u off e hx => by simp at hx; have h5 := HLV.out.1.lt h0 e; have h6 := HQ0.out.1; omega)
    clear hk4 hk5 hbq hcs
    go_upto_region 18 with fail
    go_wp2_with fail
    go_loopw [16] (fun i wr => ∃ t : Nat, t ≤ m ∧ i = .int .i64 t ∧ Keeps [q0] w5 wr ∧ Kb wr q0 t m L) (fun i _ => m - (intOf i).toNat)
    case atStart => exact ⟨0, Nat.zero_le _, rfl, Keeps.refl _ _, HKB.out⟩
    case round =>
      obtain ⟨t, ht, rfl, hk, hkb⟩ := hrel
      have HKT := Lib.hid hk
      have HKBT := Lib.hid hkb
      clear hk hkb
      by_cases hlt : (t : Int) < (m : Int)
      · have t0 : (0 : Int) ≤ (t : Int) := by omega
        obtain ⟨v, hv⟩ : ∃ v, L[t]? = some v := ⟨_, List.getElem?_eq_getElem (by have := HM.out; omega)⟩
        obtain ⟨u, off, eA, hcell⟩ := HVS.out wr HKT.out (by have := HM.out; omega)
        subst eA
        obtain ⟨v0, v1, v2, v3⟩ := vc_at L t v hv
        have c0' := hcell _ _ v0
        have c1' : wr.cell? ⟨u, off + t * 4 + 1, none⟩ = some (.int .i64 v.gen) := by rw [Nat.add_assoc]; exact hcell _ _ v1
        have c2' : wr.cell? ⟨u, off + t * 4 + 2, none⟩ = some (.int .i64 v.stamp) := by rw [Nat.add_assoc]; exact hcell _ _ v2
        have c3' : wr.cell? ⟨u, off + t * 4 + 3, none⟩ = some (.int .i64 v.thread) := by rw [Nat.add_assoc]; exact hcell _ _ v3
        obtain ⟨k0, k1, k2, k3⟩ := HKBT.out.at_ HM.out (Nat.le_refl t) (by omega) hv
        have f0 := HKBT.out.fz (t * 4)
        have f1 := HKBT.out.fz (t * 4 + 1)
        have f2 := HKBT.out.fz (t * 4 + 2)
        have f3 := HKBT.out.fz (t * 4 + 3)
        have hsame := fun w => vc_same w v.slot v.gen v.stamp v.thread
        have hw : IntKind.i64.wrap ((t : Int) + 1) = (t : Int) + 1 := by have := HMB.out; rw [IntKind.wrap_i64]; omega
        have hcapt : (t : Int) < (cap : Int) := by have := HCAP.out.1; omega
        clear hv hcell v0 v1 v2 v3
        go_wp2_with fail
        go_quiet (fail)
        go_wp2_with fail
        first
          | exact ⟨⟨t + 1, by omega, by simp, kstored HKT.out _ _ _ _, HKBT.out.stored _ _ _ _⟩, by simp [intOf]; omega⟩
          | exact ⟨⟨t + 1, by omega, by simp, kstored (HKT.out.drewN _) _ _ _ _, (HKBT.out.drewN _).stored _ _ _ _⟩, by simp [intOf]; omega⟩
      · obtain rfl : t = m := by omega
        have hk2r := (HKQ.out.trans HKT.out (T := [q0]) (fun u hu => .inr (by simp at hu; have := HQ0.out.1; omega)))
        have hbr := HR3.out.rig.keeps hk2r (by simp)
        have cx := (Rg.cells (HR3.out.calm hk2r) hj2)
        have fx := hbr.frozen (6 + j)
        have fy := hbr.frozen (8 + j)
        obtain ⟨-, -, cx, cy⟩ := cx
        obtain ⟨k0, k1, k2, k3⟩ := HKBT.out.last HM.out
        have hgq : gb ≠ q0 := fun e => by have h5 := HR3.out.rig.lt; have h6 := HQ0.out.1; omega
        have HBR := Lib.hid hbr
        have hmk : ∀ w, (Op.equalIn 10000 113 (.agg #[.int .i64 (-77), .int .i64 0, .int .i64 0, .int .i64 0]) (.agg #[.int .i64 (-77), .int .i64 0, .int .i64 0, .int .i64 0])).run Tryz.prog w = .ok true w := fun w => vc_same w _ _ _ _
        have s1 : ((t : Int) + 1) ≤ (cap : Int) := by have := HCAP.out.1; omega
        have s2 : (0 : Int) ≤ (t : Int) + 1 := by omega
        have s3 : (t : Int) < (t : Int) + 1 := by omega
        have s4 : (0 : Int) ≤ (t : Int) := by omega
        have s5 : IntKind.i64.wrap ((t : Int) + 1) = (t : Int) + 1 := by have := HMB.out; rw [IntKind.wrap_i64]; omega
        clear hbr hlt hk2r
        go_upto_region 24 with fail
        go_region
        all_goals
          go_wp2_with fail
          go_ret
          first
            | (have hr5 := RN.out _ _ HKT.out (((Keeps.refl [gb] wr).setCell (p := ⟨gb, 6 + j, none⟩) (.inl (by simp)) (pv (some (a, Dm.new pn L)))).setCell (p := ⟨gb, 8 + j, none⟩) (.inl (by simp)) (pv (some (b, Dm.new pn L)))) (st2d HBR.out hj2 (some (a, Dm.new pn L)) (some (b, Dm.new pn L))); exact ⟨rfl, _, _, _, _, _, (hr5.left).calm (by first | exact Keeps.refl _ _ | exact (Keeps.refl _ _).drew | exact (Keeps.refl _ _).drewN _), HF1.out.succ, HW1.out, HC1.out, Pair.mono HI.out.pl (fun x h => okS h), PR.Pair.set (Pair.mono HI.out.pd (fun x h => Nat.le_succ_of_le h)) j (by show ([] : List Vc).length ≤ k + 1; simp)⟩)
            | (have hr5 := RN.out _ _ HKT.out (((Keeps.refl [gb] wr).setCell (p := ⟨gb, 8 + j, none⟩) (.inl (by simp)) (pv (some (b, Dm.new pn L)))).setCell (p := ⟨gb, 6 + j, none⟩) (.inl (by simp)) (pv (some (a, Dm.new pn L)))) (st2d' HBR.out hj2 (some (a, Dm.new pn L)) (some (b, Dm.new pn L))); exact ⟨rfl, _, _, _, _, _, (hr5.left).calm (by first | exact Keeps.refl _ _ | exact (Keeps.refl _ _).drew | exact (Keeps.refl _ _).drewN _), HF1.out.succ, HW1.out, HC1.out, Pair.mono HI.out.pl (fun x h => okS h), PR.Pair.set (Pair.mono HI.out.pd (fun x h => Nat.le_succ_of_le h)) j (by show ([] : List Vc).length ≤ k + 1; simp)⟩)
            | (have hr5 := RN.out _ _ HKT.out (((Keeps.refl [gb] wr).drew.setCell (p := ⟨gb, 6 + j, none⟩) (.inl (by simp)) (pv (some (a, Dm.new pn L)))).setCell (p := ⟨gb, 8 + j, none⟩) (.inl (by simp)) (pv (some (b, Dm.new pn L)))) (st2d HBR.out.drew hj2 (some (a, Dm.new pn L)) (some (b, Dm.new pn L))); exact ⟨rfl, _, _, _, _, _, (hr5.left).calm (by first | exact Keeps.refl _ _ | exact (Keeps.refl _ _).drew | exact (Keeps.refl _ _).drewN _), HF1.out.succ, HW1.out, HC1.out, Pair.mono HI.out.pl (fun x h => okS h), PR.Pair.set (Pair.mono HI.out.pd (fun x h => Nat.le_succ_of_le h)) j (by show ([] : List Vc).length ≤ k + 1; simp)⟩)
            | (have hr5 := RN.out _ _ HKT.out (((Keeps.refl [gb] wr).drew.setCell (p := ⟨gb, 8 + j, none⟩) (.inl (by simp)) (pv (some (b, Dm.new pn L)))).setCell (p := ⟨gb, 6 + j, none⟩) (.inl (by simp)) (pv (some (a, Dm.new pn L)))) (st2d' HBR.out.drew hj2 (some (a, Dm.new pn L)) (some (b, Dm.new pn L))); exact ⟨rfl, _, _, _, _, _, (hr5.left).calm (by first | exact Keeps.refl _ _ | exact (Keeps.refl _ _).drew | exact (Keeps.refl _ _).drewN _), HF1.out.succ, HW1.out, HC1.out, Pair.mono HI.out.pl (fun x h => okS h), PR.Pair.set (Pair.mono HI.out.pd (fun x h => Nat.le_succ_of_le h)) j (by show ([] : List Vc).length ≤ k + 1; simp)⟩)
  · have QN : Hid (∀ w', Keeps [] w3 w' → Calls Tryz.prog 34 #[PT z.p, .int .i64 pn, .slice (some ⟨q0, 0, none⟩) m cap] w' fun e w'' => e = .returned (.tuple #[.pointer none, .int .i64 (dmE n pn L)]) ∧ Keeps [] w3 w'') := fun w' hk => by
      have h5 := dm_new_no (hsp.calm hk) HF1.out L (vv := .slice (some ⟨q0, 0, none⟩) m cap) (by rw [HM.out]; exact own_keeps HOF.out hk (by simp)) pn (by rw [hHn]; exact hE) HLV.out.2.1
      rw [hHn] at h5
      exact h5.mono fun e w'' ⟨he, h3⟩ => ⟨he, hk.trans h3 (by simp)⟩
    have HC7 : Hid (∀ w', Keeps [] w3 w' → w'.cell? ⟨gb, 0, none⟩ = some (PT z.p) ∧ w'.cell? ⟨bo, 3, none⟩ = some (.int .i64 pn)) := fun w' hk => by
      have h := HR3.out.calm (HK3.out.trans hk (by simp))
      exact ⟨h.pc.1, (h.box.cell 3).trans rfl⟩
    have hkB : Keeps [] w3 w3 := Keeps.refl _ _
    clear hsp
    go_upto_region 16 with fail
    go_region_held3 (fun w' => w'.cell? ⟨gb, 0, none⟩ = some (PT z.p) ∧ w'.cell? ⟨bo, 3, none⟩ = some (.int .i64 pn)) (first | with_reducible exact HC7.out _ (by first | with_reducible assumption | with_reducible exact Keeps.drew (by with_reducible assumption)) | go_keep) ((go_at_call 34; (with_reducible refine (QN.out _ (by first | with_reducible assumption | with_reducible exact Keeps.drew (by with_reducible assumption))).mono ?_); rintro e w4 ⟨rfl, hk4⟩))
    clear hkB
    obtain ⟨_, hrp⟩ := (HR3.out.calm (HK3.out.trans hk4 (by simp))).rp
    have QR : Hid (∀ w', Keeps [] w4 w' → Calls Tryz.prog 49 #[PT y.p, .int .i64 pn, .slice AA m c] w' fun e w'' => e = .returned (.tuple #[.pointer none, .int .i64 (dmE n pn L)]) ∧ Keeps [] w4 w'') := fun w' hk => by
      have h5 := newDoom (hrp.calm hk) hcn (HLV.out.1.keeps ((HK3.out.trans hk4 (by simp)).trans hk (by simp)) (by simp)) (by rw [HM.out]; exact HCC.out) HLV.out.2.1 pn
      rw [HM.out] at h5
      exact h5.mono fun e w'' ⟨_, g2, g3⟩ => ⟨g2 hE, hk.trans g3 (by simp)⟩
    have HC8 : Hid (∀ w', Keeps [] w4 w' → w'.cell? ⟨gb, 1, none⟩ = some (PT y.p) ∧ w'.cell? ⟨bo, 3, none⟩ = some (.int .i64 pn)) := fun w' hk => by
      have h := HR3.out.calm ((HK3.out.trans hk4 (by simp)).trans hk (by simp))
      exact ⟨h.pc.2, (h.box.cell 3).trans rfl⟩
    have hkB : Keeps [] w4 w4 := Keeps.refl _ _
    clear hrp HC7 QN
    go_upto_region 17 with fail
    go_region_held3 (fun w' => w'.cell? ⟨gb, 1, none⟩ = some (PT y.p) ∧ w'.cell? ⟨bo, 3, none⟩ = some (.int .i64 pn)) (first | with_reducible exact HC8.out _ (by first | with_reducible assumption | with_reducible exact Keeps.drew (by with_reducible assumption)) | go_keep) ((go_at_call 49; (with_reducible refine (QR.out _ (by first | with_reducible assumption | with_reducible exact Keeps.drew (by with_reducible assumption))).mono ?_); rintro e w5 ⟨rfl, hk5⟩))
    clear hkB QR HC8
    have HK45 := Lib.hid hk4
    have HKQ : Hid (Keeps [] w2 w5) := (HK3.out.trans hk4 (by simp)).trans hk5 (by simp)
    have RN : Hid (∀ w7 w8, Keeps [q0] w5 w7 → Keeps [gb] w7 w8 → Blk w8 gb 43 (rigA z y M N (upd' A j (none : Option (Nat × Dm))) (upd' B j (none : Option (Nat × Dm)))) → Rg w0 w8 z y n gb (some (bo, #[.int .i64 22, .int .i64 mm, .int .i64 pi, .int .i64 pn, .int .i64 px, .int .u64 (fa : Int), .int .u64 (fb : Int), .slice A0 n0 c0])) S1 S1 M N (upd' A j (none : Option (Nat × Dm))) (upd' B j (none : Option (Nat × Dm)))) := fun w7 w8 hk7 hk8 hb8 =>
      renewD (gm := []) (AA := AA) (c := c) (L := L) HR3.out (HKQ.out.trans hk7 (fun u hu => .inr (by simp at hu; have := HQ0.out.1; omega))) rfl (fun b1 x1 e => by cases e) HLV.out.2.2 hk8 hb8
    have HO5 := Lib.hid (own_keeps HO.out (hk4.trans hk5 (by simp)) (by simp))
    obtain ⟨cs, hbq, hcs⟩ := own_blk HO5.out
    have HKB : Hid (Kb w5 q0 0 m L) := ⟨cs, hbq, fun t ht => hcs t⟩
    have HVS : Hid (∀ w', Keeps [q0] w5 w' → Vs w' AA L) := fun w' hk => (HLV.out.1.keeps HKQ.out (by simp)).keeps hk (fun h0 u off e hx => by simp at hx; have h5 := HLV.out.1.lt h0 e; have h6 := HQ0.out.1; omega)
    clear hk4 hk5 hbq hcs
    go_upto_region 18 with fail
    go_wp2_with fail
    go_loopw [16] (fun i wr => ∃ t : Nat, t ≤ m ∧ i = .int .i64 t ∧ Keeps [q0] w5 wr ∧ Kb wr q0 t m L) (fun i _ => m - (intOf i).toNat)
    case atStart => exact ⟨0, Nat.zero_le _, rfl, Keeps.refl _ _, HKB.out⟩
    case round =>
      obtain ⟨t, ht, rfl, hk, hkb⟩ := hrel
      have HKT := Lib.hid hk
      have HKBT := Lib.hid hkb
      clear hk hkb
      by_cases hlt : (t : Int) < (m : Int)
      · have t0 : (0 : Int) ≤ (t : Int) := by omega
        obtain ⟨v, hv⟩ : ∃ v, L[t]? = some v := ⟨_, List.getElem?_eq_getElem (by have := HM.out; omega)⟩
        obtain ⟨u, off, eA, hcell⟩ := HVS.out wr HKT.out (by have := HM.out; omega)
        subst eA
        obtain ⟨v0, v1, v2, v3⟩ := vc_at L t v hv
        have c0' := hcell _ _ v0
        have c1' : wr.cell? ⟨u, off + t * 4 + 1, none⟩ = some (.int .i64 v.gen) := by rw [Nat.add_assoc]; exact hcell _ _ v1
        have c2' : wr.cell? ⟨u, off + t * 4 + 2, none⟩ = some (.int .i64 v.stamp) := by rw [Nat.add_assoc]; exact hcell _ _ v2
        have c3' : wr.cell? ⟨u, off + t * 4 + 3, none⟩ = some (.int .i64 v.thread) := by rw [Nat.add_assoc]; exact hcell _ _ v3
        obtain ⟨k0, k1, k2, k3⟩ := HKBT.out.at_ HM.out (Nat.le_refl t) (by omega) hv
        have f0 := HKBT.out.fz (t * 4)
        have f1 := HKBT.out.fz (t * 4 + 1)
        have f2 := HKBT.out.fz (t * 4 + 2)
        have f3 := HKBT.out.fz (t * 4 + 3)
        have hsame := fun w => vc_same w v.slot v.gen v.stamp v.thread
        have hw : IntKind.i64.wrap ((t : Int) + 1) = (t : Int) + 1 := by have := HMB.out; rw [IntKind.wrap_i64]; omega
        have hcapt : (t : Int) < (cap : Int) := by have := HCAP.out.1; omega
        clear hv hcell v0 v1 v2 v3
        go_wp2_with fail
        go_quiet (fail)
        go_wp2_with fail
        first
          | exact ⟨⟨t + 1, by omega, by simp, kstored HKT.out _ _ _ _, HKBT.out.stored _ _ _ _⟩, by simp [intOf]; omega⟩
          | exact ⟨⟨t + 1, by omega, by simp, kstored (HKT.out.drewN _) _ _ _ _, (HKBT.out.drewN _).stored _ _ _ _⟩, by simp [intOf]; omega⟩
      · obtain rfl : t = m := by omega
        have hk2r := (HKQ.out.trans HKT.out (T := [q0]) (fun u hu => .inr (by simp at hu; have := HQ0.out.1; omega)))
        have hbr := HR3.out.rig.keeps hk2r (by simp)
        have cx := (Rg.cells (HR3.out.calm hk2r) hj2)
        have fx := hbr.frozen (6 + j)
        have fy := hbr.frozen (8 + j)
        obtain ⟨-, -, cx, cy⟩ := cx
        obtain ⟨k0, k1, k2, k3⟩ := HKBT.out.last HM.out
        have hgq : gb ≠ q0 := fun e => by have h5 := HR3.out.rig.lt; have h6 := HQ0.out.1; omega
        have HBR := Lib.hid hbr
        have hmk : ∀ w, (Op.equalIn 10000 113 (.agg #[.int .i64 (-77), .int .i64 0, .int .i64 0, .int .i64 0]) (.agg #[.int .i64 (-77), .int .i64 0, .int .i64 0, .int .i64 0])).run Tryz.prog w = .ok true w := fun w => vc_same w _ _ _ _
        have s1 : ((t : Int) + 1) ≤ (cap : Int) := by have := HCAP.out.1; omega
        have s2 : (0 : Int) ≤ (t : Int) + 1 := by omega
        have s3 : (t : Int) < (t : Int) + 1 := by omega
        have s4 : (0 : Int) ≤ (t : Int) := by omega
        have s5 : IntKind.i64.wrap ((t : Int) + 1) = (t : Int) + 1 := by have := HMB.out; rw [IntKind.wrap_i64]; omega
        clear hbr hlt hk2r
        go_upto_region 24 with fail
        go_region
        all_goals
          go_wp2_with fail
          go_ret
          first
            | (have hr5 := RN.out _ _ HKT.out (((Keeps.refl [gb] wr).setCell (p := ⟨gb, 6 + j, none⟩) (.inl (by simp)) (pv (none : Option (Nat × Dm)))).setCell (p := ⟨gb, 8 + j, none⟩) (.inl (by simp)) (pv (none : Option (Nat × Dm)))) (st2d HBR.out hj2 (none : Option (Nat × Dm)) (none : Option (Nat × Dm))); exact ⟨rfl, _, _, _, _, _, (hr5.left).calm (by first | exact Keeps.refl _ _ | exact (Keeps.refl _ _).drew | exact (Keeps.refl _ _).drewN _), HF1.out.succ, HW1.out, HC1.out, Pair.mono HI.out.pl (fun x h => okS h), (Pair.mono HI.out.pd (fun x h => Nat.le_succ_of_le h)).unset j⟩)
            | (have hr5 := RN.out _ _ HKT.out (((Keeps.refl [gb] wr).setCell (p := ⟨gb, 8 + j, none⟩) (.inl (by simp)) (pv (none : Option (Nat × Dm)))).setCell (p := ⟨gb, 6 + j, none⟩) (.inl (by simp)) (pv (none : Option (Nat × Dm)))) (st2d' HBR.out hj2 (none : Option (Nat × Dm)) (none : Option (Nat × Dm))); exact ⟨rfl, _, _, _, _, _, (hr5.left).calm (by first | exact Keeps.refl _ _ | exact (Keeps.refl _ _).drew | exact (Keeps.refl _ _).drewN _), HF1.out.succ, HW1.out, HC1.out, Pair.mono HI.out.pl (fun x h => okS h), (Pair.mono HI.out.pd (fun x h => Nat.le_succ_of_le h)).unset j⟩)
            | (have hr5 := RN.out _ _ HKT.out (((Keeps.refl [gb] wr).drew.setCell (p := ⟨gb, 6 + j, none⟩) (.inl (by simp)) (pv (none : Option (Nat × Dm)))).setCell (p := ⟨gb, 8 + j, none⟩) (.inl (by simp)) (pv (none : Option (Nat × Dm)))) (st2d HBR.out.drew hj2 (none : Option (Nat × Dm)) (none : Option (Nat × Dm))); exact ⟨rfl, _, _, _, _, _, (hr5.left).calm (by first | exact Keeps.refl _ _ | exact (Keeps.refl _ _).drew | exact (Keeps.refl _ _).drewN _), HF1.out.succ, HW1.out, HC1.out, Pair.mono HI.out.pl (fun x h => okS h), (Pair.mono HI.out.pd (fun x h => Nat.le_succ_of_le h)).unset j⟩)
            | (have hr5 := RN.out _ _ HKT.out (((Keeps.refl [gb] wr).drew.setCell (p := ⟨gb, 8 + j, none⟩) (.inl (by simp)) (pv (none : Option (Nat × Dm)))).setCell (p := ⟨gb, 6 + j, none⟩) (.inl (by simp)) (pv (none : Option (Nat × Dm)))) (st2d' HBR.out.drew hj2 (none : Option (Nat × Dm)) (none : Option (Nat × Dm))); exact ⟨rfl, _, _, _, _, _, (hr5.left).calm (by first | exact Keeps.refl _ _ | exact (Keeps.refl _ _).drew | exact (Keeps.refl _ _).drewN _), HF1.out.succ, HW1.out, HC1.out, Pair.mono HI.out.pl (fun x h => okS h), (Pair.mono HI.out.pd (fun x h => Nat.le_succ_of_le h)).unset j⟩)
theorem does_any (hI : Ins w0 w z y n gb k cf S M N A B) (hk : k ≤ 1048576) (hn : cf.slots = (n : Int)) (n8 : n ≤ 8) (p : Op12) (hsg : p.sg.ok) (hv : Vs w0 p.A p.L) (hc : p.L.length ≤ p.c ∧ p.c ≤ maxLen) (hl : p.L.length ≤ 1048576) :
    Calls Tryz.prog 8 #[PT gb, .agg p.vals] w fun e w' => e = .returned (.bool true) ∧ Out w0 w' z y n gb (k + 1) cf := by
  obtain ⟨kd, mm, pi, pn, px, ⟨fa, fb⟩, AA, c, L⟩ := p
  by_cases e20 : kd = 20
  · subst e20
    exact does_new hI hk hn n8 mm pi pn px fa fb hsg (.slice AA L.length c)
  by_cases e21 : kd = 21
  · subst e21
    exact does_step hI hk hn n8 mm pi pn px fa fb hsg (.slice AA L.length c)
  by_cases e23 : kd = 23
  · subst e23
    exact does_sdoom hI hk hn n8 mm pi pn px fa fb hsg (.slice AA L.length c)
  by_cases e22 : kd = 22
  · subst e22
    by_cases h0 : L.length = 0
    · cases hN : N (mm % 2).toNat with
      | none => exact does_doomN hI hk hn n8 mm pi pn px fa fb hsg AA L.length c L rfl hl hc hv ⟨h0, hN⟩
      | some q => exact does_doomB hI hk hn n8 mm pi pn px fa fb hsg AA L.length c q.1 q.2 ⟨h0, hN⟩
    · exact does_doomA hI hk hn n8 mm pi pn px fa fb hsg AA L.length c L rfl hl hc hv h0
  · exact does_raw hI hk hn n8 kd mm pi pn px fa fb hsg (.slice AA L.length c) e20 e21 e22 e23
end
end LP
end Go.Proofs.YtmlnedilbneekaaGreat
