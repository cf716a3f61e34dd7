/- SpaceChecks: which configs may be: the call returns true for every config. -/
import Derived.Test.YtnednminpmiojaaRows
import Derived.Test.YtnednminpmiojaaSpaceAw8
import Derived.Test.YtnednminpmiojaaRpCheck
import Derived.Test.YtnednminpmiojaaOneStruct
import Derived.Deep.RegionHeld3
import Derived.WalkKit
import Derived.ProofKit
import Derived.OpenShut
import Derived.ShutString
import Derived.ChangeOld
import Derived.Below
import Derived.Carry
namespace Go.Proofs.Ytnednminpmiojaa.spaceChecks
open Go.ChangeShapes Go.WideShapes Go.ChangeAt Go.RowKit
set_option linter.unusedVariables false

theorem own_slc {w : World} {base : Nat} {t : TypeId} {size n : Nat} {v : Value} {xs : List Value} (h : w.ownsRow base t size v n xs) : ∃ A c, v = .slice A n c := by
  rcases h.2 with ⟨rfl, h0⟩ | ⟨a, cap, cur, rfl, hb, _⟩
  · subst h0; exact ⟨_, _, rfl⟩
  · exact ⟨_, _, rfl⟩
theorem cf_eq (w : World) (x : Cf) : (Op.equalIn 10000 23 (.agg #[.int .i64 x.cells, .int .i64 x.slots, .int .i64 x.bits, .int .i64 x.tag, .int .i64 x.bias, .int .i64 x.defer]) (.agg #[.int .i64 x.cells, .int .i64 x.slots, .int .i64 x.bits, .int .i64 x.tag, .int .i64 x.bias, .int .i64 x.defer])).run Try.prog w = .ok true w := by
  simp [go_sem]
set_option maxRecDepth 100000 in
set_option maxHeartbeats 8000000 in
theorem walk (c : Cf) (w : World) : Calls Try.prog 4 #[.agg #[.int .i64 c.cells, .int .i64 c.slots, .int .i64 c.bits, .int .i64 c.tag, .int .i64 c.bias, .int .i64 c.defer]] w fun e w' => e = .returned (.bool true) ∧ Below w.heap.size w w' := by
  have hk : Keeps [] w (w.alloc (.cells #[.int .i64 c.cells, .int .i64 c.slots, .int .i64 c.bits, .int .i64 c.tag, .int .i64 c.bias, .int .i64 c.defer] 23)) := by simp
  have hb : Blk (w.alloc (.cells #[.int .i64 c.cells, .int .i64 c.slots, .int .i64 c.bits, .int .i64 c.tag, .int .i64 c.bias, .int .i64 c.defer] 23)) w.heap.size 23 c.vals := Blk.new _ _ _
  have HK := Lib.hid hk
  have HB := Lib.hid hb
  obtain ⟨d0, d1, d2, d3, d4, d5⟩ := cf_cells hb
  clear hk hb
  by_cases hok : c.ok
  · have Q1 : Hid (∀ w : World, Calls Try.prog 20 #[.agg #[.int .i64 c.cells, .int .i64 c.slots, .int .i64 c.bits, .int .i64 c.tag, .int .i64 c.bias, .int .i64 c.defer]] w fun e w' => e = .returned (.int .i64 0) ∧ Keeps [] w w') := fun w => by
      have := sp_check w c
      rw [if_pos hok] at this
      exact this
    have Q2 : Hid (∀ w : World, Calls Try.prog 21 #[.agg #[.int .i64 c.cells, .int .i64 c.slots, .int .i64 c.bits, .int .i64 c.tag, .int .i64 c.bias, .int .i64 c.defer]] w fun e w' => e = .returned (.int .i64 0) ∧ Keeps [] w w') := fun w => by
      have := rp_check w c
      rw [if_pos hok] at this
      exact this
    have HOK := Lib.hid hok
    clear hok
    go_enter Try.func4, Try.ntmps4
    go_wp2_with fail
    refine (awake8 _).mono ?_
    rintro e w1 ⟨rfl, hk⟩
    replace HK := Lib.hid (HK.out.trans hk (by simp))
    replace HB := Lib.hid (HB.out.keeps hk (by simp))
    clear hk d0 d1 d2 d3 d4 d5
    obtain ⟨d0, d1, d2, d3, d4, d5⟩ := cf_cells HB.out
    go_wp2_with fail
    refine (Q1.out _).mono ?_
    rintro e w2 ⟨rfl, hk⟩
    replace HK := Lib.hid (HK.out.trans hk (by simp))
    replace HB := Lib.hid (HB.out.keeps hk (by simp))
    clear hk d0 d1 d2 d3 d4 d5 Q1
    obtain ⟨d0, d1, d2, d3, d4, d5⟩ := cf_cells HB.out
    go_wp2_with fail
    refine (sp_new w2 c HOK.out).mono ?_
    rintro e w3 ⟨z, F, rfl, hs⟩
    have hk := hs.keep
    have HS := Lib.hid (hs.base (Keeps.refl [] w2))
    replace HK := Lib.hid (HK.out.trans hk (by simp))
    replace HB := Lib.hid (HB.out.keeps hk (by simp))
    clear hk d0 d1 d2 d3 d4 d5 hs
    obtain ⟨d0, d1, d2, d3, d4, d5⟩ := cf_cells HB.out
    go_wp2_with fail
    refine (Q2.out _).mono ?_
    rintro e w4 ⟨rfl, hk⟩
    replace HK := Lib.hid (HK.out.trans hk (by simp))
    replace HB := Lib.hid (HB.out.keeps hk (by simp))
    replace HS := Lib.hid (HS.out.calm hk)
    clear hk d0 d1 d2 d3 d4 d5 Q2
    obtain ⟨d0, d1, d2, d3, d4, d5⟩ := cf_cells HB.out
    go_wp2_with fail
    have HF : Hid (Fit 0 (Sp.new c)) := Fit.new HOK.out
    obtain ⟨n1, hn1⟩ : ∃ n1, (Sp.new c).cells.length = n1 := ⟨_, rfl⟩
    obtain ⟨n2, hn2⟩ : ∃ n2, (Sp.new c).H.length = n2 := ⟨_, rfl⟩
    have e1 : ((n1 : Int) == c.cells) = true := by have := HOK.out.1; rw [← hn1]; simp [Sp.new]; omega
    have e2 : ((n2 : Int) == c.slots) = true := by have := HOK.out.2.1; rw [← hn2]; simp [Sp.new]; omega
    have hv : Calls Try.prog 17 #[PT z.p] w4 fun e w' => ∃ a1 c1 a2 c2, e = .returned (.agg #[.slice (some ⟨a1, 0, none⟩) n1 c1, .int .i64 0, .int .i64 0, .slice (some ⟨a2, 0, none⟩) n2 c2]) ∧ Keeps [] w4 w' :=
      (sp_view HS.out HF.out).mono fun e w' ⟨a1, c1, a2, c2, he, _, _, _, _, hk⟩ => ⟨a1, c1, a2, c2, by rw [he, hn1, hn2]; rfl, hk⟩
    refine hv.mono ?_
    rintro e w5 ⟨a1, c1, a2, c2, rfl, hk⟩
    replace HK := Lib.hid (HK.out.trans hk (by simp))
    replace HB := Lib.hid (HB.out.keeps hk (by simp))
    replace HS := Lib.hid (HS.out.calm hk)
    clear hk hv d0 d1 d2 d3 d4 d5 hn1 hn2
    go_wp2_with fail
    have hka : Keeps [] w5 (w5.alloc (.cells #[.slice (some ⟨a1, 0, none⟩) n1 c1, .int .i64 0, .int .i64 0, .slice (some ⟨a2, 0, none⟩) n2 c2] 41)) := by simp
    have BV := Lib.hid (Blk.new w5 41 #[.slice (some ⟨a1, 0, none⟩) n1 c1, .int .i64 0, .int .i64 0, .slice (some ⟨a2, 0, none⟩) n2 c2])
    replace HK := Lib.hid (HK.out.trans hka (by simp))
    replace HB := Lib.hid (HB.out.keeps hka (by simp))
    replace HS := Lib.hid (HS.out.calm hka)
    obtain ⟨zv, hzv⟩ : ∃ q, w5.heap.size = q := ⟨_, rfl⟩
    obtain ⟨w6, hw6⟩ : ∃ q, w5.alloc (.cells #[.slice (some ⟨a1, 0, none⟩) n1 c1, .int .i64 0, .int .i64 0, .slice (some ⟨a2, 0, none⟩) n2 c2] 41) = q := ⟨_, rfl⟩
    obtain ⟨zc, hzc⟩ : ∃ q, w.heap.size = q := ⟨_, rfl⟩
    rw [hw6] at HK HB HS BV ⊢
    rw [hzv] at BV ⊢
    have HZC := Lib.hid hzc
    rw [hzc] at HB ⊢
    clear hka hw6 hzv hzc
    have HC := Lib.hid (show ∀ w', Keeps [] w6 w' → w'.cell? ⟨zc, 0, none⟩ = some (.int .i64 c.cells) ∧ w'.cell? ⟨zc, 1, none⟩ = some (.int .i64 c.slots) ∧ w'.cell? ⟨zc, 2, none⟩ = some (.int .i64 c.bits) ∧ w'.cell? ⟨zc, 3, none⟩ = some (.int .i64 c.tag) ∧ w'.cell? ⟨zc, 4, none⟩ = some (.int .i64 c.bias) ∧ w'.cell? ⟨zc, 5, none⟩ = some (.int .i64 c.defer) ∧ w'.cell? ⟨zv, 0, none⟩ = some (.slice (some ⟨a1, 0, none⟩) n1 c1) ∧ w'.cell? ⟨zv, 1, none⟩ = some (.int .i64 0) ∧ w'.cell? ⟨zv, 2, none⟩ = some (.int .i64 0) ∧ w'.cell? ⟨zv, 3, none⟩ = some (.slice (some ⟨a2, 0, none⟩) n2 c2) ∧ w'.cell? ⟨z.p, 0, none⟩ = some (PT z.m) from fun w' hk => by
      obtain ⟨x0, x1, x2, x3, x4, x5⟩ := cf_cells (HB.out.keeps hk (by simp))
      have hb := BV.out.keeps hk (by simp)
      exact ⟨x0, x1, x2, x3, x4, x5, (hb.cell 0).trans rfl, (hb.cell 1).trans rfl, (hb.cell 2).trans rfl, (hb.cell 3).trans rfl, (HS.out.calm hk).cells.1⟩)
    have QC := Lib.hid (fun w (hk : Keeps [] w6 w) => (show Calls Try.prog 22 #[PT z.p] w fun e w' => e = .returned (.agg #[.int .i64 c.cells, .int .i64 c.slots, .int .i64 c.bits, .int .i64 c.tag, .int .i64 c.bias, .int .i64 c.defer]) ∧ Keeps [] w6 w' from (sp_config (HS.out.calm hk)).mono fun e w' ⟨he, h2⟩ => ⟨he, hk.trans h2 (by simp)⟩))
    have QS := Lib.hid (fun w (hk : Keeps [] w6 w) => (show Calls Try.prog 23 #[PT z.p] w fun e w' => e = .returned (.int .i64 0) ∧ Keeps [] w6 w' from (sp_step (HS.out.calm hk)).mono fun e w' ⟨he, h2⟩ => ⟨he, h2 ▸ hk⟩))
    have QL := Lib.hid (fun w (hk : Keeps [] w6 w) => (show Calls Try.prog 19 #[PT z.m] w fun e w' => ∃ A cc, e = .returned (.slice A 0 cc) ∧ Keeps [] w6 w' from (sp_log (HS.out.calm hk) (by simp [Sp.new, MS.zero])).mono fun e w' ⟨v, he, h1, h2⟩ => by
      obtain ⟨A, cc, rfl⟩ := own_slc h1
      exact ⟨A, cc, he, hk.trans h2 (by simp)⟩))
    have QE := Lib.hid (fun w (hk : Keeps [] w6 w) => (show Calls Try.prog 18 #[PT z.p] w fun e w' => ∃ A cc, e = .returned (.slice A 0 cc) ∧ Keeps [] w6 w' from (sp_events (HS.out.calm hk) HF.out (by decide)).mono fun e w' ⟨v, he, h1, h2⟩ => by
      obtain ⟨A, cc, rfl⟩ := own_slc h1
      exact ⟨A, cc, he, hk.trans h2 (by simp)⟩))
    have hkB : Keeps [] w6 w6 := Keeps.refl _ _
    have q1 : ∀ w, (Op.equalIn 10000 38 (.agg #[.int .i64 0, .int .i64 0]) (.agg #[.int .i64 0, .int .i64 0])).run Try.prog w = .ok true w := fun w => by have := RowG.eq_run w ⟨0, 0⟩ ⟨0, 0⟩; rw [decide_eq_true rfl] at this; exact this
    have q2 := fun w => cf_eq w c
    go_region_held3 (fun w' => w'.cell? ⟨zc, 0, none⟩ = some (.int .i64 c.cells) ∧ w'.cell? ⟨zc, 1, none⟩ = some (.int .i64 c.slots) ∧ w'.cell? ⟨zc, 2, none⟩ = some (.int .i64 c.bits) ∧ w'.cell? ⟨zc, 3, none⟩ = some (.int .i64 c.tag) ∧ w'.cell? ⟨zc, 4, none⟩ = some (.int .i64 c.bias) ∧ w'.cell? ⟨zc, 5, none⟩ = some (.int .i64 c.defer) ∧ w'.cell? ⟨zv, 0, none⟩ = some (.slice (some ⟨a1, 0, none⟩) n1 c1) ∧ w'.cell? ⟨zv, 1, none⟩ = some (.int .i64 0) ∧ w'.cell? ⟨zv, 2, none⟩ = some (.int .i64 0) ∧ w'.cell? ⟨zv, 3, none⟩ = some (.slice (some ⟨a2, 0, none⟩) n2 c2) ∧ w'.cell? ⟨z.p, 0, none⟩ = some (PT z.m)) (first | exact HC.out _ (by first | assumption | exact Keeps.drew (by assumption)) | go_keep) ((first
      | (go_at_call 22; refine (QC.out _ (by first | assumption | exact Keeps.drew (by assumption))).mono ?_; rintro e wc ⟨rfl, hkc⟩)
      | (go_at_call 23; refine (QS.out _ (by first | assumption | exact Keeps.drew (by assumption))).mono ?_; rintro e wc ⟨rfl, hkc⟩)
      | (go_at_call 19; refine (QL.out _ (by first | assumption | exact Keeps.drew (by assumption))).mono ?_; rintro e wc ⟨A, cc, rfl, hkc⟩)
      | (go_at_call 18; refine (QE.out _ (by first | assumption | exact Keeps.drew (by assumption))).mono ?_; rintro e wc ⟨A, cc, rfl, hkc⟩)))
    all_goals
      go_wp2_with fail
      go_ret
      first
        | exact ⟨rfl, (HK.out.trans hkc (by simp)).below (by simp) (Nat.le_refl _)⟩
        | exact ⟨rfl, (HK.out.trans hkc (by simp)).below (by simp) (Nat.le_of_eq HZC.out.symm)⟩
  · have Q1 : Hid (∀ w : World, Calls Try.prog 20 #[.agg #[.int .i64 c.cells, .int .i64 c.slots, .int .i64 c.bits, .int .i64 c.tag, .int .i64 c.bias, .int .i64 c.defer]] w fun e w' => e = .returned (.int .i64 1) ∧ Keeps [] w w') := fun w => by
      have := sp_check w c
      rw [if_neg hok] at this
      exact this
    have Q2 : Hid (∀ w : World, Calls Try.prog 21 #[.agg #[.int .i64 c.cells, .int .i64 c.slots, .int .i64 c.bits, .int .i64 c.tag, .int .i64 c.bias, .int .i64 c.defer]] w fun e w' => e = .returned (.int .i64 1) ∧ Keeps [] w w') := fun w => by
      have := rp_check w c
      rw [if_neg hok] at this
      exact this
    have Q3 := Lib.hid (fun w => sp_new_bad w c hok)
    clear hok
    go_enter Try.func4, Try.ntmps4
    go_wp2_with fail
    refine (awake8 _).mono ?_
    rintro e w1 ⟨rfl, hk⟩
    replace HK := Lib.hid (HK.out.trans hk (by simp))
    replace HB := Lib.hid (HB.out.keeps hk (by simp))
    clear hk d0 d1 d2 d3 d4 d5
    obtain ⟨d0, d1, d2, d3, d4, d5⟩ := cf_cells HB.out
    go_wp2_with fail
    refine (Q1.out _).mono ?_
    rintro e w2 ⟨rfl, hk⟩
    replace HK := Lib.hid (HK.out.trans hk (by simp))
    replace HB := Lib.hid (HB.out.keeps hk (by simp))
    clear hk d0 d1 d2 d3 d4 d5 Q1
    obtain ⟨d0, d1, d2, d3, d4, d5⟩ := cf_cells HB.out
    go_wp2_with fail
    refine (Q3.out _).mono ?_
    rintro e w3 ⟨rfl, hk⟩
    replace HK := Lib.hid (HK.out.trans hk (by simp))
    replace HB := Lib.hid (HB.out.keeps hk (by simp))
    clear hk d0 d1 d2 d3 d4 d5 Q3
    obtain ⟨d0, d1, d2, d3, d4, d5⟩ := cf_cells HB.out
    go_wp2_with fail
    refine (Q2.out _).mono ?_
    rintro e w4 ⟨rfl, hk⟩
    replace HK := Lib.hid (HK.out.trans hk (by simp))
    clear hk d0 d1 d2 d3 d4 d5 Q2 HB
    go_wp2_with fail
    go_ret
    exact ⟨rfl, HK.out.below (by simp) (Nat.le_refl _)⟩

theorem own : ownKnob Try.prog.godebug = none := by kernel_rfl
theorem laidOut : laidOutB Try.prog = true := by kernel_rfl

set_option maxRecDepth 100000 in
theorem lifted (os : Os) (started : os.Started) (H : Type) (enc : TypeId × Value → H) :
    ReturnsInHanded {} Try.checked os 4 .any (Rows.spaceChecksSpec.pre6 enc Try.prog Try.f4 Rows.spaceChecksRow.domain false) (Rows.spaceChecksSpec.post enc Try.prog Try.f4 false true false false) := by
  refine returnsInHanded_of_change (C := Try.checked) own started (by kernel_rfl) Try.func4
    (ChangeSpec.witness6 (enc := enc) (C := Try.checked) false ⟨#[], #[.agg #[.int .i64 0, .int .i64 0, .int .i64 0, .int .i64 0, .int .i64 0, .int .i64 0]], []⟩ 8 (by kernel_rfl) (by kernel_rfl) (by kernel_rfl) (by kernel_rfl)) ?_
  intro W base args ds gs before hval0 hW hcnd _
  have hval : ∀ (j : Nat) t v, Try.f4.params[j]? = some t → args[j]? = some v → Value.okWide Try.prog W .any base t v := hval0
  have hW' := hW
  obtain ⟨p, q, hA0, hV, rfl, hfz, hnd⟩ := hW
  have hA : DataW.TrodAll enc Try.prog W 0 (fun _ => true) true Try.f4.params.toList args.toList ds p := hA0
  rw [Try.params4] at hA hval
  obtain ⟨v0, vs0, d0, ds0, p0, q0, hargs, rfl, rfl, h0, r0⟩ := trodAll_cons hA
  obtain ⟨rfl, rfl, rfl⟩ := trodAll_nil r0
  obtain rfl : args = #[v0] := by cases args; simp_all
  obtain ⟨rfl, rfl⟩ := trodVars_none hV
  have k0 := h0
  have lt0 : ∀ x ∈ p0, x.block < W.heap.size := by obtain ⟨m, hm⟩ := k0; exact DataW.trod_lt m _ _ _ hm
  obtain ⟨cf0, rfl⟩ := cfg_open (hval 0 23 v0 rfl rfl) h0
  clear hA0 hval0
  refine (walk cf0 W ).mono fun e W' ⟨he, bel⟩ => ?_
  subst he
  exact ⟨_, rfl, _, _, _, [], _, [], hW', trodAll_mk1 (shut_bool Try.underlying4 _), (trodAll_cons_mk (Below.trod laidOut (by kernel_rfl) (of_decide_eq_true (by kernel_rfl)) k0 bel lt0) trodAll_mk0), rfl, bel.frame _, fun h => by cases h⟩

theorem over : Rows.spaceChecksRow.holds Try.pinned (OpenSpec.ofChange Rows.spaceChecksSpec) :=
  OpenClaim.holds_of_wide 4 Try.f4 rfl rfl rfl rfl rfl rfl rfl ⟨rfl, rfl, rfl, rfl, rfl⟩ rfl rfl rfl rfl rfl (by kernel_rfl) Try.func4 (by kernel_rfl)
    (of_decide_eq_true (by kernel_rfl)) (by unfold Func.isWrapper; first | (rw [if_pos (by decide +kernel)]; kernel_rfl) | (rw [if_neg (by decide +kernel)]; exact ⟨rfl, rfl⟩))
    (fun os started H enc _ => lifted os started H enc)

/-- The statement. -/
theorem proved : Rows.SpaceChecksSaid := over
#print axioms proved
end Go.Proofs.Ytnednminpmiojaa.spaceChecks
