/- CommitMost: how many steps at most: the call returns true for every config and number. -/
import Derived.Test.YtdhgiohjdhcedaaGreatRows
import Derived.Test.YtdhgiohjdhcedaaGreatAw13
import Derived.Test.YtdhgiohjdhcedaaGreatRmMost
import Derived.Test.YtdhgiohjdhcedaaGreatOneStruct
import Derived.Deep.RegionHeld3
import Derived.WalkKit
import Derived.ProofKit
import Derived.OpenShut
import Derived.ShutString
import Derived.ChangeOld
import Derived.Below
import Derived.Carry
namespace Go.Proofs.YtdhgiohjdhcedaaGreat.commitMost
open Go.ChangeShapes Go.WideShapes Go.ChangeAt Go.RowKit
set_option linter.unusedVariables false
set_option linter.unusedSimpArgs false

set_option maxRecDepth 100000 in
theorem walk (cf : Cf) (n : Int) (w : World) (_ : (Lit.int IntKind.i64 n).wf = true) : Calls Tryz.prog 3 #[.agg #[.int .i64 cf.cells, .int .i64 cf.slots, .int .i64 cf.bits, .int .i64 cf.tag, .int .i64 cf.bias, .int .i64 cf.defer], .int .i64 n] w fun e w' => e = .returned (.bool true) ∧ Below w.heap.size w w' := by
  have hk : Keeps [] w (w.alloc (.cells cf.vals 23)) := by simp
  have hb : Blk (w.alloc (.cells cf.vals 23)) w.heap.size 23 cf.vals := Blk.new _ _ _
  have HK := Lib.hid hk
  have HB := Lib.hid hb
  have HQ := Lib.hid (fun w' => cm_most w' cf n)
  have HR := Lib.hid (fun w' => rm_most w' cf n)
  clear hk hb
  generalize mostOf cf n = q at *
  go_enter Tryz.func3, Tryz.ntmps3
  go_wp2_with fail
  refine (awake13 _).mono ?_
  rintro e w1 ⟨rfl, hk⟩
  replace HK := Lib.hid (HK.out.trans hk (by simp))
  replace HB := Lib.hid (HB.out.keeps hk (by simp))
  clear hk
  obtain ⟨d0, d1, d2, d3, d4, d5⟩ := cf_cells HB.out
  have HC := Lib.hid (show ∀ w', Keeps [] w1 w' → _ from fun w' hk => cf_cells (HB.out.keeps hk (by simp)))
  have QM := Lib.hid (show ∀ w', Keeps [] w1 w' → Calls Tryz.prog 15 #[.agg #[.int .i64 cf.cells, .int .i64 cf.slots, .int .i64 cf.bits, .int .i64 cf.tag, .int .i64 cf.bias, .int .i64 cf.defer], .int .i64 n] w' fun e w'' => e = .returned (.int .i64 q) ∧ Keeps [] w1 w'' from fun w' hk => (HQ.out w').mono fun e w'' ⟨he, h2⟩ => ⟨he, hk.trans h2 (by simp)⟩)
  have QR := Lib.hid (show ∀ w', Keeps [] w1 w' → Calls Tryz.prog 16 #[.agg #[.int .i64 cf.cells, .int .i64 cf.slots, .int .i64 cf.bits, .int .i64 cf.tag, .int .i64 cf.bias, .int .i64 cf.defer], .int .i64 n] w' fun e w'' => e = .returned (.int .i64 q) ∧ Keeps [] w1 w'' from fun w' hk => (HR.out w').mono fun e w'' ⟨he, h2⟩ => ⟨he, hk.trans h2 (by simp)⟩)
  have hkB : Keeps [] w1 w1 := Keeps.refl _ _
  go_wp2_with fail
  go_region_held3 (fun w' => w'.cell? ⟨w.heap.size, 0, none⟩ = some (.int .i64 cf.cells) ∧ w'.cell? ⟨w.heap.size, 1, none⟩ = some (.int .i64 cf.slots) ∧ w'.cell? ⟨w.heap.size, 2, none⟩ = some (.int .i64 cf.bits) ∧ w'.cell? ⟨w.heap.size, 3, none⟩ = some (.int .i64 cf.tag) ∧ w'.cell? ⟨w.heap.size, 4, none⟩ = some (.int .i64 cf.bias) ∧ w'.cell? ⟨w.heap.size, 5, none⟩ = some (.int .i64 cf.defer)) (first | with_reducible exact HC.out _ (by first | with_reducible assumption | with_reducible exact Keeps.drew (by with_reducible assumption)) | go_keep) ((first
    | (go_at_call 15; (with_reducible refine (QM.out _ (by first | with_reducible assumption | with_reducible exact Keeps.drew (by with_reducible assumption))).mono ?_); rintro e wc ⟨rfl, hkc⟩)
    | (go_at_call 16; (with_reducible refine (QR.out _ (by first | with_reducible assumption | with_reducible exact Keeps.drew (by with_reducible assumption))).mono ?_); rintro e wc ⟨rfl, hkc⟩)))
  all_goals
    go_wp2_with fail
    go_ret
    exact ⟨rfl, (HK.out.trans (by first | with_reducible assumption | with_reducible exact Keeps.drew (by with_reducible assumption)) (by simp)).below (by simp) (Nat.le_refl _)⟩

theorem own : ownKnob Tryz.prog.godebug = none := by kernel_rfl
theorem laidOut : laidOutB Tryz.prog = true := by kernel_rfl

set_option maxRecDepth 100000 in
theorem lifted (os : Os) (started : os.Started) (H : Type) (enc : TypeId × Value → H) :
    ReturnsInHanded {} Tryz.checked os 3 .any (Rows.commitMostSpec.pre6 enc Tryz.prog Tryz.f3 Rows.commitMostRow.domain false) (Rows.commitMostSpec.post enc Tryz.prog Tryz.f3 false true false false) := by
  refine returnsInHanded_of_change (C := Tryz.checked) own started (by kernel_rfl) Tryz.func3
    (ChangeSpec.witness6 (enc := enc) (C := Tryz.checked) false ⟨#[], #[.agg #[.int .i64 0, .int .i64 0, .int .i64 0, .int .i64 0, .int .i64 0, .int .i64 0], .int .i64 0], []⟩ 8 (by kernel_rfl) (by kernel_rfl) (by kernel_rfl) (by kernel_rfl)) ?_
  intro W base args ds gs before hval0 hW hcnd _
  have hval : ∀ (j : Nat) t v, Tryz.f3.params[j]? = some t → args[j]? = some v → Value.okWide Tryz.prog W .any base t v := hval0
  have hW' := hW
  obtain ⟨p, q, hA0, hV, rfl, hfz, hnd⟩ := hW
  have hA : DataW.TrodAll enc Tryz.prog W 0 (fun _ => true) true Tryz.f3.params.toList args.toList ds p := hA0
  rw [Tryz.params3] at hA hval
  obtain ⟨v0, vs0, d0, ds0, p0, q0, hargs, rfl, rfl, h0, r0⟩ := trodAll_cons hA
  obtain ⟨v1, vs1, d1, ds1, p1, q1, rfl, rfl, rfl, h1, r1⟩ := trodAll_cons r0
  obtain ⟨rfl, rfl, rfl⟩ := trodAll_nil r1
  obtain rfl : args = #[v0, v1] := by cases args; simp_all
  obtain ⟨rfl, rfl⟩ := trodVars_none hV
  have k0 := h0
  have lt0 : ∀ x ∈ p0, x.block < W.heap.size := by obtain ⟨m, hm⟩ := k0; exact DataW.trod_lt m _ _ _ hm
  obtain ⟨cf0, rfl⟩ := cfg_open (hval 0 23 v0 rfl rfl) h0
  obtain ⟨a1, rfl, rfl, rfl, w1⟩ := open_int Tryz.underlying3 (hval 1 3 v1 rfl rfl) h1
  clear hA0 hval0
  refine (walk cf0 a1 W  w1).mono fun e W' ⟨he, bel⟩ => ?_
  subst he
  exact ⟨_, rfl, _, _, _, [], _, [], hW', trodAll_mk1 (shut_bool Tryz.underlying4 _), (trodAll_cons_mk (Below.trod laidOut (by kernel_rfl) (of_decide_eq_true (by kernel_rfl)) k0 bel lt0) (trodAll_cons_mk (shut_int Tryz.underlying3 w1) trodAll_mk0)), rfl, bel.frame _, fun h => by cases h⟩

theorem over : Rows.commitMostRow.holds Tryz.pinned (OpenSpec.ofChange Rows.commitMostSpec) :=
  OpenClaim.holds_of_wide 3 Tryz.f3 rfl rfl rfl rfl rfl rfl rfl ⟨rfl, rfl, rfl, rfl, rfl⟩ rfl rfl rfl rfl rfl (by kernel_rfl) Tryz.func3 (by kernel_rfl)
    (of_decide_eq_true (by kernel_rfl)) (by unfold Func.isWrapper; first | (rw [if_pos (by decide +kernel)]; kernel_rfl) | (rw [if_neg (by decide +kernel)]; exact ⟨rfl, rfl⟩))
    (fun os started H enc _ => lifted os started H enc)

/-- The statement. -/
theorem proved : Rows.CommitMostSaid := over
#print axioms proved
end Go.Proofs.YtdhgiohjdhcedaaGreat.commitMost
