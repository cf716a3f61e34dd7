/- MemNil: a nil meter counts nothing; rows go without one: for every thread, place and number the call returns true. No condition. -/
import Derived.Test.YtlpgcfgnimchaaaRows
import Derived.Test.YtlpgcfgnimchaaaAwake1
import Derived.WalkKit
import Derived.ProofKit
import Derived.OpenShut
import Derived.ShutString
import Derived.ChangeOld
import Derived.Below
import Derived.Carry
namespace Go.Proofs.Ytlpgcfgnimchaaa.memNil
open Go.ChangeShapes Go.WideShapes Go.ChangeAt Go.RowKit
set_option linter.unusedVariables false

theorem walk (t i x : Int) (w0 : (Lit.int .i64 t).wf = true) (w1 : (Lit.int .i64 i).wf = true) (w2 : (Lit.int .i64 x).wf = true) (w : World) :
    Calls Try.prog 6 #[.int .i64 t, .int .i64 i, .int .i64 x] w fun e w' => e = .returned (.bool true) ∧ Below w.heap.size w w' := by
  have hc : (0 ≤ i ∧ i < 8) ∨ (i < 0 ∨ 8 ≤ i) := by omega
  go_enter Try.func6, Try.ntmps6
  go_wp2_with fail
  refine (awake1 _).mono ?_
  rintro e w1 ⟨rfl, hk1⟩
  have HK1 := Lib.hid hk1
  clear hk1
  go_wp2_with fail
  refine (begin_nil _ t).mono ?_
  rintro e w1' ⟨rfl, rfl⟩
  go_wp2_with fail
  refine (RowI.newRow_ok _ none 1 8 (by decide) (by decide)).mono ?_
  rintro e w2 ⟨rfl, hr, hk2, hs2⟩
  have hrow : RowI.At RowI.R w2 (w1.heap.size + 1) w1.heap.size 1 none (List.replicate 8 0) ∧ Keeps [] w w2 ∧ w.heap.size ≤ w1.heap.size := ⟨hr, HK1.out.trans hk2 (by simp), HK1.out.size⟩
  have HR := Lib.hid hrow
  clear hr hk2 hs2 hrow
  go_wp2_with fail
  rcases hc with ⟨h0, h1⟩ | hc
  · obtain ⟨k, rfl⟩ := Int.eq_ofNat_of_zero_le h0
    have hk : k < 8 := by omega
    refine (RowI.store_at w2 _ _ 1 none _ HR.out.1 0 MS.zero trivial (fun h => absurd rfl h) k x (by simpa using hk)).mono ?_
    rintro e w3 ⟨rfl, hr3, lb, hm3, hk3, hat3⟩
    have HR3 := Lib.hid hr3
    have HK3 := Lib.hid (HR.out.2.1.trans hk3 (by intro y hy; simp [foot] at hy; exact .inr (by have := HR.out.2.2; omega)))
    clear hr3 hm3 hk3 hat3
    go_wp2_with fail
    refine (RowI.load_at w3 _ _ 1 none _ HR3.out 0 MS.zero trivial (fun h => absurd rfl h) k x (by simp [hk])).mono ?_
    rintro e w4 ⟨rfl, hr4, lb4, hm4, hk4, hat4⟩
    have HK4 := Lib.hid (HK3.out.trans hk4 (by intro y hy; simp [foot] at hy; exact .inr (by have := HR.out.2.2; omega)))
    clear hr4 hm4 hk4 hat4
    have g1 : decide ((0 : Int) ≤ (k : Int)) = true := by simp
    have g2 : decide ((k : Int) < 8) = true := by simp; omega
    go_wp2
    go_ret
    exact ⟨rfl, HK4.out.below (by simp) (Nat.le_refl _)⟩
  · refine (RowI.store_no w2 _ _ 1 none _ HR.out.1 i x (by simpa using hc)).mono ?_
    rintro e w3 ⟨rfl, rfl⟩
    go_wp2_with fail
    refine (RowI.load_no w2 _ _ 1 none _ HR.out.1 i (by simpa using hc)).mono ?_
    rintro e w3 ⟨rfl, rfl⟩
    rcases hc with hc | hc
    · have g1 : decide ((0 : Int) ≤ i) = false := by simp; omega
      go_wp2
      go_ret
      exact ⟨rfl, HR.out.2.1.below (by simp) (Nat.le_refl _)⟩
    · have g1 : decide ((0 : Int) ≤ i) = true := by simp; omega
      have g2 : decide (i < (8 : Int)) = false := by simp; omega
      go_wp2
      go_ret
      exact ⟨rfl, HR.out.2.1.below (by simp) (Nat.le_refl _)⟩

theorem own : ownKnob Try.prog.godebug = none := by kernel_rfl
theorem laidOut : laidOutB Try.prog = true := by kernel_rfl

set_option maxRecDepth 100000 in
theorem lifted (os : Os) (started : os.Started) (H : Type) (enc : TypeId × Value → H) :
    ReturnsInHanded {} Try.checked os 6 .any (Rows.memNilSpec.pre6 enc Try.prog Try.f6 Rows.memNilRow.domain false) (Rows.memNilSpec.post enc Try.prog Try.f6 false true false false) := by
  refine returnsInHanded_of_change (C := Try.checked) own started (by kernel_rfl) Try.func6
    (ChangeSpec.witness6 (enc := enc) (C := Try.checked) false ⟨#[], #[.int .i64 0, .int .i64 0, .int .i64 0], []⟩ 8 (by kernel_rfl) (by kernel_rfl) (by kernel_rfl) (by kernel_rfl)) ?_
  intro W base args ds gs before hval0 hW hcnd _
  have hval : ∀ (j : Nat) t v, Try.f6.params[j]? = some t → args[j]? = some v → Value.okWide Try.prog W .any base t v := hval0
  have hW' := hW
  obtain ⟨p, q, hA0, hV, rfl, hfz, hnd⟩ := hW
  have hA : DataW.TrodAll enc Try.prog W 0 (fun _ => true) true Try.f6.params.toList args.toList ds p := hA0
  rw [Try.params6] at hA hval
  obtain ⟨v0, vs0, d0, ds0, p0, q0, hargs, rfl, rfl, h0, r0⟩ := trodAll_cons hA
  obtain ⟨v1, vs1, d1, ds1, p1, q1, rfl, rfl, rfl, h1, r1⟩ := trodAll_cons r0
  obtain ⟨v2, vs2, d2, ds2, p2, q2, rfl, rfl, rfl, h2, r2⟩ := trodAll_cons r1
  obtain ⟨rfl, rfl, rfl⟩ := trodAll_nil r2
  obtain rfl : args = #[v0, v1, v2] := by cases args; simp_all
  obtain ⟨rfl, rfl⟩ := trodVars_none hV
  obtain ⟨a0, rfl, rfl, rfl, w0⟩ := open_int Try.underlying3 (hval 0 3 v0 rfl rfl) h0
  obtain ⟨a1, rfl, rfl, rfl, w1⟩ := open_int Try.underlying3 (hval 1 3 v1 rfl rfl) h1
  obtain ⟨a2, rfl, rfl, rfl, w2⟩ := open_int Try.underlying2 (hval 2 2 v2 rfl rfl) h2
  clear hA0 hval0
  refine (walk a0 a1 a2 w0 w1 w2 W).mono fun e W' ⟨he, bel⟩ => ?_
  subst he
  exact ⟨_, rfl, _, _, _, [], _, [], hW', trodAll_mk1 (shut_bool Try.underlying4 _), (trodAll_cons_mk (shut_int Try.underlying3 w0) (trodAll_cons_mk (shut_int Try.underlying3 w1) (trodAll_cons_mk (shut_int Try.underlying2 w2) trodAll_mk0))), rfl, bel.frame _, fun h => by cases h⟩

theorem over : Rows.memNilRow.holds Try.pinned (OpenSpec.ofChange Rows.memNilSpec) :=
  OpenClaim.holds_of_wide 6 Try.f6 rfl rfl rfl rfl rfl rfl rfl ⟨rfl, rfl, rfl, rfl, rfl⟩ rfl rfl rfl rfl rfl (by kernel_rfl) Try.func6 (by kernel_rfl)
    (of_decide_eq_true (by kernel_rfl)) (by unfold Func.isWrapper; first | (rw [if_pos (by decide +kernel)]; kernel_rfl) | (rw [if_neg (by decide +kernel)]; exact ⟨rfl, rfl⟩))
    (fun os started H enc _ => lifted os started H enc)

/-- The statement. -/
theorem proved : Rows.MemNilSaid := over
#print axioms proved
end Go.Proofs.Ytlpgcfgnimchaaa.memNil
