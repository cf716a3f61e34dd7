/- GateTurns: the number of a gate and its owner, call by call: the call returns true wherever what it reads is of bulk at most 1048576. -/
import Derived.Test.YtdkbdlhfhmgenaaRows
import Derived.Test.YtdkbdlhfhmgenaaGateTurnsP
import Derived.Test.YtdkbdlhfhmgenaaScript5
import Derived.JoinedCond
import Derived.WalkKit
import Derived.ProofKit
import Derived.OpenShut
import Derived.ShutString
import Derived.ChangeOld
import Derived.Below
import Derived.Carry
namespace Go.Proofs.Ytdkbdlhfhmgenaa.gateTurns
open Go.ChangeShapes Go.WideShapes Go.ChangeAt Go.RowKit
set_option linter.unusedVariables false


set_option maxRecDepth 100000 in
set_option maxHeartbeats 4000000 in
theorem walk (A : Option Addr) (n c : Nat) (ops : List Op5) (w : World) (hs : Script5 w A n c ops) :
    Calls Try.prog 3 #[.slice A n c] w fun e w' => e = .returned (.bool true) ∧ Below w.heap.size w w' := by
  have HSC := Lib.hid hs
  have hn := hs.2.2.1
  have hni : (n : Int) ≤ 1048576 := by omega
  clear hs
  go_enter Try.func3, Try.ntmps3
  go_wp2_with fail
  refine (awake5 _).mono ?_
  rintro e w1 ⟨rfl, hk1⟩
  have HK1 := Lib.hid hk1
  clear hk1
  go_wp2_with fail
  refine (newMeter w1).mono ?_
  rintro e w2 ⟨m, rfl, hm, hk2, hm2⟩
  have HM := Lib.hid hm
  have HK2 := Lib.hid hk2
  have HMM := Lib.hid (Nat.le_of_eq hm2.symm)
  clear hm hk2 hm2
  go_wp2_with fail
  refine (turn_new w1 HM.out HK2.out HMM.out).mono ?_
  rintro e w3 ⟨q, r, b, rfl, ht⟩
  have H3 := Lib.hid ht
  clear ht HM HK2 HMM
  go_wp2_with fail
  go_loopw [6, 7, 8, 9] (fun num own calls i wr => ∃ (k : Nat) (g : Gt) (cc : Nat), k ≤ n ∧ i = .int .i64 k ∧ num = .int .i64 g.number ∧ own = .int .i64 g.owner ∧ calls = .int .i64 cc ∧ TInv w1 wr m q r b g k cc) (fun _ _ _ i _ => n - (intOf i).toNat)
  case atStart => exact ⟨0, Gt.zero, 0, Nat.zero_le _, rfl, rfl, rfl, rfl, H3.out⟩
  case round =>
    obtain ⟨k, g, cc, hk, rfl, rfl, rfl, rfl, hi⟩ := hrel
    have HC := Lib.hid hi
    obtain ⟨g0, g1, gk, gc, gp⟩ := hi.facts
    have KW := Lib.hid (HK1.out.trans hi.kept (by simp))
    clear hi
    by_cases hlt : k < n
    · obtain ⟨ab, off, p, rfl, hp, hcell⟩ := HSC.out.at_ hlt
      have hop := hcell wr (KW.out.below (by simp) (Nat.le_refl _))
      have c1 := hop.c1
      have c2 := hop.c2
      clear hop hcell hp
      have k0 : (0 : Int) ≤ (k : Int) := by omega
      have k1 : (k : Int) < (n : Int) := by omega
      have kb : k + 1 ≤ 1048576 := by omega
      have cb : (cc : Int) ≤ 1048576 := by omega
      obtain ⟨po, kd, t⟩ := p
      simp only at c1 c2
      have ht : t < 1 ∨ 8 < t ∨ (1 ≤ t ∧ t ≤ 8) := by omega
      obtain ⟨N, O⟩ := g
      simp only at g0 g1 gp ⊢
      rcases gp with ⟨hp1, hp2, hp3⟩ | ⟨hp1, hp2⟩
      · skip
        have m1 : (N.tmod 2 == 1) = true := by rw [Int.tmod_eq_emod_of_nonneg g0, hp1]; rfl
        have m2 : (N % 2 == 1) = true := by rw [hp1]; rfl
        have m5 : N.tmod 2 = 1 := by rw [Int.tmod_eq_emod_of_nonneg g0, hp1]
        have hu : IntKind.i64.wrap (N + 1) = N + 1 := by rw [IntKind.wrap_i64]; omega
        have z0 : (O == 0) = false := by simp; omega
        have z1 : ¬ O = 0 := by omega
        have z2 : (O != 0) = true := by simp; omega
        by_cases e3 : kd = 3
        · subst e3
          rcases ht with ht | ht | ht
          · have b1 : ¬ (1 ≤ t) := by omega
            have b3 : (O == t) = false := by simp; omega
            have b4 : ¬ O = t := by omega
            go_wp2_with fail
            refine (turn_give_bad HC.out kb t (by omega)).mono ?_
            rintro e w4 ⟨rfl, hc⟩
            have HC2 := Lib.hid hc
            clear hc
            go_wp2_with fail
            refine (turn_now HC2.out).mono ?_
            rintro e w5 ⟨rfl, hc⟩
            have HC3 := Lib.hid (hc.keeps ((Keeps.refl _ _).alloc (.cells #[.int .i64 N, .int .i64 O] 35)))
            obtain ⟨x0, x1⟩ := two_of (Blk.new w5 35 #[.int .i64 N, .int .i64 O])
            clear hc
            go_wp2_with fail
            go_roundw
            case rel => exact ⟨k + 1, _, cc, by omega, by go_num, rfl, rfl, by go_num, HC3.out⟩
            case measure => simp [intOf]; omega
          · have b1 : 1 ≤ t := by omega
            have b2 : ¬ (t ≤ 8) := by omega
            have b3 : (O == t) = false := by simp; omega
            have b4 : ¬ O = t := by omega
            go_wp2_with fail
            refine (turn_give_bad HC.out kb t (by omega)).mono ?_
            rintro e w4 ⟨rfl, hc⟩
            have HC2 := Lib.hid hc
            clear hc
            go_wp2_with fail
            refine (turn_now HC2.out).mono ?_
            rintro e w5 ⟨rfl, hc⟩
            have HC3 := Lib.hid (hc.keeps ((Keeps.refl _ _).alloc (.cells #[.int .i64 N, .int .i64 O] 35)))
            obtain ⟨x0, x1⟩ := two_of (Blk.new w5 35 #[.int .i64 N, .int .i64 O])
            clear hc
            go_wp2_with fail
            go_roundw
            case rel => exact ⟨k + 1, _, cc, by omega, by go_num, rfl, rfl, by go_num, HC3.out⟩
            case measure => simp [intOf]; omega
          · obtain ⟨b1, b2⟩ := ht
            by_cases ho : O = t
            · subst ho
              have m3 : ((N + 1).tmod 2 == 1) = false := by rw [Int.tmod_eq_emod_of_nonneg (by omega), show (N + 1) % 2 = 0 by omega]; rfl
              have m4 : ((N + 1) % 2 == 1) = false := by rw [show (N + 1) % 2 = 0 by omega]; rfl
              have m6 : (N + 1).tmod 2 = 0 := by rw [Int.tmod_eq_emod_of_nonneg (by omega)]; omega
              go_wp2_with fail
              refine (turn_give_ok HC.out kb O b1 b2 rfl).mono ?_
              rintro e w4 ⟨rfl, hc⟩
              have HC2 := Lib.hid hc
              clear hc
              go_wp2_with fail
              refine (turn_now HC2.out).mono ?_
              rintro e w5 ⟨rfl, hc⟩
              have HC3 := Lib.hid (hc.keeps ((Keeps.refl _ _).alloc (.cells #[.int .i64 (N + 1), .int .i64 0] 35)))
              obtain ⟨x0, x1⟩ := two_of (Blk.new w5 35 #[.int .i64 (N + 1), .int .i64 0])
              clear hc
              go_wp2_with fail
              go_roundw
              case rel => exact ⟨k + 1, _, cc + 1, by omega, by go_num, rfl, rfl, by go_num, HC3.out⟩
              case measure => simp [intOf]; omega
            · have b3 : (O == t) = false := by simpa using ho
              go_wp2_with fail
              refine (turn_give_not HC.out kb t b1 b2 ho).mono ?_
              rintro e w4 ⟨rfl, hc⟩
              have HC2 := Lib.hid hc
              clear hc
              go_wp2_with fail
              refine (turn_now HC2.out).mono ?_
              rintro e w5 ⟨rfl, hc⟩
              have HC3 := Lib.hid (hc.keeps ((Keeps.refl _ _).alloc (.cells #[.int .i64 N, .int .i64 O] 35)))
              obtain ⟨x0, x1⟩ := two_of (Blk.new w5 35 #[.int .i64 N, .int .i64 O])
              clear hc
              go_wp2_with fail
              go_roundw
              case rel => exact ⟨k + 1, _, cc + 1, by omega, by go_num, rfl, rfl, by go_num, HC3.out⟩
              case measure => simp [intOf]; omega
        · have n3 : (kd == 3) = false := by simpa using e3
          rcases ht with ht | ht | ht
          · have b1 : ¬ (1 ≤ t) := by omega
            go_wp2_with fail
            refine (turn_take_bad HC.out kb t (by omega)).mono ?_
            rintro e w4 ⟨rfl, hc⟩
            have HC2 := Lib.hid hc
            clear hc
            go_wp2_with fail
            refine (turn_now HC2.out).mono ?_
            rintro e w5 ⟨rfl, hc⟩
            have HC3 := Lib.hid (hc.keeps ((Keeps.refl _ _).alloc (.cells #[.int .i64 N, .int .i64 O] 35)))
            obtain ⟨x0, x1⟩ := two_of (Blk.new w5 35 #[.int .i64 N, .int .i64 O])
            clear hc
            go_wp2_with fail
            go_roundw
            case rel => exact ⟨k + 1, _, cc, by omega, by go_num, rfl, rfl, by go_num, HC3.out⟩
            case measure => simp [intOf]; omega
          · have b1 : 1 ≤ t := by omega
            have b2 : ¬ (t ≤ 8) := by omega
            go_wp2_with fail
            refine (turn_take_bad HC.out kb t (by omega)).mono ?_
            rintro e w4 ⟨rfl, hc⟩
            have HC2 := Lib.hid hc
            clear hc
            go_wp2_with fail
            refine (turn_now HC2.out).mono ?_
            rintro e w5 ⟨rfl, hc⟩
            have HC3 := Lib.hid (hc.keeps ((Keeps.refl _ _).alloc (.cells #[.int .i64 N, .int .i64 O] 35)))
            obtain ⟨x0, x1⟩ := two_of (Blk.new w5 35 #[.int .i64 N, .int .i64 O])
            clear hc
            go_wp2_with fail
            go_roundw
            case rel => exact ⟨k + 1, _, cc, by omega, by go_num, rfl, rfl, by go_num, HC3.out⟩
            case measure => simp [intOf]; omega
          · obtain ⟨b1, b2⟩ := ht
            go_wp2_with fail
            refine (turn_take_held HC.out kb t b1 b2 z1).mono ?_
            rintro e w4 ⟨rfl, hc⟩
            have HC2 := Lib.hid hc
            clear hc
            go_wp2_with fail
            refine (turn_now HC2.out).mono ?_
            rintro e w5 ⟨rfl, hc⟩
            have HC3 := Lib.hid (hc.keeps ((Keeps.refl _ _).alloc (.cells #[.int .i64 N, .int .i64 O] 35)))
            obtain ⟨x0, x1⟩ := two_of (Blk.new w5 35 #[.int .i64 N, .int .i64 O])
            clear hc
            go_wp2_with fail
            go_roundw
            case rel => exact ⟨k + 1, _, cc + 1, by omega, by go_num, rfl, rfl, by go_num, HC3.out⟩
            case measure => simp [intOf]; omega
      · subst hp2
        have m1 : (N.tmod 2 == 1) = false := by rw [Int.tmod_eq_emod_of_nonneg g0, hp1]; rfl
        have m2 : (N % 2 == 1) = false := by rw [hp1]; rfl
        have m5 : N.tmod 2 = 0 := by rw [Int.tmod_eq_emod_of_nonneg g0, hp1]
        have hu : IntKind.i64.wrap (N + 1) = N + 1 := by rw [IntKind.wrap_i64]; omega
        by_cases e3 : kd = 3
        · subst e3
          rcases ht with ht | ht | ht
          · have b1 : ¬ (1 ≤ t) := by omega
            go_wp2_with fail
            refine (turn_give_bad HC.out kb t (by omega)).mono ?_
            rintro e w4 ⟨rfl, hc⟩
            have HC2 := Lib.hid hc
            clear hc
            go_wp2_with fail
            refine (turn_now HC2.out).mono ?_
            rintro e w5 ⟨rfl, hc⟩
            have HC3 := Lib.hid (hc.keeps ((Keeps.refl _ _).alloc (.cells #[.int .i64 N, .int .i64 0] 35)))
            obtain ⟨x0, x1⟩ := two_of (Blk.new w5 35 #[.int .i64 N, .int .i64 0])
            clear hc
            go_wp2_with fail
            go_roundw
            case rel => exact ⟨k + 1, _, cc, by omega, by go_num, rfl, rfl, by go_num, HC3.out⟩
            case measure => simp [intOf]; omega
          · have b1 : 1 ≤ t := by omega
            have b2 : ¬ (t ≤ 8) := by omega
            go_wp2_with fail
            refine (turn_give_bad HC.out kb t (by omega)).mono ?_
            rintro e w4 ⟨rfl, hc⟩
            have HC2 := Lib.hid hc
            clear hc
            go_wp2_with fail
            refine (turn_now HC2.out).mono ?_
            rintro e w5 ⟨rfl, hc⟩
            have HC3 := Lib.hid (hc.keeps ((Keeps.refl _ _).alloc (.cells #[.int .i64 N, .int .i64 0] 35)))
            obtain ⟨x0, x1⟩ := two_of (Blk.new w5 35 #[.int .i64 N, .int .i64 0])
            clear hc
            go_wp2_with fail
            go_roundw
            case rel => exact ⟨k + 1, _, cc, by omega, by go_num, rfl, rfl, by go_num, HC3.out⟩
            case measure => simp [intOf]; omega
          · obtain ⟨b1, b2⟩ := ht
            have b4 : ¬ t = 0 := by omega
            have b5 : ¬ (0 : Int) = t := by omega
            go_wp2_with fail
            refine (turn_give_not HC.out kb t b1 b2 b5).mono ?_
            rintro e w4 ⟨rfl, hc⟩
            have HC2 := Lib.hid hc
            clear hc
            go_wp2_with fail
            refine (turn_now HC2.out).mono ?_
            rintro e w5 ⟨rfl, hc⟩
            have HC3 := Lib.hid (hc.keeps ((Keeps.refl _ _).alloc (.cells #[.int .i64 N, .int .i64 0] 35)))
            obtain ⟨x0, x1⟩ := two_of (Blk.new w5 35 #[.int .i64 N, .int .i64 0])
            clear hc
            go_wp2_with fail
            go_roundw
            case rel => exact ⟨k + 1, _, cc + 1, by omega, by go_num, rfl, rfl, by go_num, HC3.out⟩
            case measure => simp [intOf]; omega
        · have n3 : (kd == 3) = false := by simpa using e3
          rcases ht with ht | ht | ht
          · have b1 : ¬ (1 ≤ t) := by omega
            go_wp2_with fail
            refine (turn_take_bad HC.out kb t (by omega)).mono ?_
            rintro e w4 ⟨rfl, hc⟩
            have HC2 := Lib.hid hc
            clear hc
            go_wp2_with fail
            refine (turn_now HC2.out).mono ?_
            rintro e w5 ⟨rfl, hc⟩
            have HC3 := Lib.hid (hc.keeps ((Keeps.refl _ _).alloc (.cells #[.int .i64 N, .int .i64 0] 35)))
            obtain ⟨x0, x1⟩ := two_of (Blk.new w5 35 #[.int .i64 N, .int .i64 0])
            clear hc
            go_wp2_with fail
            go_roundw
            case rel => exact ⟨k + 1, _, cc, by omega, by go_num, rfl, rfl, by go_num, HC3.out⟩
            case measure => simp [intOf]; omega
          · have b1 : 1 ≤ t := by omega
            have b2 : ¬ (t ≤ 8) := by omega
            go_wp2_with fail
            refine (turn_take_bad HC.out kb t (by omega)).mono ?_
            rintro e w4 ⟨rfl, hc⟩
            have HC2 := Lib.hid hc
            clear hc
            go_wp2_with fail
            refine (turn_now HC2.out).mono ?_
            rintro e w5 ⟨rfl, hc⟩
            have HC3 := Lib.hid (hc.keeps ((Keeps.refl _ _).alloc (.cells #[.int .i64 N, .int .i64 0] 35)))
            obtain ⟨x0, x1⟩ := two_of (Blk.new w5 35 #[.int .i64 N, .int .i64 0])
            clear hc
            go_wp2_with fail
            go_roundw
            case rel => exact ⟨k + 1, _, cc, by omega, by go_num, rfl, rfl, by go_num, HC3.out⟩
            case measure => simp [intOf]; omega
          · obtain ⟨b1, b2⟩ := ht
            have m3 : ((N + 1).tmod 2 == 1) = true := by rw [Int.tmod_eq_emod_of_nonneg (by omega), show (N + 1) % 2 = 1 by omega]; rfl
            have m4 : ((N + 1) % 2 == 1) = true := by rw [show (N + 1) % 2 = 1 by omega]; rfl
            have m6 : (N + 1).tmod 2 = 1 := by rw [Int.tmod_eq_emod_of_nonneg (by omega)]; omega
            have z4 : (t == 0) = false := by simp; omega
            have z5 : ¬ t = 0 := by omega
            have z6 : (t != 0) = true := by simp; omega
            go_wp2_with fail
            refine (turn_take_ok HC.out kb t b1 b2 rfl).mono ?_
            rintro e w4 ⟨rfl, hc⟩
            have HC2 := Lib.hid hc
            clear hc
            go_wp2_with fail
            refine (turn_now HC2.out).mono ?_
            rintro e w5 ⟨rfl, hc⟩
            have HC3 := Lib.hid (hc.keeps ((Keeps.refl _ _).alloc (.cells #[.int .i64 (N + 1), .int .i64 t] 35)))
            obtain ⟨x0, x1⟩ := two_of (Blk.new w5 35 #[.int .i64 (N + 1), .int .i64 t])
            clear hc
            go_wp2_with fail
            go_roundw
            case rel => exact ⟨k + 1, _, cc + 1, by omega, by go_num, rfl, rfl, by go_num, HC3.out⟩
            case measure => simp [intOf]; omega
    · have hge : ¬ ((k : Int) < (n : Int)) := by omega
      go_wp2_with fail
      refine (turn_log HC.out).mono ?_
      rintro e w4 ⟨A4, c4, rfl, hk4⟩
      have K4 := Lib.hid (HK1.out.trans hk4 (by simp))
      clear hk4
      go_wp2_with fail
      go_ret
      exact ⟨rfl, K4.out.below (by simp) (Nat.le_refl _)⟩

theorem own : ownKnob Try.prog.godebug = none := by kernel_rfl
theorem laidOut : laidOutB Try.prog = true := by kernel_rfl
set_option maxRecDepth 100000 in
theorem lifted (os : Os) (started : os.Started) (H : Type) (enc : TypeId × Value → H) (F : Stop.Interp) :
    ReturnsInHanded {} Try.checked os 3 .any ((Rows.OpenSpec.upto Rows.gateTurnsSpec).pre6 enc Try.prog Try.f3 Rows.gateTurnsUptoRow.domain false) (((Rows.OpenSpec.upto Rows.gateTurnsSpec).at F).post enc Try.prog Try.f3 false true false false) := by
  refine returnsInHanded_of_cond (C := Try.checked) (s := Rows.OpenSpec.upto Rows.gateTurnsSpec) (k := Rows.uptoSmall) rfl own started (by kernel_rfl) Try.func3
    (OpenSpec.witness (enc := enc) (C := Try.checked) (s := Rows.OpenSpec.upto Rows.gateTurnsSpec) (k := Rows.uptoSmall) rfl false ⟨#[], #[.slice none 0 0], []⟩ 8 (by kernel_rfl) (by kernel_rfl) (by kernel_rfl)
      (x := ([.nil], [], [])) (by kernel_rfl) rfl (by kernel_rfl)) ?_
  intro W base args ds gs before hval0 hW _ hk _
  have hval : ∀ (j : Nat) t v, Try.f3.params[j]? = some t → args[j]? = some v → Value.okWide Try.prog W .any base t v := hval0
  have hW' := hW
  obtain ⟨p, q, hA0, hV, rfl, hfz, hnd⟩ := hW
  have hA : DataW.TrodAll enc Try.prog W 0 (fun _ => true) true Try.f3.params.toList args.toList ds p := hA0
  rw [Try.params3] at hA hval
  obtain ⟨v0, vs0, d0, ds0, p0, q0, hargs, rfl, rfl, h0, r0⟩ := trodAll_cons hA
  obtain ⟨rfl, rfl, rfl⟩ := trodAll_nil r0
  obtain rfl : args = #[v0] := by cases args; simp_all
  obtain ⟨rfl, rfl⟩ := trodVars_none hV
  have k0 := h0
  have lt0 : ∀ x ∈ p0, x.block < W.heap.size := by obtain ⟨m, hm⟩ := k0; exact DataW.trod_lt m _ _ _ hm
  obtain ⟨A0, n0, c0, rfl⟩ := okWide_slice Try.underlying22 (hval 0 22 v0 rfl rfl)
  obtain ⟨ops0, s0⟩ : ∃ ops, Script5 W A0 n0 c0 ops := by
    obtain ⟨fuel, hf⟩ := h0
    exact script5_open hf (bulks.small hk (by simp))
  clear hA0 hval0
  refine (walk A0 n0 c0 ops0 W s0).mono fun e W' ⟨he, bel⟩ => ?_
  subst he
  exact ⟨_, rfl, _, _, _, [], _, [], hW', trodAll_mk1 (shut_bool Try.underlying4 _), (trodAll_cons_mk (Below.trod laidOut (by kernel_rfl) (of_decide_eq_true (by kernel_rfl)) k0 bel lt0) trodAll_mk0), rfl, bel.frame _, fun h => by cases h⟩

/-- The statement: the second form. -/
theorem proved : Rows.GateTurnsUptoSaid :=
  OpenClaim.holds_of_cond 3 Try.f3 rfl rfl rfl rfl rfl rfl rfl ⟨rfl, rfl, rfl, rfl, rfl⟩ rfl rfl rfl rfl rfl (by kernel_rfl) Try.func3 (by kernel_rfl)
    (of_decide_eq_true (by kernel_rfl)) (by unfold Func.isWrapper; first | (rw [if_pos (by decide +kernel)]; kernel_rfl) | (rw [if_neg (by decide +kernel)]; exact ⟨rfl, rfl⟩))
    (fun os started H enc _ F => lifted os started H enc F)
#print axioms proved
end Go.Proofs.Ytdkbdlhfhmgenaa.gateTurns
