/- ReadWaits: a read waits just when it looks at a gate that is held, one access a step: the call returns true wherever what it reads is of bulk at most 1048576. -/
import Derived.Test.YtelljfhhjapgnaaRows
import Derived.Test.YtelljfhhjapgnaaWaitsB
import Derived.Test.YtelljfhhjapgnaaAw11
import Derived.Deep.QuietTactic
import Derived.BigQuiet
import Derived.Deep.RegionHeld3
import Derived.JoinedCond
import Derived.WalkKit
import Derived.ProofKit
import Derived.OpenShut
import Derived.ShutString
import Derived.ChangeOld
import Derived.Below
import Derived.Carry
namespace Go.Proofs.Ytelljfhhjapgnaa.readWaits
open Go.ChangeShapes Go.WideShapes Go.ChangeAt Go.RowKit
set_option linter.unusedVariables false
set_option linter.unusedSimpArgs false

theorem and127 (n : Int) : bits .and .i64 n 127 = n % 128 := by
  have hm : (BitVec.ofInt 64 127).toNat = 2 ^ 7 - 1 := by decide
  have key : (BitVec.ofInt 64 n &&& BitVec.ofInt 64 127).toNat = (n % ((2 ^ 64 : Nat) : Int)).toNat % 2 ^ 7 := by
    rw [BitVec.toNat_and, BitVec.toNat_ofInt, hm, Nat.and_two_pow_sub_one_eq_mod]
  show IntKind.i64.wrap ((BitVec.ofInt 64 n &&& BitVec.ofInt 64 127).toNat : Nat) = n % 128
  rw [key, IntKind.wrap_i64]
  omega
theorem and1 (n : Int) : bits .and .i64 n 1 = n % 2 := by
  have hm : (BitVec.ofInt 64 1).toNat = 2 ^ 1 - 1 := by decide
  have key : (BitVec.ofInt 64 n &&& BitVec.ofInt 64 1).toNat = (n % ((2 ^ 64 : Nat) : Int)).toNat % 2 ^ 1 := by
    rw [BitVec.toNat_and, BitVec.toNat_ofInt, hm, Nat.and_two_pow_sub_one_eq_mod]
  show IntKind.i64.wrap ((BitVec.ofInt 64 n &&& BitVec.ofInt 64 1).toNat : Nat) = n % 2
  rw [key, IntKind.wrap_i64]
  omega
theorem op_keeps {w w' : World} {A : Option Addr} {n cap : Nat} {l : List ElOp} (h : LstOp w A n cap l) (hk : Keeps [] w w') : LstOp w' A n cap l := by
  obtain ⟨h1, h2, h3, h5, h4⟩ := h
  refine ⟨h1, h2, h3, h5, fun hn => ?_⟩
  obtain ⟨b, off, hA, hb, hc⟩ := h4 hn
  exact ⟨b, off, hA, Nat.lt_of_lt_of_le hb hk.size, fun i p hp => (hc i p hp).keeps hb hk⟩
set_option maxRecDepth 100000 in
set_option maxHeartbeats 16000000 in
theorem walk (bits_ cell : Int) (A : Option Addr) (n cap : Nat) (l : List ElOp) (w : World) (_ : (Lit.int IntKind.i64 bits_).wf = true) (_ : (Lit.int IntKind.i64 cell).wf = true) (hl0 : LstOp w A n cap l) : Calls Try.prog 5 #[.int .i64 bits_, .int .i64 cell, .slice A n cap] w fun e w' => e = .returned (.bool true) ∧ Below w.heap.size w w' := by
  have m1 := and127 bits_
  have m2 := and7' cell
  obtain ⟨c7, hc7, c7l⟩ : ∃ q : Nat, cell % 8 = q ∧ q < 8 := ⟨(cell % 8).toNat, by omega, by omega⟩
  obtain ⟨bb, hbb, bb1, bb8⟩ : ∃ q : Int, bits_ % 128 = q ∧ 0 ≤ q ∧ q ≤ 127 := ⟨_, rfl, by omega, by omega⟩
  rw [hbb] at m1
  rw [hc7] at m2
  obtain ⟨nb, mw, nb1, nb8⟩ : ∃ q : Int, IntKind.i64.wrap (1 + bb) = q ∧ 1 ≤ q ∧ q ≤ 128 := ⟨1 + bb, by rw [IntKind.wrap_i64]; omega, by omega, by omega⟩
  have HL0 := Lib.hid hl0
  have hn20 := hl0.2.2.1
  have hnc := hl0.2.1
  clear hc7 hbb hl0
  go_enter Try.func5, Try.ntmps5
  go_wp2_with fail
  refine (awake11 _).mono ?_
  rintro e wb ⟨rfl, hk⟩
  have HKB := Lib.hid hk
  have HL := Lib.hid (op_keeps HL0.out hk)
  clear hk HL0
  go_wp2_with fail
  refine (reader_any wb 8 nb (by decide) (by decide) nb1 nb8).mono ?_
  rintro e w1 ⟨z, F, rfl, hs, hf⟩
  have hc2 := sp11_is 8 nb
  obtain ⟨S2, hS2⟩ : ∃ S, sp11 8 nb = S := ⟨_, rfl⟩
  rw [hS2] at hs hf hc2
  have hcl : S2.cells.length = 8 := by rw [hc2.2.2.1]; simp
  have HS := Lib.hid hs
  have HF := Lib.hid hf
  have HC2 := Lib.hid hc2
  have hn := read_new hs hf ⟨0, 1, 1, ⟨0, 0⟩⟩ ⟨by decide, by decide⟩ (c7 : Int) (by omega) (by rw [hc2.1]; show (c7 : Int) < 8; omega) (by decide) (by rw [hc2.1]; show (0 : Int) < 1; decide)
  have QN : Hid (Calls Try.prog 13 #[PT z.p, .agg #[.int .i64 0, .int .i64 1, .int .i64 1, .int .u64 0, .int .u64 0], .int .i64 c7] w1 fun e w' => ∃ b G, e = .returned (.tuple #[PT b, .int .i64 0]) ∧ RD wb w' z F b G (Rd.new S2.c.bits ⟨0, 1, 1, ⟨0, 0⟩⟩ c7) ∧ (∀ q, q ∈ G → w1.heap.size ≤ q) ∧ Keeps [] w1 w') := hn
  have hws : WS S2 (Rd.new S2.c.bits ⟨0, 1, 1, ⟨0, 0⟩⟩ c7) := ⟨RI.new _ _ _ ⟨by decide, by decide⟩ (ownSg_ok (by rw [hc2.1]; exact nb1) (by rw [hc2.1]; exact nb8) _), by rw [hc2.2.2.2.1]; rfl, by rw [hc2.2.2.2.2]; rfl, rfl, by show (0 : Int) ≤ c7; omega, by rw [hcl]; show (c7 : Int) < 8; omega⟩
  have HWS := Lib.hid hws
  clear hc2 hS2 hcl hws
  clear hn hs hf
  go_wp2_with fail
  refine QN.out.mono ?_
  rintro e w3 ⟨b, G, rfl, hrd, _, hk3⟩
  have HW0 : Hid (Wt wb z b false 10 w3) := ⟨F, G, S2, _, HS.out.calm hk3, HF.out.wide (by decide), hrd, HWS.out, rfl⟩
  clear hrd hk3 HS HF QN
  go_wp2_with fail
  go_loopw [12] (fun i wr => ∃ (i' : Nat) (over : Bool), i' ≤ n ∧ i = .int .i64 i' ∧ Wt wb z b over (10 + i') wr) (fun i _ => n - (intOf i).toNat)
  case atStart => exact ⟨0, false, Nat.zero_le _, rfl, HW0.out⟩
  case round =>
    obtain ⟨i', over, hi', rfl, hw⟩ := hrel
    have HW := Lib.hid hw
    clear hw HW0
    have hn48 : n ≤ 1048576 := hn20
    have hw1 : IntKind.i64.wrap ((i' : Int) + 1) = (i' : Int) + 1 := by rw [IntKind.wrap_i64]; omega
    by_cases hlt : (i' : Int) < (n : Int)
    · have q0 : (0 : Int) ≤ (i' : Int) := by omega
      have QD := Lib.hid HW.out.done_
      cases over
      · obtain ⟨gb, off, p, rfl, hp, hat⟩ := HL.out.at_ (k := i') (by omega)
        obtain ⟨t0, t2⟩ := hat wr HW.out.keep
        have HAT := Lib.hid hat
        have HC := Lib.hid (show ∀ w', Keeps [] wr w' → w'.cell? ⟨gb, off + i' * 10 + 2, none⟩ = some (.int .i64 p.i) from fun w' hk => (HAT.out w' (HW.out.keep.trans hk (by simp))).c2)
        have hkB : Keeps [] wr wr := Keeps.refl _ _
        have k1 := and1 p.i
        have hw2 : IntKind.i64.wrap (2 + p.i % 2) = 2 + p.i % 2 := by rw [IntKind.wrap_i64]; omega
        clear hat hp
        by_cases e5 : p.kind = 5
        · rw [e5] at t0
          clear e5
          have QT : Hid (∀ w' (tv : Int), Keeps [] wr w' → tv = 2 + p.i % 2 → Calls Try.prog 26 #[PT z.q, .int .i64 tv] w' fun e w'' => (∃ a c : Int, e = .returned (.tuple #[.int .i64 a, .int .i64 c])) ∧ Wt wb z b false (10 + i' + 1) w'') := fun w' tv hk he => by
            subst he
            exact (HW.out.calm hk).take (by omega) _
          have QG : Hid (∀ w', Keeps [] wr w' → Calls Try.prog 25 #[PT z.p] w' fun e w'' => e = .returned (PT z.q) ∧ w' = w'') := fun w' hk => (HW.out.calm hk).gate
          go_wp2_with fail
          refine QD.out.mono ?_
          rintro e wq ⟨rfl, rfl⟩
          go_wp2_with fail
          go_region_held3 (fun w' => w'.cell? ⟨gb, off + i' * 10 + 2, none⟩ = some (.int .i64 p.i)) (first | with_reducible exact HC.out _ (by first | with_reducible assumption | exact Keeps.drew (by with_reducible assumption)) | with_reducible exact d2 | go_keep) ((first
            | (go_at_call 25; refine (QG.out _ (by first | with_reducible assumption | exact Keeps.drew (by with_reducible assumption))).mono ?_; rintro e wc ⟨rfl, rfl⟩)
            | (go_at_call 26; refine (QT.out _ _ (by first | with_reducible assumption | exact Keeps.drew (by with_reducible assumption)) (by first | exact hw2 | rfl)).mono ?_; rintro e w7 ⟨⟨a, c, rfl⟩, hwt⟩; have d2 := (HAT.out w7 hwt.keep).c2; have HW7 := Lib.hid hwt; clear hwt)))
          go_wp2_with fail
          exact ⟨⟨i' + 1, false, by omega, by simp, HW7.out⟩, by simp [intOf]; omega⟩
        · by_cases e6 : p.kind = 6
          · rw [e6] at t0
            clear e6 e5
            have QT : Hid (∀ w' (tv : Int), Keeps [] wr w' → tv = 2 + p.i % 2 → Calls Try.prog 27 #[PT z.q, .int .i64 tv] w' fun e w'' => (∃ a : Int, e = .returned (.int .i64 a)) ∧ Wt wb z b false (10 + i' + 1) w'') := fun w' tv hk he => by
              subst he
              exact (HW.out.calm hk).give (by omega) _
            have QG : Hid (∀ w', Keeps [] wr w' → Calls Try.prog 25 #[PT z.p] w' fun e w'' => e = .returned (PT z.q) ∧ w' = w'') := fun w' hk => (HW.out.calm hk).gate
            go_wp2_with fail
            refine QD.out.mono ?_
            rintro e wq ⟨rfl, rfl⟩
            go_wp2_with fail
            go_region_held3 (fun w' => w'.cell? ⟨gb, off + i' * 10 + 2, none⟩ = some (.int .i64 p.i)) (first | with_reducible exact HC.out _ (by first | with_reducible assumption | exact Keeps.drew (by with_reducible assumption)) | with_reducible exact d2 | go_keep) ((first
              | (go_at_call 25; refine (QG.out _ (by first | with_reducible assumption | exact Keeps.drew (by with_reducible assumption))).mono ?_; rintro e wc ⟨rfl, rfl⟩)
              | (go_at_call 27; refine (QT.out _ _ (by first | with_reducible assumption | exact Keeps.drew (by with_reducible assumption)) (by first | exact hw2 | rfl)).mono ?_; rintro e w7 ⟨⟨a, rfl⟩, hwt⟩; have d2 := (HAT.out w7 hwt.keep).c2; have HW7 := Lib.hid hwt; clear hwt)))
            go_wp2_with fail
            exact ⟨⟨i' + 1, false, by omega, by simp, HW7.out⟩, by simp [intOf]; omega⟩
          · have f5 : (p.kind == 5) = false := by simp [e5]
            have f6 : (p.kind == 6) = false := by simp [e6]
            clear e5 e6
            have QT := Lib.hid (HW.out.turn 1)
            go_wp2_with fail
            refine QD.out.mono ?_
            rintro e wq ⟨rfl, rfl⟩
            go_wp2_with fail
            refine QT.out.mono ?_
            rintro e w4 ⟨rfl, g, g0, hu⟩
            have HU := Lib.hid hu
            have hm : Int.tmod g 2 = g % 2 := Int.tmod_eq_emod_of_nonneg g0
            clear hu QT QD t0 t2
            go_wp2_with fail
            refine HU.out.gate.mono ?_
            rintro e wq ⟨rfl, rfl⟩
            go_wp2_with fail
            refine HU.out.now.mono ?_
            rintro e w5 ⟨o, rfl, hk5⟩
            have HU5 := Lib.hid (HU.out.calm hk5)
            have hfd : ∀ w, (Instr.field 51 (.agg #[.int .i64 g, .int .i64 o]) 0).run Try.prog w = .ok (.int .i64 g) w := fun w => by kernel_rfl
            clear hk5 HU
            go_wp2_with fail
            refine (HU5.out.step (by omega)).mono ?_
            rintro e w6 ⟨a, kd, ov, rfl, hak, hv⟩
            rcases hak with ⟨rfl, rfl, hg⟩ | ⟨rfl, hg | hg⟩
            · have hgb : (g % 2 == 1) = true := by simp [hg]
              clear hg
              have HV := Lib.hid hv
              have hmc := hv.meter
              clear hv HU5 hfd
              go_wp2_with fail
              refine (HV.out.log (by omega)).mono ?_
              rintro e w7 ⟨lg, lc, lm, rfl, hlm, hcl, hk7⟩
              have HV7 := Lib.hid (HV.out.calm hk7)
              have hmc7 := HV7.out.meter
              have hz1 : (((lm + 1 : Nat) : Int) == 0) = false := by simp; omega
              have hz2 : IntKind.i64.wrap (((lm + 1 : Nat) : Int) - 1) = (lm : Int) := by rw [IntKind.wrap_i64]; omega
              have hz3 : (0 : Int) ≤ (lm : Int) := by omega
              have hz4 : (lm : Int) < ((lm + 1 : Nat) : Int) := by omega
              obtain ⟨ln, hln⟩ : ∃ ln, lm + 1 = ln := ⟨_, rfl⟩
              rw [hln] at hz1 hz2 hz4 ⊢
              clear hk7 HV hmc hln
              go_wp2_with fail
              refine HV7.out.mdone.mono ?_
              rintro e wq ⟨rfl, rfl⟩
              go_wp2_with fail
              exact ⟨⟨i' + 1, ov, by omega, by simp, HV7.out.wt⟩, by simp [intOf]; omega⟩
            · have hkb : (kd == 2) = false := by simp [hg]
              clear hg
              cases hgq : (g % 2 == 1)
              · have HV := Lib.hid hv
                have hmc := hv.meter
                clear hv HU5 hfd
                go_wp2_with fail
                refine (HV.out.log (by omega)).mono ?_
                rintro e w7 ⟨lg, lc, lm, rfl, hlm, hcl, hk7⟩
                have HV7 := Lib.hid (HV.out.calm hk7)
                have hmc7 := HV7.out.meter
                have hz1 : (((lm + 1 : Nat) : Int) == 0) = false := by simp; omega
                have hz2 : IntKind.i64.wrap (((lm + 1 : Nat) : Int) - 1) = (lm : Int) := by rw [IntKind.wrap_i64]; omega
                have hz3 : (0 : Int) ≤ (lm : Int) := by omega
                have hz4 : (lm : Int) < ((lm + 1 : Nat) : Int) := by omega
                obtain ⟨ln, hln⟩ : ∃ ln, lm + 1 = ln := ⟨_, rfl⟩
                rw [hln] at hz1 hz2 hz4 ⊢
                clear hk7 HV hmc hln
                go_wp2_with fail
                refine HV7.out.mdone.mono ?_
                rintro e wq ⟨rfl, rfl⟩
                go_wp2_with fail
                exact ⟨⟨i' + 1, ov, by omega, by simp, HV7.out.wt⟩, by simp [intOf]; omega⟩
              · have HV := Lib.hid hv
                have hmc := hv.meter
                clear hv HU5 hfd
                go_wp2_with fail
                refine (HV.out.log (by omega)).mono ?_
                rintro e w7 ⟨lg, lc, lm, rfl, hlm, hcl, hk7⟩
                have HV7 := Lib.hid (HV.out.calm hk7)
                have hmc7 := HV7.out.meter
                have hz1 : (((lm + 1 : Nat) : Int) == 0) = false := by simp; omega
                have hz2 : IntKind.i64.wrap (((lm + 1 : Nat) : Int) - 1) = (lm : Int) := by rw [IntKind.wrap_i64]; omega
                have hz3 : (0 : Int) ≤ (lm : Int) := by omega
                have hz4 : (lm : Int) < ((lm + 1 : Nat) : Int) := by omega
                obtain ⟨ln, hln⟩ : ∃ ln, lm + 1 = ln := ⟨_, rfl⟩
                rw [hln] at hz1 hz2 hz4 ⊢
                clear hk7 HV hmc hln
                go_wp2_with fail
                refine HV7.out.mdone.mono ?_
                rintro e wq ⟨rfl, rfl⟩
                go_wp2_with fail
                exact ⟨⟨i' + 1, ov, by omega, by simp, HV7.out.wt⟩, by simp [intOf]; omega⟩
            · have hgb : (g % 2 == 1) = false := by simp [hg]
              clear hg
              have HV := Lib.hid hv
              have hmc := hv.meter
              clear hv HU5 hfd
              go_wp2_with fail
              refine (HV.out.log (by omega)).mono ?_
              rintro e w7 ⟨lg, lc, lm, rfl, hlm, hcl, hk7⟩
              have HV7 := Lib.hid (HV.out.calm hk7)
              have hmc7 := HV7.out.meter
              have hz1 : (((lm + 1 : Nat) : Int) == 0) = false := by simp; omega
              have hz2 : IntKind.i64.wrap (((lm + 1 : Nat) : Int) - 1) = (lm : Int) := by rw [IntKind.wrap_i64]; omega
              have hz3 : (0 : Int) ≤ (lm : Int) := by omega
              have hz4 : (lm : Int) < ((lm + 1 : Nat) : Int) := by omega
              obtain ⟨ln, hln⟩ : ∃ ln, lm + 1 = ln := ⟨_, rfl⟩
              rw [hln] at hz1 hz2 hz4 ⊢
              clear hk7 HV hmc hln
              go_wp2_with fail
              refine HV7.out.mdone.mono ?_
              rintro e wq ⟨rfl, rfl⟩
              go_wp2_with fail
              exact ⟨⟨i' + 1, ov, by omega, by simp, HV7.out.wt⟩, by simp [intOf]; omega⟩
      · go_wp2_with fail
        refine QD.out.mono ?_
        rintro e wq ⟨rfl, rfl⟩
        go_wp2_with fail
        go_ret
        exact ⟨rfl, (HKB.out.trans HW.out.keep (by simp)).below (by simp) (Nat.le_refl _)⟩
    · go_wp2_with fail
      go_ret
      exact ⟨rfl, (HKB.out.trans HW.out.keep (by simp)).below (by simp) (Nat.le_refl _)⟩

theorem own : ownKnob Try.prog.godebug = none := by kernel_rfl
theorem laidOut : laidOutB Try.prog = true := by kernel_rfl
set_option maxRecDepth 100000 in
theorem lifted (os : Os) (started : os.Started) (H : Type) (enc : TypeId × Value → H) (F : Stop.Interp) :
    ReturnsInHanded {} Try.checked os 5 .any ((Rows.OpenSpec.upto Rows.readWaitsSpec).pre6 enc Try.prog Try.f5 Rows.readWaitsUptoRow.domain false) (((Rows.OpenSpec.upto Rows.readWaitsSpec).at F).post enc Try.prog Try.f5 false true false false) := by
  refine returnsInHanded_of_cond (C := Try.checked) (s := Rows.OpenSpec.upto Rows.readWaitsSpec) (k := Rows.uptoSmall) rfl own started (by kernel_rfl) Try.func5
    (OpenSpec.witness (enc := enc) (C := Try.checked) (s := Rows.OpenSpec.upto Rows.readWaitsSpec) (k := Rows.uptoSmall) rfl false ⟨#[], #[.int .i64 0, .int .i64 0, .slice none 0 0], []⟩ 8 (by kernel_rfl) (by kernel_rfl) (by kernel_rfl)
      (x := ([.lit (.int .i64 0), .lit (.int .i64 0), .nil], [], [])) (by kernel_rfl) rfl (by kernel_rfl)) ?_
  intro W base args ds gs before hval0 hW _ hk _
  have hval : ∀ (j : Nat) t v, Try.f5.params[j]? = some t → args[j]? = some v → Value.okWide Try.prog W .any base t v := hval0
  have hW' := hW
  obtain ⟨p, q, hA0, hV, rfl, hfz, hnd⟩ := hW
  have hA : DataW.TrodAll enc Try.prog W 0 (fun _ => true) true Try.f5.params.toList args.toList ds p := hA0
  rw [Try.params5] at hA hval
  obtain ⟨v0, vs0, d0, ds0, p0, q0, hargs, rfl, rfl, h0, r0⟩ := trodAll_cons hA
  obtain ⟨v1, vs1, d1, ds1, p1, q1, rfl, rfl, rfl, h1, r1⟩ := trodAll_cons r0
  obtain ⟨v2, vs2, d2, ds2, p2, q2, rfl, rfl, rfl, h2, r2⟩ := trodAll_cons r1
  obtain ⟨rfl, rfl, rfl⟩ := trodAll_nil r2
  obtain rfl : args = #[v0, v1, v2] := by cases args; simp_all
  obtain ⟨rfl, rfl⟩ := trodVars_none hV
  obtain ⟨a0, rfl, rfl, rfl, w0⟩ := open_int Try.underlying3 (hval 0 3 v0 rfl rfl) h0
  obtain ⟨a1, rfl, rfl, rfl, w1⟩ := open_int Try.underlying3 (hval 1 3 v1 rfl rfl) h1
  have k2 := h2
  have lt2 : ∀ x ∈ p2, x.block < W.heap.size := by obtain ⟨m, hm⟩ := k2; exact DataW.trod_lt m _ _ _ hm
  obtain ⟨A2, n2, c2, rfl⟩ := okWide_slice Try.underlying64 (hval 2 64 v2 rfl rfl)
  obtain ⟨l2, s2⟩ : ∃ l, LstOp W A2 n2 c2 l := by
    obtain ⟨fl2, hf2⟩ := h2
    exact lstOp_open hf2 (bulks.small hk (by simp))
  clear hA0 hval0
  refine (walk a0 a1 A2 n2 c2 l2 W w0 w1 s2).mono fun e W' ⟨he, bel⟩ => ?_
  subst he
  exact ⟨_, rfl, _, _, _, [], _, [], hW', trodAll_mk1 (shut_bool Try.underlying4 _), (trodAll_cons_mk (shut_int Try.underlying3 w0) (trodAll_cons_mk (shut_int Try.underlying3 w1) (trodAll_cons_mk (Below.trod laidOut (by kernel_rfl) (of_decide_eq_true (by kernel_rfl)) k2 bel lt2) trodAll_mk0))), rfl, bel.frame _, fun h => by cases h⟩

/-- The statement: the second form. -/
theorem proved : Rows.ReadWaitsUptoSaid :=
  OpenClaim.holds_of_cond 5 Try.f5 rfl rfl rfl rfl rfl rfl rfl ⟨rfl, rfl, rfl, rfl, rfl⟩ rfl rfl rfl rfl rfl (by kernel_rfl) Try.func5 (by kernel_rfl)
    (of_decide_eq_true (by kernel_rfl)) (by unfold Func.isWrapper; first | (rw [if_pos (by decide +kernel)]; kernel_rfl) | (rw [if_neg (by decide +kernel)]; exact ⟨rfl, rfl⟩))
    (fun os started H enc _ F => lifted os started H enc F)
#print axioms proved
end Go.Proofs.Ytelljfhhjapgnaa.readWaits
