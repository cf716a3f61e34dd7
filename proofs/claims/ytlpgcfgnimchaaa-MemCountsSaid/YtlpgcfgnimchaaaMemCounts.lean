/- MemCounts -/
import Derived.Test.YtlpgcfgnimchaaaRows
import Derived.Test.YtlpgcfgnimchaaaPairs
import Derived.Test.YtlpgcfgnimchaaaMCountsP
import Derived.Test.YtlpgcfgnimchaaaAwake1
import Derived.Test.YtlpgcfgnimchaaaScript1
import Derived.Deep.RegionHeld3
import Derived.BigQuiet
import Derived.Deep.QuietTactic
import Derived.WalkKit
import Derived.ProofKit
import Derived.OpenShut
import Derived.ShutString
import Derived.ChangeOld
import Derived.Below
import Derived.Carry
namespace Go.Proofs.Ytlpgcfgnimchaaa.memCounts
open Go.ChangeShapes Go.WideShapes Go.ChangeAt Go.RowKit
set_option linter.unusedVariables false


theorem log_slc (w : World) (g lb : Nat) (s : MS) (hm : MetAt MT w (some g) lb s) (hl : s.log.length ≤ 2199023255552) :
    Calls Try.prog 21 #[PM (some g)] w fun e w' => ∃ A c, e = .returned (.slice A s.log.length c) ∧ LogSlc w' A s.log ∧ Keeps [] w w' :=
  (log_some w g lb s hm hl).mono fun e w' ⟨v, he, h1, h2⟩ => by
    obtain ⟨A, c, hv, _, h3⟩ := LogSlc.of_own h1 hl
    exact ⟨A, c, by rw [he, hv], h3, h2⟩
theorem i64_and63 (n : Int) : bits .and .i64 n 63 = n % 64 := by
  have h63 : (BitVec.ofInt 64 63).toNat = 2 ^ 6 - 1 := by decide
  have key : (BitVec.ofInt 64 n &&& BitVec.ofInt 64 63).toNat = (n % ((2 ^ 64 : Nat) : Int)).toNat % 2 ^ 6 := by
    rw [BitVec.toNat_and, BitVec.toNat_ofInt, h63, Nat.and_two_pow_sub_one_eq_mod]
  show IntKind.i64.wrap ((BitVec.ofInt 64 n &&& BitVec.ofInt 64 63).toNat : Nat) = n % 64
  rw [key, IntKind.wrap_i64]
  omega
set_option maxRecDepth 100000 in
set_option maxHeartbeats 2000000 in
theorem walk (m : Int) (A : Option Addr) (n c : Nat) (ops : List Opd) (w : World) (hwm : (Lit.int IntKind.i64 m).wf = true) (hs : Script w A n c ops) :
    Calls Try.prog 5 #[.int .i64 m, .slice A n c] w fun e w' => e = .returned (.bool true) ∧ Below w.heap.size w w' := by
  have HSC := Lib.hid hs
  have hn := hs.2.2.1
  have hni : (n : Int) ≤ 2199023255488 := by omega
  have hbm := i64_and63 m
  obtain ⟨q, hq⟩ : ∃ q : Nat, m % 64 = q := ⟨(m % 64).toNat, by omega⟩
  rw [hq] at hbm
  have hq2 : q < 64 := by omega
  clear hs hq
  go_enter Try.func5, Try.ntmps5
  go_wp2_with fail
  refine (awake1 _).mono ?_
  rintro e w1 ⟨rfl, hk1⟩
  have HK1 := Lib.hid hk1
  clear hk1
  go_wp2_with fail
  refine (StM.new w1).mono ?_
  rintro e w2 ⟨g, rfl, hst⟩
  have H2 := Lib.hid hst
  clear hst
  have hrow := H2.out.row 4 (1 + q) (by omega) (by omega)
  rw [show (((1 + q : Nat) : Int)) = 1 + (q : Int) by omega] at hrow
  have HROW := Lib.hid hrow
  clear hrow
  go_wp2_with fail
  refine HROW.out.mono ?_
  rintro e w3 ⟨r, b, rfl, hst3⟩
  have H3 := Lib.hid (show CInv w1 w3 g r b 0 0 from ⟨_, _, hst3, Inv.zero, rfl, by omega⟩)
  clear hst3 H2 HROW
  go_wp2_with fail
  go_loopw [9, 10] (fun calls i wr => ∃ k cc : Nat, k ≤ n ∧ i = .int .i64 k ∧ cc ≤ k ∧ calls = .int .i64 cc ∧ CInv w1 wr g r b k cc) (fun _ i _ => n - (intOf i).toNat)
  case atStart => exact ⟨0, 0, Nat.zero_le _, rfl, Nat.zero_le _, rfl, H3.out⟩
  case round =>
    obtain ⟨k, cc, hk, rfl, hcc, rfl, hci⟩ := hrel
    have HC := Lib.hid hci
    have KW := Lib.hid (HK1.out.trans hci.kept (by simp))
    clear hci
    by_cases hlt : k < n
    · obtain ⟨ab, off, p, rfl, hp, hcell⟩ := HSC.out.at_ hlt
      have hop := hcell wr (KW.out.below (by simp) (Nat.le_refl _))
      have HCELL := Lib.hid hcell
      have c1 := hop.c1
      have c2 := hop.c2
      have c3 := hop.c3
      have c4 := hop.c4
      clear hop hcell hp
      have k0 : (0 : Int) ≤ (k : Int) := by omega
      have k1 : (k : Int) < (n : Int) := by omega
      have kb : k + 1 < 2199023255552 := by omega
      have ccb : (cc : Int) ≤ 2199023255488 := by omega
      obtain ⟨po, pk, pi, px, pold, pA, pn, pcap, pxs⟩ := p
      simp only at c1 c2 c3 c4
      by_cases e1 : pk = 1
      · subst e1
        go_wp2_with fail
        refine (HC.out.begin kb 1).mono ?_
        rintro e w4 ⟨rfl, hc⟩
        have HC2 := Lib.hid hc
        clear hc
        go_wp2_with fail
        go_roundw
        case rel => exact ⟨k + 1, cc, by omega, by go_num, by omega, rfl, HC2.out⟩
        case measure => simp [intOf]; omega
      have n1 : (pk == 1) = false := by simpa using e1
      by_cases e2 : pk = 2
      · subst e2
        go_wp2_with fail
        refine (HC.out.load kb pi).mono ?_
        rintro e w4 ⟨v, f, rfl, hf0⟩
        have HF := Lib.hid hf0
        clear hf0
        rcases HF.out with ⟨rfl, hc⟩ | ⟨rfl, hc⟩
        · have HC := Lib.hid hc
          clear hc
          go_wp2_with fail
          go_roundw
          case rel => exact ⟨k + 1, cc + 1, by omega, by go_num, by omega, by go_num, HC.out⟩
          case measure => simp [intOf]; omega
        · have HC := Lib.hid hc
          clear hc
          go_wp2_with fail
          go_roundw
          case rel => exact ⟨k + 1, cc, by omega, by go_num, by omega, rfl, HC.out⟩
          case measure => simp [intOf]; omega
      have n2 : (pk == 2) = false := by simpa using e2
      by_cases e3 : pk = 3
      · subst e3
        go_wp2_with fail
        go_region_held3 (fun w' => w'.cell? ⟨ab, off + k * 6 + 2, none⟩ = some (.int .i64 pi) ∧ w'.cell? ⟨ab, off + k * 6 + 3, none⟩ = some (.int .i64 px) ∧ w'.cell? ⟨ab, off + k * 6 + 4, none⟩ = some (.int .i64 pold)) (first | exact ⟨d2, d3, d4⟩ | exact ⟨c2, c3, c4⟩ | go_keep) ((go_at_call 19; refine (HC.out.drew.store kb pi px).mono ?_; rintro e w4 ⟨f, rfl, HF0⟩; have HF := Lib.hid HF0; have hop4 := HCELL.out w4 (HK1.out.trans (show Keeps [] w1 w4 from HF0.elim (fun h => h.2.kept) (fun h => h.2.kept)) (fun _ h => nomatch h) |>.below (fun _ h => nomatch h) (Nat.le_refl _)); have d2 := hop4.c2; have d3 := hop4.c3; have d4 := hop4.c4; clear HF0 hop4))
        rcases HF.out with ⟨rfl, hc⟩ | ⟨rfl, hc⟩
        · have HC := Lib.hid hc
          clear hc
          go_wp2_with fail
          go_roundw
          case rel => exact ⟨k + 1, cc + 1, by omega, by go_num, by omega, by go_num, HC.out⟩
          case measure => simp [intOf]; omega
        · have HC := Lib.hid hc
          clear hc
          go_wp2_with fail
          go_roundw
          case rel => exact ⟨k + 1, cc, by omega, by go_num, by omega, rfl, HC.out⟩
          case measure => simp [intOf]; omega
      have n3 : (pk == 3) = false := by simpa using e3
      by_cases e4 : pk = 4
      · subst e4
        go_wp2_with fail
        go_region_held3 (fun w' => w'.cell? ⟨ab, off + k * 6 + 2, none⟩ = some (.int .i64 pi) ∧ w'.cell? ⟨ab, off + k * 6 + 3, none⟩ = some (.int .i64 px) ∧ w'.cell? ⟨ab, off + k * 6 + 4, none⟩ = some (.int .i64 pold)) (first | exact ⟨d2, d3, d4⟩ | exact ⟨c2, c3, c4⟩ | go_keep) ((go_at_call 20; refine (HC.out.drew.trade kb pi pold px).mono ?_; rintro e w4 ⟨v, dn, f, rfl, HF0⟩; have HF := Lib.hid HF0; have hop4 := HCELL.out w4 (HK1.out.trans (show Keeps [] w1 w4 from HF0.elim (fun h => h.2.kept) (fun h => h.2.kept)) (fun _ h => nomatch h) |>.below (fun _ h => nomatch h) (Nat.le_refl _)); have d2 := hop4.c2; have d3 := hop4.c3; have d4 := hop4.c4; clear HF0 hop4))
        rcases HF.out with ⟨rfl, hc⟩ | ⟨rfl, hc⟩
        · have HC := Lib.hid hc
          clear hc
          go_wp2_with fail
          go_roundw
          case rel => exact ⟨k + 1, cc + 1, by omega, by go_num, by omega, by go_num, HC.out⟩
          case measure => simp [intOf]; omega
        · have HC := Lib.hid hc
          clear hc
          go_wp2_with fail
          go_roundw
          case rel => exact ⟨k + 1, cc, by omega, by go_num, by omega, rfl, HC.out⟩
          case measure => simp [intOf]; omega
      have n4 : (pk == 4) = false := by simpa using e4
      have HCS := Lib.hid (HC.out.skip kb)
      go_wp2_with fail
      go_roundw
      case rel => exact ⟨k + 1, cc, by omega, by go_num, by omega, rfl, HCS.out⟩
      case measure => simp [intOf]; omega
    · have hge : ¬ ((k : Int) < (n : Int)) := by omega
      obtain ⟨l, s, hst, hinv, rfl, _⟩ := HC.out
      obtain ⟨lb, hm, _⟩ := hst.2.1
      have HM := Lib.hid hm
      have hsl := hinv.len
      have hslen : (s.log.length : Int) ≤ 2199023255488 := by omega
      have HB := Lib.hid hinv.best
      clear hst hm hinv hcc HC
      go_wp2_with fail
      refine (log_slc _ g lb s HM.out (by omega)).mono ?_
      rintro e w5 ⟨A5, c5, rfl, hl5, k5⟩
      have L5 := Lib.hid hl5
      have KW5 := Lib.hid (KW.out.trans k5 (by simp))
      have HM5 := Lib.hid (HM.out.keeps k5 (by simp))
      obtain ⟨T, hT⟩ : ∃ T, stepsOf s.log = T := ⟨_, rfl⟩
      have hTl : T.length = s.log.length := by rw [← hT]; simp [stepsOf]
      have HT := Lib.hid hT
      rw [hT] at HB
      have hstep : Hid (∀ i x, T[i]? = some x → ∃ b5, A5 = some ⟨b5, 0, none⟩ ∧ b5 < w5.heap.size ∧ w5.cell? ⟨b5, i * 6, none⟩ = some (.int .i64 x)) := by
        unfold Hid
        intro i x hx
        rw [← hT] at hx
        unfold stepsOf at hx
        rw [List.getElem?_map] at hx
        obtain ⟨y, hy, rfl⟩ := Option.map_eq_some_iff.1 hx
        rcases L5.out.2 with h0 | ⟨b5, hA, hb, hc⟩
        · rw [h0] at hy; simp at hy
        · exact ⟨b5, hA, hb, hc i y hy 0 _ rfl⟩
      clear hl5 k5 hT KW HM HK1 H3 HSC
      go_wp2_with fail
      go_loopw [13, 14] (fun most i wr => ∃ (j : Nat) (mo : Int), i = .int .i64 j ∧ most = .int .i64 mo ∧ AtRun T j mo ∧ Keeps [] w5 wr) (fun _ i _ => s.log.length - (intOf i).toNat)
      case atStart => exact ⟨0, 0, rfl, rfl, AtRun.zero _, Keeps.refl _ _⟩
      case round =>
        obtain ⟨j, mo, rfl, rfl, har, hkk⟩ := hrel
        have HAR := Lib.hid har
        have HKK := Lib.hid hkk
        have hjl := har.le
        clear har hkk
        by_cases hj : j < s.log.length
        · obtain ⟨x, hx⟩ : ∃ x, T[j]? = some x := ⟨_, List.getElem?_eq_getElem (by omega)⟩
          have HIN := Lib.hid (HAR.out.enter hx)
          obtain ⟨b5, rfl, hb5, hcx⟩ := hstep.out j x hx
          have HCX := Lib.hid hcx
          clear hx hcx
          have j0 : (0 : Int) ≤ (j : Int) := by omega
          have j1 : (j : Int) < (s.log.length : Int) := by omega
          go_wp2_with fail
          go_loopw [15] (fun kk wq => ∃ k2 : Nat, kk = .int .i64 k2 ∧ InRun T j k2 x mo ∧ Keeps [] w5 wq) (fun kk _ => s.log.length - (intOf kk).toNat)
          case atStart => exact ⟨j, rfl, HIN.out, HKK.out⟩
          case round =>
            obtain ⟨k2, rfl, hir, hkq⟩ := hrel
            have HIR := Lib.hid hir
            have HKQ := Lib.hid hkq
            have hle2 := hir.le
            have hik2 := hir.ik
            have dx := (keeps_cell hkq (p := ⟨b5, j * 6, none⟩) hb5 (by simp)).trans HCX.out
            clear hir hkq
            have s0 : (0 : Int) ≤ (k2 : Int) := by omega
            by_cases hk2 : k2 < s.log.length
            · obtain ⟨y, hy⟩ : ∃ y, T[k2]? = some y := ⟨_, List.getElem?_eq_getElem (by omega)⟩
              obtain ⟨b6, hb6, _, hcy⟩ := hstep.out k2 y hy
              injection hb6 with hb6
              injection hb6 with hb6
              subst hb6
              have dy := (keeps_cell HKQ.out (p := ⟨b5, k2 * 6, none⟩) hb5 (by simp)).trans hcy
              have HY := Lib.hid hy
              have s1 : (k2 : Int) < (s.log.length : Int) := by omega
              clear hy hcy
              cases hc : (y == x)
              · have hlt2 : j < k2 := by
                  rcases Nat.lt_or_ge j k2 with h | h
                  · exact h
                  · have e : k2 = j := by omega
                    subst e
                    have := HY.out.symm.trans HIN.out.at_
                    injection this with this
                    simp [this] at hc
                have hne : y ≠ x := by simpa using hc
                have HL := Lib.hid (HIR.out.leave hlt2 (fun z hz => by rw [HY.out] at hz; injection hz with hz; exact hz ▸ hne))
                clear hne
                go_wp2_with fail
                go_quiet (fail)
                go_wp2_with fail
                exact ⟨⟨k2, _, rfl, rfl, HL.out, HKQ.out.drewN _⟩, by simp [intOf]; omega⟩
              · have e : y = x := by simpa using hc
                subst e
                have HN := Lib.hid (HIR.out.next HY.out)
                go_wp2_with fail
                go_quiet (fail)
                go_wp2_with fail
                go_roundw
                case rel => exact ⟨k2 + 1, by go_num, HN.out, HKQ.out.drewN _⟩
                case measure => simp [intOf]; omega
            · have ek : k2 = s.log.length := by omega
              subst ek
              have HL := Lib.hid (HIR.out.leave (by omega) (fun z hz => by have := (List.getElem?_eq_some_iff.1 hz).1; omega))
              have hlt2 : j < s.log.length := by omega
              have hd : decide ((s.log.length : Int) < (s.log.length : Int)) = false := by simp
              clear hk2
              go_wp2_with fail
              go_quiet (fail)
              go_wp2_with fail
              exact ⟨⟨s.log.length, _, rfl, rfl, HL.out, HKQ.out.drewN _⟩, by simp [intOf]; omega⟩
        · have hge2 : ¬ ((j : Int) < (s.log.length : Int)) := by omega
          have ej : j = T.length := by omega
          have hmo : mo = s.most := by
            have h1 := HAR.out.best
            rw [ej, List.take_length] at h1
            rw [← h1]; exact HB.out
          subst hmo
          have HME := Lib.hid (most_some wr g lb s (HM5.out.keeps HKK.out (by simp)))
          go_wp2_with fail
          refine HME.out.mono ?_
          rintro e w6 ⟨rfl, rfl⟩
          go_wp2_with fail
          go_ret
          exact ⟨rfl, (KW5.out.trans HKK.out (by simp)).below (by simp) (Nat.le_refl _)⟩

theorem own : ownKnob Try.prog.godebug = none := by kernel_rfl
theorem laidOut : laidOutB Try.prog = true := by kernel_rfl

set_option maxRecDepth 100000 in
theorem lifted (os : Os) (started : os.Started) (H : Type) (enc : TypeId × Value → H) :
    ReturnsInHanded {} Try.checked os 5 .any (Rows.memCountsSpec.pre6 enc Try.prog Try.f5 Rows.memCountsRow.domain false) (Rows.memCountsSpec.post enc Try.prog Try.f5 false true false false) := by
  refine returnsInHanded_of_change_sized (C := Try.checked) own started (by kernel_rfl) Try.func5
    (ChangeSpec.witness6 (enc := enc) (C := Try.checked) false ⟨#[], #[.int .i64 0, .slice none 0 0], []⟩ 8 (by kernel_rfl) (by kernel_rfl) (by kernel_rfl) (by kernel_rfl)) ?_
  intro W base args ds gs before hval0 hW hcnd hsz _
  have hval : ∀ (j : Nat) t v, Try.f5.params[j]? = some t → args[j]? = some v → Value.okWide Try.prog W .any base t v := hval0
  have hW' := hW
  obtain ⟨p, q, hA0, hV, rfl, hfz, hnd⟩ := hW
  have hA : DataW.TrodAll enc Try.prog W 0 (fun _ => true) true Try.f5.params.toList args.toList ds p := hA0
  rw [Try.params5] at hA hval
  obtain ⟨v0, vs0, d0, ds0, p0, q0, hargs, rfl, rfl, h0, r0⟩ := trodAll_cons hA
  obtain ⟨v1, vs1, d1, ds1, p1, q1, rfl, rfl, rfl, h1, r1⟩ := trodAll_cons r0
  obtain ⟨rfl, rfl, rfl⟩ := trodAll_nil r1
  obtain rfl : args = #[v0, v1] := by cases args; simp_all
  obtain ⟨rfl, rfl⟩ := trodVars_none hV
  obtain ⟨a0, rfl, rfl, rfl, w0⟩ := open_int Try.underlying3 (hval 0 3 v0 rfl rfl) h0
  have k1 := h1
  have lt1 : ∀ x ∈ p1, x.block < W.heap.size := by obtain ⟨m, hm⟩ := k1; exact DataW.trod_lt m _ _ _ hm
  obtain ⟨A1, n1, c1, rfl⟩ := okWide_slice Try.underlying41 (hval 1 41 v1 rfl rfl)
  obtain ⟨ops1, s1⟩ : ∃ ops, Script W A1 n1 c1 ops := by
    obtain ⟨fuel, hf⟩ := h1
    exact script_open hf (fun q hq => by have h := List.all_eq_true.1 hsz _ (DataW.weights_mem_each (j := 1) (t := 41) (d := d1) rfl rfl q hq); simpa using h)
  clear hA0 hval0
  refine (walk a0 A1 n1 c1 ops1 W w0 s1).mono fun e W' ⟨he, bel⟩ => ?_
  subst he
  exact ⟨_, rfl, _, _, _, [], _, [], hW', trodAll_mk1 (shut_bool Try.underlying4 _), (trodAll_cons_mk (shut_int Try.underlying3 w0) (trodAll_cons_mk (Below.trod laidOut (by kernel_rfl) (of_decide_eq_true (by kernel_rfl)) k1 bel lt1) trodAll_mk0)), rfl, bel.frame _, fun h => by cases h⟩

theorem over : Rows.memCountsRow.holds Try.pinned (OpenSpec.ofChange Rows.memCountsSpec) :=
  OpenClaim.holds_of_wide 5 Try.f5 rfl rfl rfl rfl rfl rfl rfl ⟨rfl, rfl, rfl, rfl, rfl⟩ rfl rfl rfl rfl rfl (by kernel_rfl) Try.func5 (by kernel_rfl)
    (of_decide_eq_true (by kernel_rfl)) (by unfold Func.isWrapper; first | (rw [if_pos (by decide +kernel)]; kernel_rfl) | (rw [if_neg (by decide +kernel)]; exact ⟨rfl, rfl⟩))
    (fun os started H enc _ => lifted os started H enc)

/-- The statement. -/
theorem proved : Rows.MemCountsSaid := over
#print axioms proved
end Go.Proofs.Ytlpgcfgnimchaaa.memCounts
