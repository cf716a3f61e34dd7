/- ReadDoomed: a read is refused just if its attempt is doomed, freed or another generation's when it asks its head: the call returns true for every three ints. -/
import Derived.Test.YtelljfhhjapgnaaRows
import Derived.Test.YtelljfhhjapgnaaAlOps
import Derived.Test.YtelljfhhjapgnaaAw11
import Derived.Deep.QuietTactic
import Derived.BigQuiet
import Derived.WalkKit
import Derived.ProofKit
import Derived.OpenShut
import Derived.ShutString
import Derived.ChangeOld
import Derived.Below
import Derived.Carry
namespace Go.Proofs.Ytelljfhhjapgnaa.readDoomed
open Go.ChangeShapes Go.WideShapes Go.ChangeAt Go.RowKit
set_option linter.unusedVariables false
set_option linter.unusedSimpArgs false

/-- What the reader's cells are. -/
def L8 : List Int := [1, 2, 3, 4, 5, 6, 7, 8] ++ List.replicate 8 0
theorem L8_at (q : Nat) (hq : q < 8) : (nth L8 (q : Int)).getD 0 = 1 + q := by
  obtain rfl | rfl | rfl | rfl | rfl | rfl | rfl | rfl : q = 0 ∨ q = 1 ∨ q = 2 ∨ q = 3 ∨ q = 4 ∨ q = 5 ∨ q = 6 ∨ q = 7 := by omega
  all_goals rfl
set_option maxRecDepth 100000 in
set_option maxHeartbeats 16000000 in
theorem walk (cell wen how : Int) (w : World) (_ : (Lit.int IntKind.i64 cell).wf = true) (_ : (Lit.int IntKind.i64 wen).wf = true) (_ : (Lit.int IntKind.i64 how).wf = true) : Calls Try.prog 4 #[.int .i64 cell, .int .i64 wen, .int .i64 how] w fun e w' => e = .returned (.bool true) ∧ Below w.heap.size w w' := by
  have m1 := and7' cell
  have m2 := and7' wen
  have m3 := and3' how
  obtain ⟨c7, hc7, c7l⟩ : ∃ q : Nat, cell % 8 = q ∧ q < 8 := ⟨(cell % 8).toNat, by omega, by omega⟩
  obtain ⟨a7, ha7, a7l⟩ : ∃ q : Nat, wen % 8 = q ∧ q < 8 := ⟨(wen % 8).toNat, by omega, by omega⟩
  rw [hc7] at m1
  rw [ha7] at m2
  clear hc7 ha7
  go_enter Try.func4, Try.ntmps4
  go_wp2_with fail
  refine (awake11 _).mono ?_
  rintro e wb ⟨rfl, hk⟩
  have HKB := Lib.hid hk
  clear hk
  go_wp2_with fail
  refine (reader_any wb 16 128 (by decide) (by decide) (by decide) (by decide)).mono ?_
  rintro e w1 ⟨z, F, rfl, hs, hf⟩
  have HS0 := Lib.hid hs
  have HF0 := Lib.hid hf
  clear hs hf
  go_wp2_with fail
  have hfl := sp_fill (HS0.out.calm (show Keeps [] w1 (w1.alloc (.cells #[.int .i64 1, .int .i64 2, .int .i64 3, .int .i64 4, .int .i64 5, .int .i64 6, .int .i64 7, .int .i64 8] 2)) by simp)) (some ⟨w1.heap.size, 0, none⟩) [1, 2, 3, 4, 5, 6, 7, 8] 8 (src_ints w1 [1, 2, 3, 4, 5, 6, 7, 8] _ rfl) (by decide)
  refine hfl.mono ?_
  rintro e w2 ⟨rfl, F2, hs2, _, _⟩
  have hf2 := HF0.out.fill [1, 2, 3, 4, 5, 6, 7, 8]
  have hr : ((sp11 16 128).fill [1, 2, 3, 4, 5, 6, 7, 8]).1 = 0 := rfl
  have hc2 : ((sp11 16 128).fill [1, 2, 3, 4, 5, 6, 7, 8]).2.c = c11 16 128 ∧ ((sp11 16 128).fill [1, 2, 3, 4, 5, 6, 7, 8]).2.gate.number = 0 ∧ ((sp11 16 128).fill [1, 2, 3, 4, 5, 6, 7, 8]).2.cells = L8 ∧ ((sp11 16 128).fill [1, 2, 3, 4, 5, 6, 7, 8]).2.H = [hd0] ∧ ((sp11 16 128).fill [1, 2, 3, 4, 5, 6, 7, 8]).2.W = [0, 0] := ⟨rfl, rfl, rfl, rfl, rfl⟩
  rw [hr]
  obtain ⟨S2, hS2⟩ : ∃ S, ((sp11 16 128).fill [1, 2, 3, 4, 5, 6, 7, 8]).2 = S := ⟨_, rfl⟩
  rw [hS2] at hs2 hf2 hc2
  have HS2 := Lib.hid hs2
  have HF2 := Lib.hid hf2
  have HC2 := Lib.hid hc2
  clear hs2 hf2 hc2 hfl hr hS2 HS0 HF0
  have hn := read_new HS2.out HF2.out ⟨0, 1, 1, ⟨0, 0⟩⟩ ⟨by decide, by decide⟩ (c7 : Int) (by omega) (by rw [HC2.out.1]; show (c7 : Int) < 16; omega) (by decide) (by rw [HC2.out.1]; decide)
  have QN : Hid (Calls Try.prog 13 #[PT z.p, .agg #[.int .i64 0, .int .i64 1, .int .i64 1, .int .u64 0, .int .u64 0], .int .i64 c7] w2 fun e w' => ∃ b G, e = .returned (.tuple #[PT b, .int .i64 0]) ∧ RD wb w' z F2 b G (Rd.new S2.c.bits ⟨0, 1, 1, ⟨0, 0⟩⟩ c7) ∧ (∀ q, q ∈ G → w2.heap.size ≤ q) ∧ Keeps [] w2 w') := hn
  clear hn
  go_wp2_with fail
  refine QN.out.mono ?_
  rintro e w3 ⟨b, G, rfl, hrd, _, hk3⟩
  obtain ⟨own, hown⟩ : ∃ o, ownSg 128 (c7 : Int) = o := ⟨_, rfl⟩
  have hoo : own.ok := by rw [← hown]; exact ownSg_ok (by decide) (by decide) _
  have has := AS.new (c := c11 16 128) (L := L8) (h := hd0) (f := ⟨0, 1, 1, ⟨0, 0⟩⟩) (cell := (c7 : Int)) (v := 1 + (c7 : Int)) hown HC2.out.1 HC2.out.2.1 HC2.out.2.2.1 HC2.out.2.2.2.1 HC2.out.2.2.2.2 rfl rfl ⟨by decide, by decide⟩ hoo (L8_at c7 c7l)
  have hwl := wordsL_len (own.minus ⟨0, 0⟩)
  obtain ⟨R0, hR0, r5, r7⟩ : ∃ R : Nat, (wordsL (own.minus ⟨0, 0⟩)).length + (if (1 : Int) = 0 then 3 else 5) = R ∧ 5 ≤ R ∧ R ≤ 7 := ⟨_, rfl, by rw [if_neg (by decide)]; omega, by rw [if_neg (by decide)]; omega⟩
  obtain ⟨bo, hbo⟩ : ∃ o, Sg.join ⟨0, 0⟩ own = o := ⟨_, rfl⟩
  have has2 : AS (c11 16 128) L8 hd0 (1 + (c7 : Int)) c7 (Sg.join ⟨0, 0⟩ own) S2 (Rd.new S2.c.bits ⟨0, 1, 1, ⟨0, 0⟩⟩ c7) ((wordsL (own.minus ⟨0, 0⟩)).length + (if (1 : Int) = 0 then 3 else 5)) := has
  rw [hR0, hbo] at has2
  have HA0 : Hid (Al wb z b (c11 16 128) L8 hd0 (1 + (c7 : Int)) c7 bo R0 10 w3) := ⟨F2, G, S2, _, HS2.out.calm hk3, HF2.out.wide (by decide), hrd, has2⟩
  clear hrd hk3 has has2 hwl hR0 hbo hown hoo HS2 QN
  go_wp2_with fail
  go_loopw [12, 14, 15] (fun st so i wr => ∃ (i' : Nat) (sp : Bool) (hx : Hd), i' ≤ R0 ∧ i = .int .i64 i' ∧ st = .int .i64 i' ∧ so = .bool sp ∧ Al wb z b (c11 16 128) L8 hx (1 + (c7 : Int)) c7 bo (R0 - i') (10 + 4 * i') wr ∧ good hx = !sp ∧ (i' ≤ a7 → hx = hd0 ∧ sp = false)) (fun _ _ i _ => 12 - (intOf i).toNat)
  case atStart => exact ⟨0, false, hd0, Nat.zero_le _, rfl, rfl, rfl, HA0.out, rfl, fun _ => ⟨rfl, rfl⟩⟩
  case round =>
    obtain ⟨i', sp, hx, hi', rfl, rfl, rfl, ha, hgd, hst⟩ := hrel
    have HA := Lib.hid ha
    clear ha HA0
    have h12 : (i' : Int) < 12 := by omega
    have hw1 : IntKind.i64.wrap ((i' : Int) + 1) = (i' : Int) + 1 := by rw [IntKind.wrap_i64]; omega
    have hd := HA.out.done_
    by_cases h7 : i' < R0
    · have hR : R0 - i' ≠ 0 := by omega
      rw [show ((R0 - i') == 0) = false by simp; omega] at hd
      have QD := Lib.hid hd
      clear hd
      by_cases hat : i' = a7
      · obtain ⟨rfl, rfl⟩ := hst (by omega)
        subst hat
        clear hst hgd
        rcases (by omega : how % 4 = 0 ∨ how % 4 = 1 ∨ how % 4 = 2 ∨ how % 4 = 3) with h4 | h4 | h4 | h4
        · rw [h4] at m3
          clear h4
          go_wp2_with fail
          refine QD.out.mono ?_
          rintro e wq ⟨rfl, rfl⟩
          have QC := Lib.hid (HA.out.doom hR (by omega) 1 3 rfl rfl (by decide) (by decide))
          go_wp2_with fail
          refine HA.out.slots.mono ?_
          rintro e wq ⟨rfl, rfl⟩
          go_wp2_with fail
          refine QC.out.mono ?_
          rintro e w5 ⟨⟨_, rfl⟩, hb⟩
          have H1 := Lib.hid hb
          clear hb QC
          have QS := Lib.hid (H1.out.step hR (by omega))
          go_wp2_with fail
          refine QS.out.mono ?_
          rintro e w9 ⟨rfl, ha9⟩
          rw [show R0 - i' - 1 = R0 - (i' + 1) by omega] at ha9
          have HA9 : Hid (Al wb z b (c11 16 128) L8 (hd0.doom 3) (1 + (c7 : Int)) c7 bo (R0 - (i' + 1)) (10 + 4 * (i' + 1)) w9) := by
            obtain ⟨F9, G9, S9, x9, y1, y2, y3, y4⟩ := ha9
            exact ⟨F9, G9, S9, x9, y1, y2.wide (by omega), y3, y4⟩
          clear ha9 QS
          go_wp2_with fail
          exact ⟨⟨i' + 1, true, (hd0.doom 3), by omega, by simp, by simp, rfl, HA9.out, rfl, fun h => by exfalso; omega⟩, by simp [intOf]; omega⟩
        · rw [h4] at m3
          clear h4
          go_wp2_with fail
          refine QD.out.mono ?_
          rintro e wq ⟨rfl, rfl⟩
          have QC := Lib.hid (HA.out.free hR (by omega) 1 (by decide) rfl)
          go_wp2_with fail
          refine HA.out.slots.mono ?_
          rintro e wq ⟨rfl, rfl⟩
          go_wp2_with fail
          refine QC.out.mono ?_
          rintro e w5 ⟨⟨_, rfl⟩, hb⟩
          have H1 := Lib.hid hb
          clear hb QC
          have QS := Lib.hid (H1.out.step hR (by omega))
          go_wp2_with fail
          refine QS.out.mono ?_
          rintro e w9 ⟨rfl, ha9⟩
          rw [show R0 - i' - 1 = R0 - (i' + 1) by omega] at ha9
          have HA9 : Hid (Al wb z b (c11 16 128) L8 ⟨1, 0, 0, 0, false, 0⟩ (1 + (c7 : Int)) c7 bo (R0 - (i' + 1)) (10 + 4 * (i' + 1)) w9) := by
            obtain ⟨F9, G9, S9, x9, y1, y2, y3, y4⟩ := ha9
            exact ⟨F9, G9, S9, x9, y1, y2.wide (by omega), y3, y4⟩
          clear ha9 QS
          go_wp2_with fail
          exact ⟨⟨i' + 1, true, ⟨1, 0, 0, 0, false, 0⟩, by omega, by simp, by simp, rfl, HA9.out, rfl, fun h => by exfalso; omega⟩, by simp [intOf]; omega⟩
        · rw [h4] at m3
          clear h4
          go_wp2_with fail
          refine QD.out.mono ?_
          rintro e wq ⟨rfl, rfl⟩
          have QC := Lib.hid (HA.out.free hR (by omega) 1 (by decide) rfl)
          go_wp2_with fail
          refine HA.out.slots.mono ?_
          rintro e wq ⟨rfl, rfl⟩
          go_wp2_with fail
          refine QC.out.mono ?_
          rintro e w5 ⟨⟨_, rfl⟩, hb⟩
          have H1 := Lib.hid hb
          clear hb QC
          have QC := Lib.hid (H1.out.claim hR (by omega) 4 rfl (by decide) (by decide))
          go_wp2_with fail
          refine H1.out.slots.mono ?_
          rintro e wq ⟨rfl, rfl⟩
          go_wp2_with fail
          refine QC.out.mono ?_
          rintro e w6 ⟨⟨_, _, rfl⟩, hb⟩
          have H2 := Lib.hid hb
          clear hb QC
          have QC := Lib.hid (H2.out.ready hR (by omega) 2 9 rfl rfl (by decide))
          go_wp2_with fail
          refine H2.out.slots.mono ?_
          rintro e wq ⟨rfl, rfl⟩
          go_wp2_with fail
          refine QC.out.mono ?_
          rintro e w7 ⟨⟨_, rfl⟩, hb⟩
          have H3 := Lib.hid hb
          clear hb QC
          have QS := Lib.hid (H3.out.step hR (by omega))
          go_wp2_with fail
          refine QS.out.mono ?_
          rintro e w9 ⟨rfl, ha9⟩
          rw [show R0 - i' - 1 = R0 - (i' + 1) by omega] at ha9
          have HA9 : Hid (Al wb z b (c11 16 128) L8 ⟨2, 2, 9, 4, false, 0⟩ (1 + (c7 : Int)) c7 bo (R0 - (i' + 1)) (10 + 4 * (i' + 1)) w9) := by
            obtain ⟨F9, G9, S9, x9, y1, y2, y3, y4⟩ := ha9
            exact ⟨F9, G9, S9, x9, y1, y2.wide (by omega), y3, y4⟩
          clear ha9 QS
          go_wp2_with fail
          exact ⟨⟨i' + 1, true, ⟨2, 2, 9, 4, false, 0⟩, by omega, by simp, by simp, rfl, HA9.out, rfl, fun h => by exfalso; omega⟩, by simp [intOf]; omega⟩
        · rw [h4] at m3
          clear h4
          go_wp2_with fail
          refine QD.out.mono ?_
          rintro e wq ⟨rfl, rfl⟩
          have QS := Lib.hid (HA.out.step hR (by omega))
          go_wp2_with fail
          refine QS.out.mono ?_
          rintro e w9 ⟨rfl, ha9⟩
          rw [show R0 - i' - 1 = R0 - (i' + 1) by omega] at ha9
          have HA9 : Hid (Al wb z b (c11 16 128) L8 hd0 (1 + (c7 : Int)) c7 bo (R0 - (i' + 1)) (10 + 4 * (i' + 1)) w9) := by
            obtain ⟨F9, G9, S9, x9, y1, y2, y3, y4⟩ := ha9
            exact ⟨F9, G9, S9, x9, y1, y2.wide (by omega), y3, y4⟩
          clear ha9 QS
          go_wp2_with fail
          exact ⟨⟨i' + 1, false, hd0, by omega, by simp, by simp, rfl, HA9.out, rfl, fun h => by exfalso; omega⟩, by simp [intOf]; omega⟩
      · have hat3 : ((i' : Int) == (a7 : Int)) = false := by simp; omega
        have HGD := Lib.hid hgd
        have HST := Lib.hid hst
        clear hst hgd
        go_wp2_with fail
        refine QD.out.mono ?_
        rintro e wq ⟨rfl, rfl⟩
        have QS := Lib.hid (HA.out.step hR (by omega))
        go_wp2_with fail
        refine QS.out.mono ?_
        rintro e w9 ⟨rfl, ha9⟩
        rw [show R0 - i' - 1 = R0 - (i' + 1) by omega] at ha9
        have HA9 : Hid (Al wb z b (c11 16 128) L8 hx (1 + (c7 : Int)) c7 bo (R0 - (i' + 1)) (10 + 4 * (i' + 1)) w9) := by
          obtain ⟨F9, G9, S9, x9, y1, y2, y3, y4⟩ := ha9
          exact ⟨F9, G9, S9, x9, y1, y2.wide (by omega), y3, y4⟩
        clear ha9 QS
        go_wp2_with fail
        exact ⟨⟨i' + 1, sp, hx, by omega, by simp, by simp, rfl, HA9.out, HGD.out, fun h => HST.out (by omega)⟩, by simp [intOf]; omega⟩
    · have hi7 : R0 - i' = 0 := by omega
      have ha := HA.out
      rw [hi7] at hd ha
      have QD := Lib.hid hd
      have hv := ha.value
      obtain ⟨w8, hw8⟩ : ∃ q, q = wr := ⟨_, rfl⟩
      subst hw8
      have HA8 := Lib.hid ha
      have h3 : decide ((i' : Int) < 3) = false := decide_eq_false (by omega)
      have hw2 : IntKind.i64.wrap (1 + (c7 : Int)) = 1 + (c7 : Int) := by rw [IntKind.wrap_i64]; omega
      clear hd ha HA hst
      cases sp
      · have hgd' : good hx = true := hgd
        rw [if_pos hgd', if_pos hgd'] at hv
        have QV := Lib.hid hv
        clear hv hgd hgd'
        go_wp2_with fail
        refine QD.out.mono ?_
        rintro e wq ⟨rfl, rfl⟩
        go_wp2_with fail
        refine QV.out.mono ?_
        rintro e w9 ⟨rfl, hk9⟩
        have HA9 := Lib.hid (HA8.out.calm hk9)
        clear hk9 QV QD HA8
        go_wp2_with fail
        refine HA9.out.done_.mono ?_
        rintro e wq ⟨rfl, rfl⟩
        go_wp2_with fail
        go_ret
        exact ⟨rfl, (HKB.out.trans HA9.out.keep (by simp)).below (by simp) (Nat.le_refl _)⟩
      · have hgd' : ¬ (good hx = true) := by rw [hgd]; decide
        rw [if_neg hgd', if_neg hgd'] at hv
        have QV := Lib.hid hv
        clear hv hgd hgd'
        go_wp2_with fail
        refine QD.out.mono ?_
        rintro e wq ⟨rfl, rfl⟩
        go_wp2_with fail
        refine QV.out.mono ?_
        rintro e w9 ⟨rfl, hk9⟩
        have HA9 := Lib.hid (HA8.out.calm hk9)
        clear hk9 QV QD HA8
        go_wp2_with fail
        refine HA9.out.done_.mono ?_
        rintro e wq ⟨rfl, rfl⟩
        go_wp2_with fail
        go_ret
        exact ⟨rfl, (HKB.out.trans HA9.out.keep (by simp)).below (by simp) (Nat.le_refl _)⟩

theorem own : ownKnob Try.prog.godebug = none := by kernel_rfl
theorem laidOut : laidOutB Try.prog = true := by kernel_rfl

set_option maxRecDepth 100000 in
theorem lifted (os : Os) (started : os.Started) (H : Type) (enc : TypeId × Value → H) :
    ReturnsInHanded {} Try.checked os 4 .any (Rows.readDoomedSpec.pre6 enc Try.prog Try.f4 Rows.readDoomedRow.domain false) (Rows.readDoomedSpec.post enc Try.prog Try.f4 false true false false) := by
  refine returnsInHanded_of_change (C := Try.checked) own started (by kernel_rfl) Try.func4
    (ChangeSpec.witness6 (enc := enc) (C := Try.checked) false ⟨#[], #[.int .i64 0, .int .i64 0, .int .i64 0], []⟩ 8 (by kernel_rfl) (by kernel_rfl) (by kernel_rfl) (by kernel_rfl)) ?_
  intro W base args ds gs before hval0 hW hcnd _
  have hval : ∀ (j : Nat) t v, Try.f4.params[j]? = some t → args[j]? = some v → Value.okWide Try.prog W .any base t v := hval0
  have hW' := hW
  obtain ⟨p, q, hA0, hV, rfl, hfz, hnd⟩ := hW
  have hA : DataW.TrodAll enc Try.prog W 0 (fun _ => true) true Try.f4.params.toList args.toList ds p := hA0
  rw [Try.params4] at hA hval
  obtain ⟨v0, vs0, d0, ds0, p0, q0, hargs, rfl, rfl, h0, r0⟩ := trodAll_cons hA
  obtain ⟨v1, vs1, d1, ds1, p1, q1, rfl, rfl, rfl, h1, r1⟩ := trodAll_cons r0
  obtain ⟨v2, vs2, d2, ds2, p2, q2, rfl, rfl, rfl, h2, r2⟩ := trodAll_cons r1
  obtain ⟨rfl, rfl, rfl⟩ := trodAll_nil r2
  obtain rfl : args = #[v0, v1, v2] := by cases args; simp_all
  obtain ⟨rfl, rfl⟩ := trodVars_none hV
  obtain ⟨a0, rfl, rfl, rfl, w0⟩ := open_int Try.underlying3 (hval 0 3 v0 rfl rfl) h0
  obtain ⟨a1, rfl, rfl, rfl, w1⟩ := open_int Try.underlying3 (hval 1 3 v1 rfl rfl) h1
  obtain ⟨a2, rfl, rfl, rfl, w2⟩ := open_int Try.underlying3 (hval 2 3 v2 rfl rfl) h2
  clear hA0 hval0
  refine (walk a0 a1 a2 W w0 w1 w2).mono fun e W' ⟨he, bel⟩ => ?_
  subst he
  exact ⟨_, rfl, _, _, _, [], _, [], hW', trodAll_mk1 (shut_bool Try.underlying4 _), (trodAll_cons_mk (shut_int Try.underlying3 w0) (trodAll_cons_mk (shut_int Try.underlying3 w1) (trodAll_cons_mk (shut_int Try.underlying3 w2) trodAll_mk0))), rfl, bel.frame _, fun h => by cases h⟩

theorem over : Rows.readDoomedRow.holds Try.pinned (OpenSpec.ofChange Rows.readDoomedSpec) :=
  OpenClaim.holds_of_wide 4 Try.f4 rfl rfl rfl rfl rfl rfl rfl ⟨rfl, rfl, rfl, rfl, rfl⟩ rfl rfl rfl rfl rfl (by kernel_rfl) Try.func4 (by kernel_rfl)
    (of_decide_eq_true (by kernel_rfl)) (by unfold Func.isWrapper; first | (rw [if_pos (by decide +kernel)]; kernel_rfl) | (rw [if_neg (by decide +kernel)]; exact ⟨rfl, rfl⟩))
    (fun os started H enc _ => lifted os started H enc)

/-- The statement. -/
theorem proved : Rows.ReadDoomedSaid := over
#print axioms proved
end Go.Proofs.Ytelljfhhjapgnaa.readDoomed
