/- SlotsLives: one slot's life, generation by generation: the call returns true for every input. -/
import Derived.Test.YtdkbdlhfhmgenaaRows
import Derived.Test.YtdkbdlhfhmgenaaSlotsP
import Derived.Test.YtdkbdlhfhmgenaaSlc
import Derived.WalkKit
import Derived.ProofKit
import Derived.OpenShut
import Derived.ShutString
import Derived.ChangeOld
import Derived.Below
import Derived.Carry
namespace Go.Proofs.Ytdkbdlhfhmgenaa.slotsLives
open Go.ChangeShapes Go.WideShapes Go.ChangeAt Go.RowKit
set_option linter.unusedVariables false


theorem rd_doom {w : World} {z : Nat} {g s st t : Int} {d : Bool} {b0 : Int} (h : rd w z = some ⟨g, s, st, t, d, b0⟩) (b : Int) : rd ((w.setCell ⟨z, 4, none⟩ (.bool true)).setCell ⟨z, 5, none⟩ (.int .i64 b)) z = some ⟨g, s, st, t, true, b⟩ := by
  refine rd_of ?_
  have h1 := ((rd_iff.1 h).set_ 4 (.bool true)).set_ 5 (.int .i64 b)
  simpa [hcs] using h1
/-- A slot that lives, doomed or not. -/
def Lives (L : Nat) (sp th : Int) (x : Hd) : Prop := x = ⟨L, 2, sp, th, false, 0⟩ ∨ ∃ b, x = ⟨L, 2, sp, th, true, b⟩
attribute [local go_sem] rd_c0 rd_c1 rd_c2 rd_c3 rd_c4 rd_c5 rd_free Option.isSome_some Option.getD_some
set_option maxRecDepth 100000 in
set_option maxHeartbeats 8000000 in
theorem walk (a0 a1 : Int) (A : Option Addr) (c : Nat) (xs : List Int) (B : Option Addr) (d : Nat) (ys : List Int) (w : World) (hb0 : (Lit.int IntKind.i64 a0).wf = true) (hb1 : (Lit.int IntKind.i64 a1).wf = true) (sA : Slc w A xs) (sB : Slc w B ys) :
    Calls Try.prog 6 #[.int .i64 a0, .int .i64 a1, .slice A xs.length c, .slice B ys.length d] w fun e w' => e = .returned (.bool true) ∧ Below w.heap.size w w' := by
  have SA := Lib.hid sA
  have SB := Lib.hid sB
  have hxl0 : xs.length ≤ 9223372036854775807 := sA.1
  have hyl0 : ys.length ≤ 9223372036854775807 := sB.1
  have hxl : (xs.length : Int) ≤ 9223372036854775807 := by omega
  have hyl : (ys.length : Int) ≤ 9223372036854775807 := by omega
  clear hxl0 hyl0
  have h7 := i64_and7 a0
  have h255 := i64_and255 a1
  obtain ⟨q0, e0⟩ : ∃ q : Int, a0 % 8 = q := ⟨_, rfl⟩
  obtain ⟨q1, e1⟩ : ∃ q : Int, a1 % 256 = q := ⟨_, rfl⟩
  obtain ⟨th, hth⟩ : ∃ t : Int, 1 + q0 = t := ⟨_, rfl⟩
  obtain ⟨sp, hsp⟩ : ∃ s : Int, 1 + q1 = s := ⟨_, rfl⟩
  have t1 : 1 ≤ th := by omega
  have t2 : th ≤ 8 := by omega
  have t3 : 1 ≤ sp := by omega
  have q00 : 0 ≤ q0 := by omega
  have q01 : q0 ≤ 7 := by omega
  have q10 : 0 ≤ q1 := by omega
  have q11 : q1 ≤ 255 := by omega
  rw [e0] at h7
  rw [e1] at h255
  clear sA sB e0 e1
  go_enter Try.func6, Try.ntmps6
  go_wp2_with fail
  refine (awake6 _).mono ?_
  rintro e w1 ⟨rfl, hk1⟩
  have HK1 := Lib.hid hk1
  clear hk1
  go_wp2_with fail
  refine (ts_new w1 w1 (Keeps.refl _ _) 1 (by omega) (by omega)).mono ?_
  rintro e w2 ⟨t, rfl, hs, _⟩
  have HS : Hid (TS w1 w2 t [⟨0, 0, 0, 0, false, 0⟩] [0, 0]) := hs
  clear hs
  go_wp2_with fail
  go_loopw [13] (fun l wr => ∃ L : Nat, 1 ≤ L ∧ L ≤ 4 ∧ l = .int .i64 L ∧ TS w1 wr t [⟨(L : Int) - 1, 0, 0, 0, false, 0⟩] [0, 0]) (fun l _ => 4 - (intOf l).toNat)
  case atStart => exact ⟨1, Nat.le_refl _, by decide, rfl, HS.out⟩
  case round =>
    obtain ⟨L, L1, L4, rfl, hs⟩ := hrel
    have HL := Lib.hid hs
    clear hs
    by_cases hl : L ≤ 3
    · have hli : (L : Int) ≤ 3 := by omega
      have hl1 : (1 : Int) ≤ (L : Int) := by omega
      go_wp2_with fail
      have QT := Lib.hid (show Calls Try.prog 24 #[.pointer (some ⟨t.q, 0, none⟩), .int .i64 0, .int .i64 th] wr fun e w' => e = .returned (.tuple #[.int .i64 (L : Int), .int .i64 0]) ∧ TS w1 w' t [⟨(L : Int), 1, 0, th, false, 0⟩] [0, 0] ∧ Keeps [t.b, t.c] wr w' from by
        have h := HL.out.step (claim_ok wr t none _ _ HL.out.tab 0 MS.zero (met0 _) room0 0 ⟨(L : Int) - 1, 0, 0, 0, false, 0⟩ rfl th t1 t2 rfl)
        rw [show wrap64 ((⟨(L : Int) - 1, 0, 0, 0, false, 0⟩ : Hd).gen + 1) = (L : Int) by simp only [wrap64]; omega] at h
        exact h)
      refine QT.out.mono ?_
      rintro e w3 ⟨rfl, hs4, hk4⟩
      clear QT
      have H3 := Lib.hid hs4
      clear hs4 hk4
      go_wp2_with fail
      have QT := Lib.hid (show Calls Try.prog 25 #[.pointer (some ⟨t.q, 0, none⟩), .int .i64 0, .int .i64 (L : Int), .int .i64 sp] w3 fun e w' => e = .returned (.int .i64 0) ∧ TS w1 w' t [⟨(L : Int), 2, sp, th, false, 0⟩] [0, 0] ∧ Keeps [t.b, t.c] w3 w' from by
        have h := H3.out.step (ready_ok w3 t none _ _ H3.out.tab 0 MS.zero (met0 _) room0 0 ⟨(L : Int), 1, 0, th, false, 0⟩ rfl L sp t3 rfl rfl)
        exact h)
      refine QT.out.mono ?_
      rintro e w4 ⟨rfl, hs4, hk4⟩
      clear QT
      have H4 := Lib.hid hs4
      clear hs4 hk4
      go_wp2_with fail
      have kz : Keeps [] w4 (w4.alloc (.cells #[.int .i64 (L : Int), .int .i64 2, .int .i64 sp, .int .i64 th, .bool false, .int .i64 0] 64)) := (Keeps.refl _ _).alloc _
      have rz : rd (w4.alloc (.cells #[.int .i64 (L : Int), .int .i64 2, .int .i64 sp, .int .i64 th, .bool false, .int .i64 0] 64)) w4.heap.size = some ⟨(L : Int), 2, sp, th, false, 0⟩ := rd_new w4 ⟨(L : Int), 2, sp, th, false, 0⟩
      have hlt := H4.out.tab.lt
      have hks := H4.out.keep.size
      have ZD : Hid (w1.heap.size ≤ w4.heap.size ∧ w4.heap.size ≠ t.q ∧ w4.heap.size ≠ t.r ∧ w4.heap.size ≠ t.b ∧ w4.heap.size ≠ t.s ∧ w4.heap.size ≠ t.c) := by unfold Hid; omega
      have H5 := Lib.hid (H4.out.calm kz)
      have RZ := Lib.hid rz
      clear kz rz hlt hks
      go_loopw [18] (fun i wq => ∃ (j : Nat) (x : Hd), j ≤ xs.length ∧ i = .int .i64 j ∧ TS w1 wq t [x] [0, 0] ∧ rd wq w4.heap.size = some x ∧ Lives L sp th x) (fun i _ => xs.length - (intOf i).toNat)
      case atStart => exact ⟨0, _, Nat.zero_le _, rfl, H5.out, RZ.out, .inl rfl⟩
      case round =>
        obtain ⟨j, x, hj, rfl, hs, hr, hlv⟩ := hrel
        have hs0 := hs
        have HI := Lib.hid hs
        have HR := Lib.hid hr
        clear hs hr
        have KW := Lib.hid (HK1.out.trans hs0.keep (by simp))
        clear hs0
        by_cases hx : j < xs.length
        · have hx0 : (j : Int) < (xs.length : Int) := by omega
          by_cases hy : j < ys.length
          · have hy0 : (j : Int) < (ys.length : Int) := by omega
            have j0 : (0 : Int) ≤ (j : Int) := by omega
            obtain ⟨z, hz⟩ : ∃ z, xs[j]? = some z := ⟨_, List.getElem?_eq_getElem hx⟩
            obtain ⟨y, hyy⟩ : ∃ y, ys[j]? = some y := ⟨_, List.getElem?_eq_getElem hy⟩
            rcases SA.out.2 with h0 | ⟨ba, oa, rfl, hba, hca⟩
            · subst h0; simp at hx
            rcases SB.out.2 with h0 | ⟨bb, ob, rfl, hbb, hcb⟩
            · subst h0; simp at hy
            have d1 := (keeps_cell (p := ⟨ba, oa + j, none⟩) KW.out hba (by simp)).trans (hca j z hz)
            have hd2 := Lib.hid (fun w' (hk : Keeps [] w w') => (keeps_cell (p := ⟨bb, ob + j, none⟩) hk hbb (by simp)).trans (hcb j y hyy))
            have d2 := hd2.out _ KW.out
            have hz7 := i64_and7 z
            obtain ⟨qz, eqz⟩ : ∃ q : Int, z % 8 = q := ⟨_, rfl⟩
            have z0 : 0 ≤ qz := by omega
            have z1 : qz ≤ 7 := by omega
            obtain ⟨bv, hbv⟩ : ∃ b : Int, 1 + qz = b := ⟨_, rfl⟩
            have v1 : 1 ≤ bv := by omega
            have v2 : bv ≤ 8 := by omega
            rw [eqz] at hz7
            clear eqz hca hcb hba hbb hz hyy
            by_cases hg : y = L
            · subst hg
              rcases hlv with rfl | ⟨b0, rfl⟩
              · as_aux_lemma =>
                  go_wp2_with fail
                  have QT := Lib.hid (show Calls Try.prog 26 #[.pointer (some ⟨t.q, 0, none⟩), .int .i64 0, .int .i64 (L : Int), .int .i64 bv] wr fun e w' => e = .returned (.int .i64 0) ∧ TS w1 w' t [⟨(L : Int), 2, sp, th, true, bv⟩] [0, 0] ∧ Keeps [t.b, t.c] wr w' from by
                    have h := HI.out.step (doom_new wr t none _ _ HI.out.tab 0 MS.zero (met0 _) room0 0 ⟨(L : Int), 2, sp, th, false, 0⟩ rfl L bv v1 v2 rfl rfl rfl)
                    exact h)
                  refine QT.out.mono ?_
                  rintro e w5 ⟨rfl, hs4, hk4⟩
                  clear QT
                  have d3 := hd2.out _ (HK1.out.trans hs4.keep (by simp))
                  have r5 := rd_keeps HR.out hk4 (by have := ZD.out; simp; omega)
                  have H5 := Lib.hid hs4
                  have R5 := Lib.hid r5
                  clear hs4 hk4
                  go_wp2_with fail
                  have hsf := Lib.hid (H5.out.far (S := [w4.heap.size]) (((Keeps.refl _ _).setCell (.inl (by simp)) _).setCell (.inl (by simp)) _ : Keeps _ w5 ((w5.setCell ⟨w4.heap.size, 4, none⟩ (.bool true)).setCell ⟨w4.heap.size, 5, none⟩ (.int .i64 bv))) (fun z hz => by simp at hz; subst hz; exact ZD.out))
                  have rzf := Lib.hid (rd_doom R5.out bv)
                  have QL := Lib.hid (hsf.out.step (slots_look ((w5.setCell ⟨w4.heap.size, 4, none⟩ (.bool true)).setCell ⟨w4.heap.size, 5, none⟩ (.int .i64 bv)) t none _ _ hsf.out.tab 0 MS.zero (met0 _) room0 0 ⟨(L : Int), 2, sp, th, true, bv⟩ rfl))
                  refine QL.out.mono ?_
                  rintro e w6 ⟨rfl, hs6, hk6⟩
                  clear QL
                  have r6 := rd_keeps rzf.out hk6 (by have := ZD.out; simp; omega)
                  have kq : Keeps [] w6 (w6.alloc (.cells #[.int .i64 (⟨(L : Int), 2, sp, th, true, bv⟩ : Hd).gen, .int .i64 (⟨(L : Int), 2, sp, th, true, bv⟩ : Hd).state, .int .i64 (⟨(L : Int), 2, sp, th, true, bv⟩ : Hd).stamp, .int .i64 (⟨(L : Int), 2, sp, th, true, bv⟩ : Hd).thread, .bool (⟨(L : Int), 2, sp, th, true, bv⟩ : Hd).doomed, .int .i64 (⟨(L : Int), 2, sp, th, true, bv⟩ : Hd).who] 64)) := (Keeps.refl _ _).alloc _
                  have r7 := rd_keeps r6 kq (by simp)
                  have r8 : rd (w6.alloc (.cells #[.int .i64 (⟨(L : Int), 2, sp, th, true, bv⟩ : Hd).gen, .int .i64 (⟨(L : Int), 2, sp, th, true, bv⟩ : Hd).state, .int .i64 (⟨(L : Int), 2, sp, th, true, bv⟩ : Hd).stamp, .int .i64 (⟨(L : Int), 2, sp, th, true, bv⟩ : Hd).thread, .bool (⟨(L : Int), 2, sp, th, true, bv⟩ : Hd).doomed, .int .i64 (⟨(L : Int), 2, sp, th, true, bv⟩ : Hd).who] 64)) w6.heap.size = some ⟨(L : Int), 2, sp, th, true, bv⟩ := rd_new w6 ⟨(L : Int), 2, sp, th, true, bv⟩
                  have H7 := Lib.hid (hs6.calm kq)
                  have R7 := Lib.hid r7
                  have he : ∀ w, (Op.equalIn 10000 64 (.agg #[.int .i64 (⟨(L : Int), 2, sp, th, true, bv⟩ : Hd).gen, .int .i64 (⟨(L : Int), 2, sp, th, true, bv⟩ : Hd).state, .int .i64 (⟨(L : Int), 2, sp, th, true, bv⟩ : Hd).stamp, .int .i64 (⟨(L : Int), 2, sp, th, true, bv⟩ : Hd).thread, .bool (⟨(L : Int), 2, sp, th, true, bv⟩ : Hd).doomed, .int .i64 (⟨(L : Int), 2, sp, th, true, bv⟩ : Hd).who]) (.agg #[.int .i64 (⟨(L : Int), 2, sp, th, true, bv⟩ : Hd).gen, .int .i64 (⟨(L : Int), 2, sp, th, true, bv⟩ : Hd).state, .int .i64 (⟨(L : Int), 2, sp, th, true, bv⟩ : Hd).stamp, .int .i64 (⟨(L : Int), 2, sp, th, true, bv⟩ : Hd).thread, .bool (⟨(L : Int), 2, sp, th, true, bv⟩ : Hd).doomed, .int .i64 (⟨(L : Int), 2, sp, th, true, bv⟩ : Hd).who])).run Try.prog w = .ok true w := fun w => by rw [RowH.eq_run]; simp
                  clear r6 kq hs6 hk6
                  simp only at r7 r8 he
                  go_wp2_with fail
                  exact ⟨⟨j + 1, _, by omega, by simp, H7.out, R7.out, .inr ⟨_, rfl⟩⟩, by simp [intOf]; omega⟩
              · as_aux_lemma =>
                  go_wp2_with fail
                  have QT := Lib.hid (show Calls Try.prog 26 #[.pointer (some ⟨t.q, 0, none⟩), .int .i64 0, .int .i64 (L : Int), .int .i64 bv] wr fun e w' => e = .returned (.int .i64 0) ∧ TS w1 w' t [⟨(L : Int), 2, sp, th, true, b0⟩] [0, 0] ∧ Keeps [t.b, t.c] wr w' from by
                    have h := HI.out.step (doom_old wr t none _ _ HI.out.tab 0 MS.zero (met0 _) room0 0 ⟨(L : Int), 2, sp, th, true, b0⟩ rfl L bv v1 v2 rfl rfl rfl)
                    exact h)
                  refine QT.out.mono ?_
                  rintro e w5 ⟨rfl, hs4, hk4⟩
                  clear QT
                  have d3 := hd2.out _ (HK1.out.trans hs4.keep (by simp))
                  have r5 := rd_keeps HR.out hk4 (by have := ZD.out; simp; omega)
                  have H5 := Lib.hid hs4
                  have R5 := Lib.hid r5
                  clear hs4 hk4
                  go_wp2_with fail
                  have QL := Lib.hid (H5.out.step (slots_look w5 t none _ _ H5.out.tab 0 MS.zero (met0 _) room0 0 ⟨(L : Int), 2, sp, th, true, b0⟩ rfl))
                  refine QL.out.mono ?_
                  rintro e w6 ⟨rfl, hs6, hk6⟩
                  clear QL
                  have r6 := rd_keeps R5.out hk6 (by have := ZD.out; simp; omega)
                  have kq : Keeps [] w6 (w6.alloc (.cells #[.int .i64 (⟨(L : Int), 2, sp, th, true, b0⟩ : Hd).gen, .int .i64 (⟨(L : Int), 2, sp, th, true, b0⟩ : Hd).state, .int .i64 (⟨(L : Int), 2, sp, th, true, b0⟩ : Hd).stamp, .int .i64 (⟨(L : Int), 2, sp, th, true, b0⟩ : Hd).thread, .bool (⟨(L : Int), 2, sp, th, true, b0⟩ : Hd).doomed, .int .i64 (⟨(L : Int), 2, sp, th, true, b0⟩ : Hd).who] 64)) := (Keeps.refl _ _).alloc _
                  have r7 := rd_keeps r6 kq (by simp)
                  have r8 : rd (w6.alloc (.cells #[.int .i64 (⟨(L : Int), 2, sp, th, true, b0⟩ : Hd).gen, .int .i64 (⟨(L : Int), 2, sp, th, true, b0⟩ : Hd).state, .int .i64 (⟨(L : Int), 2, sp, th, true, b0⟩ : Hd).stamp, .int .i64 (⟨(L : Int), 2, sp, th, true, b0⟩ : Hd).thread, .bool (⟨(L : Int), 2, sp, th, true, b0⟩ : Hd).doomed, .int .i64 (⟨(L : Int), 2, sp, th, true, b0⟩ : Hd).who] 64)) w6.heap.size = some ⟨(L : Int), 2, sp, th, true, b0⟩ := rd_new w6 ⟨(L : Int), 2, sp, th, true, b0⟩
                  have H7 := Lib.hid (hs6.calm kq)
                  have R7 := Lib.hid r7
                  have he : ∀ w, (Op.equalIn 10000 64 (.agg #[.int .i64 (⟨(L : Int), 2, sp, th, true, b0⟩ : Hd).gen, .int .i64 (⟨(L : Int), 2, sp, th, true, b0⟩ : Hd).state, .int .i64 (⟨(L : Int), 2, sp, th, true, b0⟩ : Hd).stamp, .int .i64 (⟨(L : Int), 2, sp, th, true, b0⟩ : Hd).thread, .bool (⟨(L : Int), 2, sp, th, true, b0⟩ : Hd).doomed, .int .i64 (⟨(L : Int), 2, sp, th, true, b0⟩ : Hd).who]) (.agg #[.int .i64 (⟨(L : Int), 2, sp, th, true, b0⟩ : Hd).gen, .int .i64 (⟨(L : Int), 2, sp, th, true, b0⟩ : Hd).state, .int .i64 (⟨(L : Int), 2, sp, th, true, b0⟩ : Hd).stamp, .int .i64 (⟨(L : Int), 2, sp, th, true, b0⟩ : Hd).thread, .bool (⟨(L : Int), 2, sp, th, true, b0⟩ : Hd).doomed, .int .i64 (⟨(L : Int), 2, sp, th, true, b0⟩ : Hd).who])).run Try.prog w = .ok true w := fun w => by rw [RowH.eq_run]; simp
                  clear r6 kq hs6 hk6
                  simp only at r7 r8 he
                  go_wp2_with fail
                  exact ⟨⟨j + 1, _, by omega, by simp, H7.out, R7.out, .inr ⟨_, rfl⟩⟩, by simp [intOf]; omega⟩
            · have hg1 : (y == (L : Int)) = false := by simpa using hg
              have hg2 : ¬ (L : Int) = y := fun e => hg e.symm
              rcases hlv with rfl | ⟨b0, rfl⟩
              · as_aux_lemma =>
                  go_wp2_with fail
                  have QT := Lib.hid (show Calls Try.prog 26 #[.pointer (some ⟨t.q, 0, none⟩), .int .i64 0, .int .i64 y, .int .i64 bv] wr fun e w' => e = .returned (.int .i64 4) ∧ TS w1 w' t [⟨(L : Int), 2, sp, th, false, 0⟩] [0, 0] ∧ Keeps [t.b, t.c] wr w' from by
                    have h := HI.out.step (doom_no0 wr t none _ _ HI.out.tab 0 MS.zero (met0 _) room0 0 ⟨(L : Int), 2, sp, th, false, 0⟩ rfl y bv v1 v2 (by simp only; omega) rfl hg2 rfl)
                    exact h)
                  refine QT.out.mono ?_
                  rintro e w5 ⟨rfl, hs4, hk4⟩
                  clear QT
                  have d3 := hd2.out _ (HK1.out.trans hs4.keep (by simp))
                  have r5 := rd_keeps HR.out hk4 (by have := ZD.out; simp; omega)
                  have H5 := Lib.hid hs4
                  have R5 := Lib.hid r5
                  clear hs4 hk4
                  go_wp2_with fail
                  have QL := Lib.hid (H5.out.step (slots_look w5 t none _ _ H5.out.tab 0 MS.zero (met0 _) room0 0 ⟨(L : Int), 2, sp, th, false, 0⟩ rfl))
                  refine QL.out.mono ?_
                  rintro e w6 ⟨rfl, hs6, hk6⟩
                  clear QL
                  have r6 := rd_keeps R5.out hk6 (by have := ZD.out; simp; omega)
                  have kq : Keeps [] w6 (w6.alloc (.cells #[.int .i64 (⟨(L : Int), 2, sp, th, false, 0⟩ : Hd).gen, .int .i64 (⟨(L : Int), 2, sp, th, false, 0⟩ : Hd).state, .int .i64 (⟨(L : Int), 2, sp, th, false, 0⟩ : Hd).stamp, .int .i64 (⟨(L : Int), 2, sp, th, false, 0⟩ : Hd).thread, .bool (⟨(L : Int), 2, sp, th, false, 0⟩ : Hd).doomed, .int .i64 (⟨(L : Int), 2, sp, th, false, 0⟩ : Hd).who] 64)) := (Keeps.refl _ _).alloc _
                  have r7 := rd_keeps r6 kq (by simp)
                  have r8 : rd (w6.alloc (.cells #[.int .i64 (⟨(L : Int), 2, sp, th, false, 0⟩ : Hd).gen, .int .i64 (⟨(L : Int), 2, sp, th, false, 0⟩ : Hd).state, .int .i64 (⟨(L : Int), 2, sp, th, false, 0⟩ : Hd).stamp, .int .i64 (⟨(L : Int), 2, sp, th, false, 0⟩ : Hd).thread, .bool (⟨(L : Int), 2, sp, th, false, 0⟩ : Hd).doomed, .int .i64 (⟨(L : Int), 2, sp, th, false, 0⟩ : Hd).who] 64)) w6.heap.size = some ⟨(L : Int), 2, sp, th, false, 0⟩ := rd_new w6 ⟨(L : Int), 2, sp, th, false, 0⟩
                  have H7 := Lib.hid (hs6.calm kq)
                  have R7 := Lib.hid r7
                  have he : ∀ w, (Op.equalIn 10000 64 (.agg #[.int .i64 (⟨(L : Int), 2, sp, th, false, 0⟩ : Hd).gen, .int .i64 (⟨(L : Int), 2, sp, th, false, 0⟩ : Hd).state, .int .i64 (⟨(L : Int), 2, sp, th, false, 0⟩ : Hd).stamp, .int .i64 (⟨(L : Int), 2, sp, th, false, 0⟩ : Hd).thread, .bool (⟨(L : Int), 2, sp, th, false, 0⟩ : Hd).doomed, .int .i64 (⟨(L : Int), 2, sp, th, false, 0⟩ : Hd).who]) (.agg #[.int .i64 (⟨(L : Int), 2, sp, th, false, 0⟩ : Hd).gen, .int .i64 (⟨(L : Int), 2, sp, th, false, 0⟩ : Hd).state, .int .i64 (⟨(L : Int), 2, sp, th, false, 0⟩ : Hd).stamp, .int .i64 (⟨(L : Int), 2, sp, th, false, 0⟩ : Hd).thread, .bool (⟨(L : Int), 2, sp, th, false, 0⟩ : Hd).doomed, .int .i64 (⟨(L : Int), 2, sp, th, false, 0⟩ : Hd).who])).run Try.prog w = .ok true w := fun w => by rw [RowH.eq_run]; simp
                  clear r6 kq hs6 hk6
                  simp only at r7 r8 he
                  go_wp2_with fail
                  exact ⟨⟨j + 1, _, by omega, by simp, H7.out, R7.out, .inl rfl⟩, by simp [intOf]; omega⟩
              · as_aux_lemma =>
                  go_wp2_with fail
                  have QT := Lib.hid (show Calls Try.prog 26 #[.pointer (some ⟨t.q, 0, none⟩), .int .i64 0, .int .i64 y, .int .i64 bv] wr fun e w' => e = .returned (.int .i64 4) ∧ TS w1 w' t [⟨(L : Int), 2, sp, th, true, b0⟩] [0, 0] ∧ Keeps [t.b, t.c] wr w' from by
                    have h := HI.out.step (doom_no1 wr t none _ _ HI.out.tab 0 MS.zero (met0 _) room0 0 ⟨(L : Int), 2, sp, th, true, b0⟩ rfl y bv v1 v2 (by simp only; omega) rfl hg2 rfl)
                    exact h)
                  refine QT.out.mono ?_
                  rintro e w5 ⟨rfl, hs4, hk4⟩
                  clear QT
                  have d3 := hd2.out _ (HK1.out.trans hs4.keep (by simp))
                  have r5 := rd_keeps HR.out hk4 (by have := ZD.out; simp; omega)
                  have H5 := Lib.hid hs4
                  have R5 := Lib.hid r5
                  clear hs4 hk4
                  go_wp2_with fail
                  have QL := Lib.hid (H5.out.step (slots_look w5 t none _ _ H5.out.tab 0 MS.zero (met0 _) room0 0 ⟨(L : Int), 2, sp, th, true, b0⟩ rfl))
                  refine QL.out.mono ?_
                  rintro e w6 ⟨rfl, hs6, hk6⟩
                  clear QL
                  have r6 := rd_keeps R5.out hk6 (by have := ZD.out; simp; omega)
                  have kq : Keeps [] w6 (w6.alloc (.cells #[.int .i64 (⟨(L : Int), 2, sp, th, true, b0⟩ : Hd).gen, .int .i64 (⟨(L : Int), 2, sp, th, true, b0⟩ : Hd).state, .int .i64 (⟨(L : Int), 2, sp, th, true, b0⟩ : Hd).stamp, .int .i64 (⟨(L : Int), 2, sp, th, true, b0⟩ : Hd).thread, .bool (⟨(L : Int), 2, sp, th, true, b0⟩ : Hd).doomed, .int .i64 (⟨(L : Int), 2, sp, th, true, b0⟩ : Hd).who] 64)) := (Keeps.refl _ _).alloc _
                  have r7 := rd_keeps r6 kq (by simp)
                  have r8 : rd (w6.alloc (.cells #[.int .i64 (⟨(L : Int), 2, sp, th, true, b0⟩ : Hd).gen, .int .i64 (⟨(L : Int), 2, sp, th, true, b0⟩ : Hd).state, .int .i64 (⟨(L : Int), 2, sp, th, true, b0⟩ : Hd).stamp, .int .i64 (⟨(L : Int), 2, sp, th, true, b0⟩ : Hd).thread, .bool (⟨(L : Int), 2, sp, th, true, b0⟩ : Hd).doomed, .int .i64 (⟨(L : Int), 2, sp, th, true, b0⟩ : Hd).who] 64)) w6.heap.size = some ⟨(L : Int), 2, sp, th, true, b0⟩ := rd_new w6 ⟨(L : Int), 2, sp, th, true, b0⟩
                  have H7 := Lib.hid (hs6.calm kq)
                  have R7 := Lib.hid r7
                  have he : ∀ w, (Op.equalIn 10000 64 (.agg #[.int .i64 (⟨(L : Int), 2, sp, th, true, b0⟩ : Hd).gen, .int .i64 (⟨(L : Int), 2, sp, th, true, b0⟩ : Hd).state, .int .i64 (⟨(L : Int), 2, sp, th, true, b0⟩ : Hd).stamp, .int .i64 (⟨(L : Int), 2, sp, th, true, b0⟩ : Hd).thread, .bool (⟨(L : Int), 2, sp, th, true, b0⟩ : Hd).doomed, .int .i64 (⟨(L : Int), 2, sp, th, true, b0⟩ : Hd).who]) (.agg #[.int .i64 (⟨(L : Int), 2, sp, th, true, b0⟩ : Hd).gen, .int .i64 (⟨(L : Int), 2, sp, th, true, b0⟩ : Hd).state, .int .i64 (⟨(L : Int), 2, sp, th, true, b0⟩ : Hd).stamp, .int .i64 (⟨(L : Int), 2, sp, th, true, b0⟩ : Hd).thread, .bool (⟨(L : Int), 2, sp, th, true, b0⟩ : Hd).doomed, .int .i64 (⟨(L : Int), 2, sp, th, true, b0⟩ : Hd).who])).run Try.prog w = .ok true w := fun w => by rw [RowH.eq_run]; simp
                  clear r6 kq hs6 hk6
                  simp only at r7 r8 he
                  go_wp2_with fail
                  exact ⟨⟨j + 1, _, by omega, by simp, H7.out, R7.out, .inr ⟨_, rfl⟩⟩, by simp [intOf]; omega⟩
          · have hy0 : ¬ ((j : Int) < (ys.length : Int)) := by omega
            rcases hlv with rfl | ⟨b0, rfl⟩
            · as_aux_lemma =>
                have m1 : ¬ (L : Int) = (L : Int) + 1 := by omega
                have m2 : ¬ (L : Int) = (L : Int) - 1 := by omega
                go_wp2_with fail
                have QT := Lib.hid (show Calls Try.prog 27 #[.pointer (some ⟨t.q, 0, none⟩), .int .i64 0, .int .i64 ((L : Int) + 1)] wr fun e w' => e = .returned (.int .i64 4) ∧ TS w1 w' t [⟨(L : Int), 2, sp, th, false, 0⟩] [0, 0] ∧ Keeps [t.b, t.c] wr w' from by
                  have h := HI.out.step (free_no wr t none _ _ HI.out.tab 0 MS.zero (met0 _) room0 0 ⟨(L : Int), 2, sp, th, false, 0⟩ rfl _ (by simp only; omega) (by simp) m1)
                  exact h)
                refine QT.out.mono ?_
                rintro e v1 ⟨rfl, hs4, hk4⟩
                clear QT
                have V1 := Lib.hid hs4
                clear hs4 hk4
                go_wp2_with fail
                have QT := Lib.hid (show Calls Try.prog 27 #[.pointer (some ⟨t.q, 0, none⟩), .int .i64 0, .int .i64 ((L : Int) - 1)] v1 fun e w' => e = .returned (.int .i64 4) ∧ TS w1 w' t [⟨(L : Int), 2, sp, th, false, 0⟩] [0, 0] ∧ Keeps [t.b, t.c] v1 w' from by
                  have h := V1.out.step (free_no v1 t none _ _ V1.out.tab 0 MS.zero (met0 _) room0 0 ⟨(L : Int), 2, sp, th, false, 0⟩ rfl _ (by simp only; omega) (by simp) m2)
                  exact h)
                refine QT.out.mono ?_
                rintro e v2 ⟨rfl, hs4, hk4⟩
                clear QT
                have V2 := Lib.hid hs4
                clear hs4 hk4
                go_wp2_with fail
                have QT := Lib.hid (show Calls Try.prog 27 #[.pointer (some ⟨t.q, 0, none⟩), .int .i64 0, .int .i64 (L : Int)] v2 fun e w' => e = .returned (.int .i64 0) ∧ TS w1 w' t [⟨(L : Int), 0, 0, 0, false, 0⟩] [0, 0] ∧ Keeps [t.b, t.c] v2 w' from by
                  have h := V2.out.step (free_ok v2 t none _ _ V2.out.tab 0 MS.zero (met0 _) room0 0 ⟨(L : Int), 2, sp, th, false, 0⟩ rfl _ (by simp) rfl)
                  exact h)
                refine QT.out.mono ?_
                rintro e v3 ⟨rfl, hs4, hk4⟩
                clear QT
                have V3 := Lib.hid hs4
                clear hs4 hk4
                go_wp2_with fail
                have QT := Lib.hid (show Calls Try.prog 26 #[.pointer (some ⟨t.q, 0, none⟩), .int .i64 0, .int .i64 (L : Int), .int .i64 th] v3 fun e w' => e = .returned (.int .i64 4) ∧ TS w1 w' t [⟨(L : Int), 0, 0, 0, false, 0⟩] [0, 0] ∧ Keeps [t.b, t.c] v3 w' from by
                  have h := V3.out.step (doom_not0 v3 t none _ _ V3.out.tab 0 MS.zero (met0 _) room0 0 ⟨(L : Int), 0, 0, 0, false, 0⟩ rfl (L : Int) th t1 t2 (by simp only; omega) (by simp) rfl)
                  exact h)
                refine QT.out.mono ?_
                rintro e v4 ⟨rfl, hs4, hk4⟩
                clear QT
                have V4 := Lib.hid hs4
                clear hs4 hk4
                go_wp2_with fail
                exact ⟨⟨L + 1, by omega, by omega, by simp, by simpa using V4.out⟩, by simp [intOf]; omega⟩
            · as_aux_lemma =>
                have m1 : ¬ (L : Int) = (L : Int) + 1 := by omega
                have m2 : ¬ (L : Int) = (L : Int) - 1 := by omega
                go_wp2_with fail
                have QT := Lib.hid (show Calls Try.prog 27 #[.pointer (some ⟨t.q, 0, none⟩), .int .i64 0, .int .i64 ((L : Int) + 1)] wr fun e w' => e = .returned (.int .i64 4) ∧ TS w1 w' t [⟨(L : Int), 2, sp, th, true, b0⟩] [0, 0] ∧ Keeps [t.b, t.c] wr w' from by
                  have h := HI.out.step (free_no wr t none _ _ HI.out.tab 0 MS.zero (met0 _) room0 0 ⟨(L : Int), 2, sp, th, true, b0⟩ rfl _ (by simp only; omega) (by simp) m1)
                  exact h)
                refine QT.out.mono ?_
                rintro e v1 ⟨rfl, hs4, hk4⟩
                clear QT
                have V1 := Lib.hid hs4
                clear hs4 hk4
                go_wp2_with fail
                have QT := Lib.hid (show Calls Try.prog 27 #[.pointer (some ⟨t.q, 0, none⟩), .int .i64 0, .int .i64 ((L : Int) - 1)] v1 fun e w' => e = .returned (.int .i64 4) ∧ TS w1 w' t [⟨(L : Int), 2, sp, th, true, b0⟩] [0, 0] ∧ Keeps [t.b, t.c] v1 w' from by
                  have h := V1.out.step (free_no v1 t none _ _ V1.out.tab 0 MS.zero (met0 _) room0 0 ⟨(L : Int), 2, sp, th, true, b0⟩ rfl _ (by simp only; omega) (by simp) m2)
                  exact h)
                refine QT.out.mono ?_
                rintro e v2 ⟨rfl, hs4, hk4⟩
                clear QT
                have V2 := Lib.hid hs4
                clear hs4 hk4
                go_wp2_with fail
                have QT := Lib.hid (show Calls Try.prog 27 #[.pointer (some ⟨t.q, 0, none⟩), .int .i64 0, .int .i64 (L : Int)] v2 fun e w' => e = .returned (.int .i64 0) ∧ TS w1 w' t [⟨(L : Int), 0, 0, 0, false, 0⟩] [0, 0] ∧ Keeps [t.b, t.c] v2 w' from by
                  have h := V2.out.step (free_ok v2 t none _ _ V2.out.tab 0 MS.zero (met0 _) room0 0 ⟨(L : Int), 2, sp, th, true, b0⟩ rfl _ (by simp) rfl)
                  exact h)
                refine QT.out.mono ?_
                rintro e v3 ⟨rfl, hs4, hk4⟩
                clear QT
                have V3 := Lib.hid hs4
                clear hs4 hk4
                go_wp2_with fail
                have QT := Lib.hid (show Calls Try.prog 26 #[.pointer (some ⟨t.q, 0, none⟩), .int .i64 0, .int .i64 (L : Int), .int .i64 th] v3 fun e w' => e = .returned (.int .i64 4) ∧ TS w1 w' t [⟨(L : Int), 0, 0, 0, false, 0⟩] [0, 0] ∧ Keeps [t.b, t.c] v3 w' from by
                  have h := V3.out.step (doom_not0 v3 t none _ _ V3.out.tab 0 MS.zero (met0 _) room0 0 ⟨(L : Int), 0, 0, 0, false, 0⟩ rfl (L : Int) th t1 t2 (by simp only; omega) (by simp) rfl)
                  exact h)
                refine QT.out.mono ?_
                rintro e v4 ⟨rfl, hs4, hk4⟩
                clear QT
                have V4 := Lib.hid hs4
                clear hs4 hk4
                go_wp2_with fail
                exact ⟨⟨L + 1, by omega, by omega, by simp, by simpa using V4.out⟩, by simp [intOf]; omega⟩
        · have hx0 : ¬ ((j : Int) < (xs.length : Int)) := by omega
          rcases hlv with rfl | ⟨b0, rfl⟩
          · as_aux_lemma =>
              have m1 : ¬ (L : Int) = (L : Int) + 1 := by omega
              have m2 : ¬ (L : Int) = (L : Int) - 1 := by omega
              go_wp2_with fail
              have QT := Lib.hid (show Calls Try.prog 27 #[.pointer (some ⟨t.q, 0, none⟩), .int .i64 0, .int .i64 ((L : Int) + 1)] wr fun e w' => e = .returned (.int .i64 4) ∧ TS w1 w' t [⟨(L : Int), 2, sp, th, false, 0⟩] [0, 0] ∧ Keeps [t.b, t.c] wr w' from by
                have h := HI.out.step (free_no wr t none _ _ HI.out.tab 0 MS.zero (met0 _) room0 0 ⟨(L : Int), 2, sp, th, false, 0⟩ rfl _ (by simp only; omega) (by simp) m1)
                exact h)
              refine QT.out.mono ?_
              rintro e v1 ⟨rfl, hs4, hk4⟩
              clear QT
              have V1 := Lib.hid hs4
              clear hs4 hk4
              go_wp2_with fail
              have QT := Lib.hid (show Calls Try.prog 27 #[.pointer (some ⟨t.q, 0, none⟩), .int .i64 0, .int .i64 ((L : Int) - 1)] v1 fun e w' => e = .returned (.int .i64 4) ∧ TS w1 w' t [⟨(L : Int), 2, sp, th, false, 0⟩] [0, 0] ∧ Keeps [t.b, t.c] v1 w' from by
                have h := V1.out.step (free_no v1 t none _ _ V1.out.tab 0 MS.zero (met0 _) room0 0 ⟨(L : Int), 2, sp, th, false, 0⟩ rfl _ (by simp only; omega) (by simp) m2)
                exact h)
              refine QT.out.mono ?_
              rintro e v2 ⟨rfl, hs4, hk4⟩
              clear QT
              have V2 := Lib.hid hs4
              clear hs4 hk4
              go_wp2_with fail
              have QT := Lib.hid (show Calls Try.prog 27 #[.pointer (some ⟨t.q, 0, none⟩), .int .i64 0, .int .i64 (L : Int)] v2 fun e w' => e = .returned (.int .i64 0) ∧ TS w1 w' t [⟨(L : Int), 0, 0, 0, false, 0⟩] [0, 0] ∧ Keeps [t.b, t.c] v2 w' from by
                have h := V2.out.step (free_ok v2 t none _ _ V2.out.tab 0 MS.zero (met0 _) room0 0 ⟨(L : Int), 2, sp, th, false, 0⟩ rfl _ (by simp) rfl)
                exact h)
              refine QT.out.mono ?_
              rintro e v3 ⟨rfl, hs4, hk4⟩
              clear QT
              have V3 := Lib.hid hs4
              clear hs4 hk4
              go_wp2_with fail
              have QT := Lib.hid (show Calls Try.prog 26 #[.pointer (some ⟨t.q, 0, none⟩), .int .i64 0, .int .i64 (L : Int), .int .i64 th] v3 fun e w' => e = .returned (.int .i64 4) ∧ TS w1 w' t [⟨(L : Int), 0, 0, 0, false, 0⟩] [0, 0] ∧ Keeps [t.b, t.c] v3 w' from by
                have h := V3.out.step (doom_not0 v3 t none _ _ V3.out.tab 0 MS.zero (met0 _) room0 0 ⟨(L : Int), 0, 0, 0, false, 0⟩ rfl (L : Int) th t1 t2 (by simp only; omega) (by simp) rfl)
                exact h)
              refine QT.out.mono ?_
              rintro e v4 ⟨rfl, hs4, hk4⟩
              clear QT
              have V4 := Lib.hid hs4
              clear hs4 hk4
              go_wp2_with fail
              exact ⟨⟨L + 1, by omega, by omega, by simp, by simpa using V4.out⟩, by simp [intOf]; omega⟩
          · as_aux_lemma =>
              have m1 : ¬ (L : Int) = (L : Int) + 1 := by omega
              have m2 : ¬ (L : Int) = (L : Int) - 1 := by omega
              go_wp2_with fail
              have QT := Lib.hid (show Calls Try.prog 27 #[.pointer (some ⟨t.q, 0, none⟩), .int .i64 0, .int .i64 ((L : Int) + 1)] wr fun e w' => e = .returned (.int .i64 4) ∧ TS w1 w' t [⟨(L : Int), 2, sp, th, true, b0⟩] [0, 0] ∧ Keeps [t.b, t.c] wr w' from by
                have h := HI.out.step (free_no wr t none _ _ HI.out.tab 0 MS.zero (met0 _) room0 0 ⟨(L : Int), 2, sp, th, true, b0⟩ rfl _ (by simp only; omega) (by simp) m1)
                exact h)
              refine QT.out.mono ?_
              rintro e v1 ⟨rfl, hs4, hk4⟩
              clear QT
              have V1 := Lib.hid hs4
              clear hs4 hk4
              go_wp2_with fail
              have QT := Lib.hid (show Calls Try.prog 27 #[.pointer (some ⟨t.q, 0, none⟩), .int .i64 0, .int .i64 ((L : Int) - 1)] v1 fun e w' => e = .returned (.int .i64 4) ∧ TS w1 w' t [⟨(L : Int), 2, sp, th, true, b0⟩] [0, 0] ∧ Keeps [t.b, t.c] v1 w' from by
                have h := V1.out.step (free_no v1 t none _ _ V1.out.tab 0 MS.zero (met0 _) room0 0 ⟨(L : Int), 2, sp, th, true, b0⟩ rfl _ (by simp only; omega) (by simp) m2)
                exact h)
              refine QT.out.mono ?_
              rintro e v2 ⟨rfl, hs4, hk4⟩
              clear QT
              have V2 := Lib.hid hs4
              clear hs4 hk4
              go_wp2_with fail
              have QT := Lib.hid (show Calls Try.prog 27 #[.pointer (some ⟨t.q, 0, none⟩), .int .i64 0, .int .i64 (L : Int)] v2 fun e w' => e = .returned (.int .i64 0) ∧ TS w1 w' t [⟨(L : Int), 0, 0, 0, false, 0⟩] [0, 0] ∧ Keeps [t.b, t.c] v2 w' from by
                have h := V2.out.step (free_ok v2 t none _ _ V2.out.tab 0 MS.zero (met0 _) room0 0 ⟨(L : Int), 2, sp, th, true, b0⟩ rfl _ (by simp) rfl)
                exact h)
              refine QT.out.mono ?_
              rintro e v3 ⟨rfl, hs4, hk4⟩
              clear QT
              have V3 := Lib.hid hs4
              clear hs4 hk4
              go_wp2_with fail
              have QT := Lib.hid (show Calls Try.prog 26 #[.pointer (some ⟨t.q, 0, none⟩), .int .i64 0, .int .i64 (L : Int), .int .i64 th] v3 fun e w' => e = .returned (.int .i64 4) ∧ TS w1 w' t [⟨(L : Int), 0, 0, 0, false, 0⟩] [0, 0] ∧ Keeps [t.b, t.c] v3 w' from by
                have h := V3.out.step (doom_not0 v3 t none _ _ V3.out.tab 0 MS.zero (met0 _) room0 0 ⟨(L : Int), 0, 0, 0, false, 0⟩ rfl (L : Int) th t1 t2 (by simp only; omega) (by simp) rfl)
                exact h)
              refine QT.out.mono ?_
              rintro e v4 ⟨rfl, hs4, hk4⟩
              clear QT
              have V4 := Lib.hid hs4
              clear hs4 hk4
              go_wp2_with fail
              exact ⟨⟨L + 1, by omega, by omega, by simp, by simpa using V4.out⟩, by simp [intOf]; omega⟩
    · have hl0 : ¬ ((L : Int) ≤ 3) := by omega
      go_wp2_with fail
      go_ret
      exact ⟨rfl, (HK1.out.trans HL.out.keep (by simp)).below (by simp) (Nat.le_refl _)⟩

theorem own : ownKnob Try.prog.godebug = none := by kernel_rfl
theorem laidOut : laidOutB Try.prog = true := by kernel_rfl

set_option maxRecDepth 100000 in
theorem lifted (os : Os) (started : os.Started) (H : Type) (enc : TypeId × Value → H) :
    ReturnsInHanded {} Try.checked os 6 .any (Rows.slotsLivesSpec.pre6 enc Try.prog Try.f6 Rows.slotsLivesRow.domain false) (Rows.slotsLivesSpec.post enc Try.prog Try.f6 false true false false) := by
  refine returnsInHanded_of_change (C := Try.checked) own started (by kernel_rfl) Try.func6
    (ChangeSpec.witness6 (enc := enc) (C := Try.checked) false ⟨#[], #[.int .i64 0, .int .i64 0, .slice none 0 0, .slice none 0 0], []⟩ 8 (by kernel_rfl) (by kernel_rfl) (by kernel_rfl) (by kernel_rfl)) ?_
  intro W base args ds gs before hval0 hW hcnd _
  have hval : ∀ (j : Nat) t v, Try.f6.params[j]? = some t → args[j]? = some v → Value.okWide Try.prog W .any base t v := hval0
  have hW' := hW
  obtain ⟨p, q, hA0, hV, rfl, hfz, hnd⟩ := hW
  have hA : DataW.TrodAll enc Try.prog W 0 (fun _ => true) true Try.f6.params.toList args.toList ds p := hA0
  rw [Try.params6] at hA hval
  obtain ⟨v0, vs0, d0, ds0, p0, q0, hargs, rfl, rfl, h0, r0⟩ := trodAll_cons hA
  obtain ⟨v1, vs1, d1, ds1, p1, q1, rfl, rfl, rfl, h1, r1⟩ := trodAll_cons r0
  obtain ⟨v2, vs2, d2, ds2, p2, q2, rfl, rfl, rfl, h2, r2⟩ := trodAll_cons r1
  obtain ⟨v3, vs3, d3, ds3, p3, q3, rfl, rfl, rfl, h3, r3⟩ := trodAll_cons r2
  obtain ⟨rfl, rfl, rfl⟩ := trodAll_nil r3
  obtain rfl : args = #[v0, v1, v2, v3] := by cases args; simp_all
  obtain ⟨rfl, rfl⟩ := trodVars_none hV
  obtain ⟨a0, rfl, rfl, rfl, w0⟩ := open_int Try.underlying3 (hval 0 3 v0 rfl rfl) h0
  obtain ⟨a1, rfl, rfl, rfl, w1⟩ := open_int Try.underlying3 (hval 1 3 v1 rfl rfl) h1
  have k2 := h2
  have lt2 : ∀ x ∈ p2, x.block < W.heap.size := by obtain ⟨m, hm⟩ := k2; exact DataW.trod_lt m _ _ _ hm
  obtain ⟨A2, n2, c2, rfl⟩ := okWide_slice Try.underlying68 (hval 2 68 v2 rfl rfl)
  obtain ⟨fl2, hf2⟩ := h2
  obtain ⟨⟨xs2, s2⟩, z2⟩ := ints_open Try.underlying68 Try.underlying3 (by kernel_rfl) hf2
  obtain rfl := s2.1
  have k3 := h3
  have lt3 : ∀ x ∈ p3, x.block < W.heap.size := by obtain ⟨m, hm⟩ := k3; exact DataW.trod_lt m _ _ _ hm
  obtain ⟨A3, n3, c3, rfl⟩ := okWide_slice Try.underlying68 (hval 3 68 v3 rfl rfl)
  obtain ⟨fl3, hf3⟩ := h3
  obtain ⟨⟨xs3, s3⟩, z3⟩ := ints_open Try.underlying68 Try.underlying3 (by kernel_rfl) hf3
  obtain rfl := s3.1
  clear hA0 hval0
  refine (walk a0 a1 A2 c2 xs2 A3 c3 xs3 W w0 w1 (Slc.of_ints s2) (Slc.of_ints s3)).mono fun e W' ⟨he, bel⟩ => ?_
  subst he
  exact ⟨_, rfl, _, _, _, [], _, [], hW', trodAll_mk1 (shut_bool Try.underlying4 _), (trodAll_cons_mk (shut_int Try.underlying3 w0) (trodAll_cons_mk (shut_int Try.underlying3 w1) (trodAll_cons_mk (Below.trod laidOut (by kernel_rfl) (of_decide_eq_true (by kernel_rfl)) k2 bel lt2) (trodAll_cons_mk (Below.trod laidOut (by kernel_rfl) (of_decide_eq_true (by kernel_rfl)) k3 bel lt3) trodAll_mk0)))), rfl, bel.frame _, fun h => by cases h⟩

theorem over : Rows.slotsLivesRow.holds Try.pinned (OpenSpec.ofChange Rows.slotsLivesSpec) :=
  OpenClaim.holds_of_wide 6 Try.f6 rfl rfl rfl rfl rfl rfl rfl ⟨rfl, rfl, rfl, rfl, rfl⟩ rfl rfl rfl rfl rfl (by kernel_rfl) Try.func6 (by kernel_rfl)
    (of_decide_eq_true (by kernel_rfl)) (by unfold Func.isWrapper; first | (rw [if_pos (by decide +kernel)]; kernel_rfl) | (rw [if_neg (by decide +kernel)]; exact ⟨rfl, rfl⟩))
    (fun os started H enc _ => lifted os started H enc)

/-- The statement. -/
theorem proved : Rows.SlotsLivesSaid := over
#print axioms proved
end Go.Proofs.Ytdkbdlhfhmgenaa.slotsLives
