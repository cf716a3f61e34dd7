/- SlotsHolds: a slot belongs to one claim at a time, generation by generation: the call returns true wherever what it reads is of bulk at most 1048576. -/
import Derived.Test.YtdkbdlhfhmgenaaRows
import Derived.Test.YtdkbdlhfhmgenaaSlotsP
import Derived.Test.YtdkbdlhfhmgenaaScript6
import Derived.Deep.DeepCutAuto
import Derived.Deep.CutBlock
import Derived.Deep.QuietTactic
import Derived.BigQuiet
import Derived.JoinedCond
import Derived.WalkKit
import Derived.ProofKit
import Derived.OpenShut
import Derived.ShutString
import Derived.ChangeOld
import Derived.Below
import Derived.Carry
namespace Go.Proofs.Ytdkbdlhfhmgenaa.slotsHolds
open Go.ChangeShapes Go.WideShapes Go.ChangeAt Go.RowKit
set_option linter.unusedVariables false


set_option maxRecDepth 100000 in
set_option maxHeartbeats 16000000 in
theorem walk (a0 : Int) (A : Option Addr) (n c : Nat) (ops : List Op6) (w : World) (hb : (Lit.int IntKind.i64 a0).wf = true) (hs : Script6 w A n c ops) :
    Calls Try.prog 5 #[.int .i64 a0, .slice A n c] w fun e w' => e = .returned (.bool true) ∧ Below w.heap.size w w' := by
  have HSC := Lib.hid hs
  have hn := hs.2.2.1
  have hni : (n : Int) ≤ 1048576 := by omega
  have hb7 := i64_and7 a0
  obtain ⟨q, hq⟩ : ∃ q : Nat, a0 % 8 = q := ⟨(a0 % 8).toNat, by omega⟩
  rw [hq] at hb7
  have hq2 : q < 8 := by omega
  obtain ⟨nn, hnn⟩ : ∃ nn : Nat, (1 : Int) + q = nn := ⟨1 + q, by omega⟩
  have nn1 : 1 ≤ nn := by omega
  have nn8 : nn ≤ 8 := by omega
  clear hs hq
  go_enter Try.func5, Try.ntmps5
  go_wp2_with fail
  refine (awake6 _).mono ?_
  rintro e w1 ⟨rfl, hk1⟩
  have HK1 := Lib.hid hk1
  clear hk1
  go_wp2_with fail
  refine (ts_new w1 w1 (Keeps.refl _ _) nn nn1 nn8).mono ?_
  rintro e w2 ⟨t, rfl, hs, hk, hd⟩
  have HS := Lib.hid hs
  have HD := Lib.hid hd
  clear hs hk hd hnn hb7 hq2
  go_wp2_with fail
  have hI : HI w1 (((w2.alloc (.cells #[.int .i64 0, .int .i64 0, .int .i64 0, .int .i64 0, .int .i64 0, .int .i64 0, .int .i64 0, .int .i64 0] 54)).alloc (.cells #[.bool false, .bool false, .bool false, .bool false, .bool false, .bool false, .bool false, .bool false] 55)).alloc (.cells #[.bool false, .bool false, .bool false, .bool false, .bool false, .bool false, .bool false, .bool false] 55)) t w2.heap.size (w2.heap.size + 1) (w2.heap.size + 1 + 1) (List.replicate nn Hd.zero) (List.replicate (nn * 2) 0) nn 0 := by
    have ht := HS.out.tab.lt
    have hz := HS.out.keep.size
    refine ⟨HS.out.calm ((((Keeps.refl _ _).alloc _).alloc _).alloc _), ⟨?_, ?_, ?_⟩, ⟨by omega, by omega, by omega, by omega, by omega, by omega⟩, by simp, ?_⟩
    · exact (show Arr _ _ _ (fun _ => .int .i64 0) from ((Blk.new _ _ _).alloc _).alloc _).same (fun i hi => by rw [hg_rep]; rfl)
    · exact (show Arr _ _ _ (fun _ => .bool false) from (Blk.alloc (new_at _ _ _ (by simp)) _)).same (fun i hi => by rw [hg_rep]; rfl)
    · exact (show Arr _ _ _ (fun _ => .bool false) from (new_at _ _ _ (by simp))).same (fun i hi => by rw [hg_rep]; rfl)
    · intro j x hx
      rw [List.getElem?_replicate] at hx
      split at hx
      · injection hx with hx; subst hx; exact ⟨by decide, by decide, .inl ⟨0, rfl⟩⟩
      · cases hx
  have HI0 := Lib.hid hI
  clear hI HS HD
  generalize hwa : ((w2.alloc (.cells #[.int .i64 0, .int .i64 0, .int .i64 0, .int .i64 0, .int .i64 0, .int .i64 0, .int .i64 0, .int .i64 0] 54)).alloc (.cells #[.bool false, .bool false, .bool false, .bool false, .bool false, .bool false, .bool false, .bool false] 55)).alloc (.cells #[.bool false, .bool false, .bool false, .bool false, .bool false, .bool false, .bool false, .bool false] 55) = wa at *
  clear hwa
  go_loopw [12] (fun i wr => ∃ (k : Nat) (H : List Hd) (W : List Int), k ≤ n ∧ i = .int .i64 k ∧ HI w1 wr t w2.heap.size (w2.heap.size + 1) (w2.heap.size + 1 + 1) H W nn k) (fun i _ => n - (intOf i).toNat)
  case atStart => exact ⟨0, _, _, Nat.zero_le _, rfl, HI0.out⟩
  case round =>
    obtain ⟨k, H, W, hk, rfl, hi⟩ := hrel
    have HC := Lib.hid hi
    have KW := Lib.hid (HK1.out.trans hi.ts.keep (by simp))
    clear hi
    by_cases hlt : k < n
    · obtain ⟨ab, off, p, rfl, hp, hcell⟩ := HSC.out.at_ hlt
      have hop := hcell wr (KW.out.below (by simp) (Nat.le_refl _))
      have c0 := hop.c0
      have c1 := hop.c1
      have c2 := hop.c2
      have c3 := hop.c3
      have c4 := hop.c4
      have c5 := hop.c5
      clear hop hcell hp
      have k0 : (0 : Int) ≤ (k : Int) := by omega
      have k1 : (k : Int) < (n : Int) := by omega
      have kb : k + 1 ≤ 1048576 := by omega
      obtain ⟨po, kd, sl, gn, pn, px⟩ := p
      simp only at c0 c1 c2 c3 c4 c5
      have hb7 := i64_and7 sl
      obtain ⟨sq, hsq⟩ : ∃ sq : Nat, sl % 8 = sq := ⟨(sl % 8).toNat, by omega⟩
      rw [hsq] at hb7
      clear hsq
      obtain ⟨s, hs⟩ : ∃ s : Nat, s = if sq < nn then sq else 0 := ⟨_, rfl⟩
      have hsn : s < nn := by subst hs; split <;> omega
      go_upto_if 58 with fail
      go_cut [14] (fun v wx => v = .int .i64 s ∧ wx = wr.alloc (.cells #[.bool po, .int .i64 kd, .int .i64 sl, .int .i64 gn, .int .i64 pn, .int .u64 px] 58))
      case first =>
        by_cases hq : sq < nn
        · have e1 : ¬ ((nn : Int) ≤ (sq : Int)) := by omega
          rw [if_pos hq] at hs
          subst hs
          go_wp2_with fail
          go_meet
          exact ⟨rfl, rfl⟩
        · have e1 : (nn : Int) ≤ (sq : Int) := by omega
          rw [if_neg hq] at hs
          subst hs
          go_wp2_with fail
          go_meet
          exact ⟨rfl, rfl⟩
      case rest =>
        obtain ⟨rfl, rfl⟩ := hcut
        clear hs c0 c1 c2 c3 c4 c5
        have bo := Blk.new wr 58 #[.bool po, .int .i64 kd, .int .i64 sl, .int .i64 gn, .int .i64 pn, .int .u64 px]
        have d1 : (wr.alloc (.cells #[.bool po, .int .i64 kd, .int .i64 sl, .int .i64 gn, .int .i64 pn, .int .u64 px] 58)).cell? ⟨wr.heap.size, 1, none⟩ = some (.int .i64 kd) := (bo.cell 1).trans rfl
        have d3 : (wr.alloc (.cells #[.bool po, .int .i64 kd, .int .i64 sl, .int .i64 gn, .int .i64 pn, .int .u64 px] 58)).cell? ⟨wr.heap.size, 3, none⟩ = some (.int .i64 gn) := (bo.cell 3).trans rfl
        have d4 : (wr.alloc (.cells #[.bool po, .int .i64 kd, .int .i64 sl, .int .i64 gn, .int .i64 pn, .int .u64 px] 58)).cell? ⟨wr.heap.size, 4, none⟩ = some (.int .i64 pn) := (bo.cell 4).trans rfl
        have d5 : (wr.alloc (.cells #[.bool po, .int .i64 kd, .int .i64 sl, .int .i64 gn, .int .i64 pn, .int .u64 px] 58)).cell? ⟨wr.heap.size, 5, none⟩ = some (.int .u64 px) := (bo.cell 5).trans rfl
        have HB := Lib.hid (HC.out.calm ((Keeps.refl [] wr).alloc _ : Keeps [] wr (wr.alloc (.cells #[.bool po, .int .i64 kd, .int .i64 sl, .int .i64 gn, .int .i64 pn, .int .u64 px] 58))))
        generalize hwB : wr.alloc (.cells #[.bool po, .int .i64 kd, .int .i64 sl, .int .i64 gn, .int .i64 pn, .int .u64 px] 58) = wB at *
        clear hwB bo HC hb7
        have hlen := HB.out.len
        have s8 : s < 8 := by omega
        have si0 : (0 : Int) ≤ (s : Int) := by omega
        have si8 : (s : Int) < 8 := by omega
        have hp7 := i64_and7 pn
        have hp1 := i64_and1 pn
        have hpk := i64_and1023 pn
        obtain ⟨p7, e7⟩ : ∃ p7 : Int, pn % 8 = p7 := ⟨_, rfl⟩
        obtain ⟨p1, e1⟩ : ∃ p1 : Nat, pn % 2 = p1 := ⟨(pn % 2).toNat, by omega⟩
        obtain ⟨pk, ek⟩ : ∃ pk : Int, pn % 1024 = pk := ⟨_, rfl⟩
        have t1 : 1 ≤ 1 + p7 := by omega
        have t2 : 1 + p7 ≤ 8 := by omega
        have t3 : 1 ≤ 1 + pk := by omega
        have t4 : 1 + pk ≤ 1024 := by omega
        have t5 : p1 < 2 := by omega
        rw [e7] at hp7
        rw [e1] at hp1
        rw [ek] at hpk
        clear e7 e1 ek
        obtain ⟨x, hx⟩ : ∃ x, H[s]? = some x := ⟨_, List.getElem?_eq_getElem (by omega)⟩
        have hfx := HB.out.fine s x hx
        have g0 := hfx.g0
        have g1 := hfx.g1
        have hsh := hfx.sh
        clear hfx
        go_upto_block 2 with fail
        go_cut [] (fun wx => ∃ H' W', HI w1 wx t w2.heap.size (w2.heap.size + 1) (w2.heap.size + 1 + 1) H' W' nn (k + 1))
        case first =>
          by_cases k2 : kd = 2
          · subst k2
            rcases hsh with ⟨g, rfl⟩ | ⟨g, th, hth, rfl⟩ | ⟨g, st, th, hst, hth, rfl⟩ | ⟨g, st, th, by_, hst, hth, hby, rfl⟩
            · simp only at g0 g1
              as_aux_lemma =>
                have hwg : wrap64 (g + 1) = g + 1 := by unfold wrap64; omega
                have QT := Lib.hid (show Calls Try.prog 24 #[.pointer (some ⟨t.q, 0, none⟩), .int .i64 s, .int .i64 (1 + p7)] wB fun e w' => e = .returned (.tuple #[.int .i64 (g + 1), .int .i64 0]) ∧ TS w1 w' t (H.set s ⟨g + 1, 1, 0, 1 + p7, false, 0⟩) W ∧ Keeps [t.b, t.c] wB w' from by
                  have h := HB.out.ts.step (claim_ok wB t none H W HB.out.ts.tab 0 MS.zero (met0 _) room0 s _ hx (1 + p7) t1 t2 rfl)
                  simp only [hwg] at h
                  exact h)
                go_wp2_with fail
                refine QT.out.mono ?_
                rintro e w4 ⟨rfl, hs4, hk4⟩
                have ha4 := HB.out.arr.tab HB.out.dist hk4
                obtain ⟨ag, ah, ad, fg, fh, fd⟩ := ha4.at_ s8 hx
                (try simp at ag ah ad)
                have HS4 := Lib.hid hs4
                have HA4 := Lib.hid ha4
                clear hs4 ha4 hk4 QT
                go_wp2_with fail
                go_meet
                exact ⟨_, _, HB.out.step HS4.out (((Keeps.refl [w2.heap.size, w2.heap.size + 1, w2.heap.size + 1 + 1] w4).setCell (.inl (by simp)) _).setCell (.inl (by simp)) _) (HA4.out.claim (y := ⟨g + 1, 1, 0, 1 + p7, false, 0⟩) HB.out.dist s8 hx rfl rfl) ⟨by simp only; omega, by simp only; omega, .inr (.inl ⟨_, _, by omega, rfl⟩)⟩⟩
            · simp only at g0 g1
              as_aux_lemma =>
                have QT := Lib.hid (show Calls Try.prog 24 #[.pointer (some ⟨t.q, 0, none⟩), .int .i64 s, .int .i64 (1 + p7)] wB fun e w' => e = .returned (.tuple #[.int .i64 0, .int .i64 5]) ∧ TS w1 w' t H W ∧ Keeps [t.b, t.c] wB w' from by
                  have h := HB.out.ts.step (claim_held wB t none H W HB.out.ts.tab 0 MS.zero (met0 _) room0 s _ hx (1 + p7) t1 t2 (by simp only; omega) (by simp))
                  exact h)
                go_wp2_with fail
                refine QT.out.mono ?_
                rintro e w4 ⟨rfl, hs4, hk4⟩
                have ha4 := HB.out.arr.tab HB.out.dist hk4
                obtain ⟨ag, ah, ad, fg, fh, fd⟩ := ha4.at_ s8 hx
                (try simp at ag ah ad)
                have HS4 := Lib.hid hs4
                have HA4 := Lib.hid ha4
                clear hs4 ha4 hk4 QT
                go_wp2_with fail
                go_meet
                exact ⟨_, _, HB.out.still hx HS4.out (Keeps.refl [w2.heap.size, w2.heap.size + 1, w2.heap.size + 1 + 1] w4) HA4.out⟩
            · simp only at g0 g1
              as_aux_lemma =>
                have QT := Lib.hid (show Calls Try.prog 24 #[.pointer (some ⟨t.q, 0, none⟩), .int .i64 s, .int .i64 (1 + p7)] wB fun e w' => e = .returned (.tuple #[.int .i64 0, .int .i64 5]) ∧ TS w1 w' t H W ∧ Keeps [t.b, t.c] wB w' from by
                  have h := HB.out.ts.step (claim_held wB t none H W HB.out.ts.tab 0 MS.zero (met0 _) room0 s _ hx (1 + p7) t1 t2 (by simp only; omega) (by simp))
                  exact h)
                go_wp2_with fail
                refine QT.out.mono ?_
                rintro e w4 ⟨rfl, hs4, hk4⟩
                have ha4 := HB.out.arr.tab HB.out.dist hk4
                obtain ⟨ag, ah, ad, fg, fh, fd⟩ := ha4.at_ s8 hx
                (try simp at ag ah ad)
                have HS4 := Lib.hid hs4
                have HA4 := Lib.hid ha4
                clear hs4 ha4 hk4 QT
                go_wp2_with fail
                go_meet
                exact ⟨_, _, HB.out.still hx HS4.out (Keeps.refl [w2.heap.size, w2.heap.size + 1, w2.heap.size + 1 + 1] w4) HA4.out⟩
            · simp only at g0 g1
              as_aux_lemma =>
                have QT := Lib.hid (show Calls Try.prog 24 #[.pointer (some ⟨t.q, 0, none⟩), .int .i64 s, .int .i64 (1 + p7)] wB fun e w' => e = .returned (.tuple #[.int .i64 0, .int .i64 5]) ∧ TS w1 w' t H W ∧ Keeps [t.b, t.c] wB w' from by
                  have h := HB.out.ts.step (claim_held wB t none H W HB.out.ts.tab 0 MS.zero (met0 _) room0 s _ hx (1 + p7) t1 t2 (by simp only; omega) (by simp))
                  exact h)
                go_wp2_with fail
                refine QT.out.mono ?_
                rintro e w4 ⟨rfl, hs4, hk4⟩
                have ha4 := HB.out.arr.tab HB.out.dist hk4
                obtain ⟨ag, ah, ad, fg, fh, fd⟩ := ha4.at_ s8 hx
                (try simp at ag ah ad)
                have HS4 := Lib.hid hs4
                have HA4 := Lib.hid ha4
                clear hs4 ha4 hk4 QT
                go_wp2_with fail
                go_meet
                exact ⟨_, _, HB.out.still hx HS4.out (Keeps.refl [w2.heap.size, w2.heap.size + 1, w2.heap.size + 1 + 1] w4) HA4.out⟩
          · have n2 : (kd == 2) = false := by simpa using k2
            by_cases k3 : kd = 3
            · subst k3
              rcases hsh with ⟨g, rfl⟩ | ⟨g, th, hth, rfl⟩ | ⟨g, st, th, hst, hth, rfl⟩ | ⟨g, st, th, by_, hst, hth, hby, rfl⟩
              · simp only at g0 g1
                as_aux_lemma =>
                  have QT := Lib.hid (show Calls Try.prog 25 #[.pointer (some ⟨t.q, 0, none⟩), .int .i64 s, .int .i64 gn, .int .i64 (1 + pk)] wB fun e w' => e = .returned (.int .i64 4) ∧ TS w1 w' t H W ∧ Keeps [t.b, t.c] wB w' from by
                    have h := HB.out.ts.step (ready_not wB t none H W HB.out.ts.tab 0 MS.zero (met0 _) room0 s _ hx gn (1 + pk) t3 (by simp only; omega) (by simp))
                    exact h)
                  go_wp2_with fail
                  refine QT.out.mono ?_
                  rintro e w4 ⟨rfl, hs4, hk4⟩
                  have ha4 := HB.out.arr.tab HB.out.dist hk4
                  obtain ⟨ag, ah, ad, fg, fh, fd⟩ := ha4.at_ s8 hx
                  (try simp at ag ah ad)
                  have HS4 := Lib.hid hs4
                  have HA4 := Lib.hid ha4
                  clear hs4 ha4 hk4 QT
                  go_wp2_with fail
                  go_meet
                  exact ⟨_, _, HB.out.still hx HS4.out (Keeps.refl [w2.heap.size, w2.heap.size + 1, w2.heap.size + 1 + 1] w4) HA4.out⟩
              · simp only at g0 g1
                by_cases hg : g = gn
                · subst hg
                  as_aux_lemma =>
                    have QT := Lib.hid (show Calls Try.prog 25 #[.pointer (some ⟨t.q, 0, none⟩), .int .i64 s, .int .i64 g, .int .i64 (1 + pk)] wB fun e w' => e = .returned (.int .i64 0) ∧ TS w1 w' t (H.set s ⟨g, 2, 1 + pk, th, false, 0⟩) W ∧ Keeps [t.b, t.c] wB w' from by
                      have h := HB.out.ts.step (ready_ok wB t none H W HB.out.ts.tab 0 MS.zero (met0 _) room0 s _ hx g (1 + pk) t3 rfl rfl)
                      exact h)
                    go_wp2_with fail
                    refine QT.out.mono ?_
                    rintro e w4 ⟨rfl, hs4, hk4⟩
                    have ha4 := HB.out.arr.tab HB.out.dist hk4
                    obtain ⟨ag, ah, ad, fg, fh, fd⟩ := ha4.at_ s8 hx
                    (try simp at ag ah ad)
                    have HS4 := Lib.hid hs4
                    have HA4 := Lib.hid ha4
                    clear hs4 ha4 hk4 QT
                    go_wp2_with fail
                    go_meet
                    exact ⟨_, _, HB.out.step HS4.out ((Keeps.refl [w2.heap.size, w2.heap.size + 1, w2.heap.size + 1 + 1] w4)) (HA4.out.like_one (y := ⟨g, 2, 1 + pk, th, false, 0⟩) (by omega) hx rfl rfl rfl) ⟨by simp only; omega, by simp only; omega, .inr (.inr (.inl ⟨_, _, _, by omega, by omega, rfl⟩))⟩⟩
                · have hg1 : (gn == g) = false := by simpa using (fun e => hg e.symm)
                  have hg2 : (gn != g) = true := by simpa using (fun e => hg e.symm)
                  have hg3 : ¬ gn = g := fun e => hg e.symm
                  as_aux_lemma =>
                    have QT := Lib.hid (show Calls Try.prog 25 #[.pointer (some ⟨t.q, 0, none⟩), .int .i64 s, .int .i64 gn, .int .i64 (1 + pk)] wB fun e w' => e = .returned (.int .i64 4) ∧ TS w1 w' t H W ∧ Keeps [t.b, t.c] wB w' from by
                      have h := HB.out.ts.step (ready_no wB t none H W HB.out.ts.tab 0 MS.zero (met0 _) room0 s _ hx gn (1 + pk) t3 (by simp only; omega) rfl hg)
                      exact h)
                    go_wp2_with fail
                    refine QT.out.mono ?_
                    rintro e w4 ⟨rfl, hs4, hk4⟩
                    have ha4 := HB.out.arr.tab HB.out.dist hk4
                    obtain ⟨ag, ah, ad, fg, fh, fd⟩ := ha4.at_ s8 hx
                    (try simp at ag ah ad)
                    have HS4 := Lib.hid hs4
                    have HA4 := Lib.hid ha4
                    clear hs4 ha4 hk4 QT
                    go_wp2_with fail
                    go_meet
                    exact ⟨_, _, HB.out.still hx HS4.out (Keeps.refl [w2.heap.size, w2.heap.size + 1, w2.heap.size + 1 + 1] w4) HA4.out⟩
              · simp only at g0 g1
                as_aux_lemma =>
                  have QT := Lib.hid (show Calls Try.prog 25 #[.pointer (some ⟨t.q, 0, none⟩), .int .i64 s, .int .i64 gn, .int .i64 (1 + pk)] wB fun e w' => e = .returned (.int .i64 4) ∧ TS w1 w' t H W ∧ Keeps [t.b, t.c] wB w' from by
                    have h := HB.out.ts.step (ready_not wB t none H W HB.out.ts.tab 0 MS.zero (met0 _) room0 s _ hx gn (1 + pk) t3 (by simp only; omega) (by simp))
                    exact h)
                  go_wp2_with fail
                  refine QT.out.mono ?_
                  rintro e w4 ⟨rfl, hs4, hk4⟩
                  have ha4 := HB.out.arr.tab HB.out.dist hk4
                  obtain ⟨ag, ah, ad, fg, fh, fd⟩ := ha4.at_ s8 hx
                  (try simp at ag ah ad)
                  have HS4 := Lib.hid hs4
                  have HA4 := Lib.hid ha4
                  clear hs4 ha4 hk4 QT
                  go_wp2_with fail
                  go_meet
                  exact ⟨_, _, HB.out.still hx HS4.out (Keeps.refl [w2.heap.size, w2.heap.size + 1, w2.heap.size + 1 + 1] w4) HA4.out⟩
              · simp only at g0 g1
                as_aux_lemma =>
                  have QT := Lib.hid (show Calls Try.prog 25 #[.pointer (some ⟨t.q, 0, none⟩), .int .i64 s, .int .i64 gn, .int .i64 (1 + pk)] wB fun e w' => e = .returned (.int .i64 4) ∧ TS w1 w' t H W ∧ Keeps [t.b, t.c] wB w' from by
                    have h := HB.out.ts.step (ready_not wB t none H W HB.out.ts.tab 0 MS.zero (met0 _) room0 s _ hx gn (1 + pk) t3 (by simp only; omega) (by simp))
                    exact h)
                  go_wp2_with fail
                  refine QT.out.mono ?_
                  rintro e w4 ⟨rfl, hs4, hk4⟩
                  have ha4 := HB.out.arr.tab HB.out.dist hk4
                  obtain ⟨ag, ah, ad, fg, fh, fd⟩ := ha4.at_ s8 hx
                  (try simp at ag ah ad)
                  have HS4 := Lib.hid hs4
                  have HA4 := Lib.hid ha4
                  clear hs4 ha4 hk4 QT
                  go_wp2_with fail
                  go_meet
                  exact ⟨_, _, HB.out.still hx HS4.out (Keeps.refl [w2.heap.size, w2.heap.size + 1, w2.heap.size + 1 + 1] w4) HA4.out⟩
            · have n3 : (kd == 3) = false := by simpa using k3
              by_cases k5 : kd = 5
              · subst k5
                rcases hsh with ⟨g, rfl⟩ | ⟨g, th, hth, rfl⟩ | ⟨g, st, th, hst, hth, rfl⟩ | ⟨g, st, th, by_, hst, hth, hby, rfl⟩
                · simp only at g0 g1
                  as_aux_lemma =>
                    have QT := Lib.hid (show Calls Try.prog 26 #[.pointer (some ⟨t.q, 0, none⟩), .int .i64 s, .int .i64 gn, .int .i64 (1 + p7)] wB fun e w' => e = .returned (.int .i64 4) ∧ TS w1 w' t H W ∧ Keeps [t.b, t.c] wB w' from by
                      have h := HB.out.ts.step (doom_not0 wB t none H W HB.out.ts.tab 0 MS.zero (met0 _) room0 s _ hx gn (1 + p7) t1 t2 (by simp only; omega) (by simp) rfl)
                      exact h)
                    go_wp2_with fail
                    refine QT.out.mono ?_
                    rintro e w4 ⟨rfl, hs4, hk4⟩
                    have ha4 := HB.out.arr.tab HB.out.dist hk4
                    obtain ⟨ag, ah, ad, fg, fh, fd⟩ := ha4.at_ s8 hx
                    (try simp at ag ah ad)
                    have HS4 := Lib.hid hs4
                    have HA4 := Lib.hid ha4
                    clear hs4 ha4 hk4 QT
                    go_wp2_with fail
                    go_meet
                    exact ⟨_, _, HB.out.still hx HS4.out ((Keeps.refl [w2.heap.size, w2.heap.size + 1, w2.heap.size + 1 + 1] w4).setCell (.inl (by simp)) _) (by have h := HA4.out.doom HB.out.dist s8 hx (y := ⟨g, 0, 0, 0, false, 0⟩) rfl rfl; rw [set_self hx] at h; exact h)⟩
                · simp only at g0 g1
                  as_aux_lemma =>
                    have QT := Lib.hid (show Calls Try.prog 26 #[.pointer (some ⟨t.q, 0, none⟩), .int .i64 s, .int .i64 gn, .int .i64 (1 + p7)] wB fun e w' => e = .returned (.int .i64 4) ∧ TS w1 w' t H W ∧ Keeps [t.b, t.c] wB w' from by
                      have h := HB.out.ts.step (doom_not0 wB t none H W HB.out.ts.tab 0 MS.zero (met0 _) room0 s _ hx gn (1 + p7) t1 t2 (by simp only; omega) (by simp) rfl)
                      exact h)
                    go_wp2_with fail
                    refine QT.out.mono ?_
                    rintro e w4 ⟨rfl, hs4, hk4⟩
                    have ha4 := HB.out.arr.tab HB.out.dist hk4
                    obtain ⟨ag, ah, ad, fg, fh, fd⟩ := ha4.at_ s8 hx
                    (try simp at ag ah ad)
                    have HS4 := Lib.hid hs4
                    have HA4 := Lib.hid ha4
                    clear hs4 ha4 hk4 QT
                    go_wp2_with fail
                    go_meet
                    exact ⟨_, _, HB.out.still hx HS4.out ((Keeps.refl [w2.heap.size, w2.heap.size + 1, w2.heap.size + 1 + 1] w4).setCell (.inl (by simp)) _) (by have h := HA4.out.doom HB.out.dist s8 hx (y := ⟨g, 1, 0, th, false, 0⟩) rfl rfl; rw [set_self hx] at h; exact h)⟩
                · simp only at g0 g1
                  by_cases hg : g = gn
                  · subst hg
                    as_aux_lemma =>
                      have QT := Lib.hid (show Calls Try.prog 26 #[.pointer (some ⟨t.q, 0, none⟩), .int .i64 s, .int .i64 g, .int .i64 (1 + p7)] wB fun e w' => e = .returned (.int .i64 0) ∧ TS w1 w' t (H.set s ⟨g, 2, st, th, true, 1 + p7⟩) W ∧ Keeps [t.b, t.c] wB w' from by
                        have h := HB.out.ts.step (doom_new wB t none H W HB.out.ts.tab 0 MS.zero (met0 _) room0 s _ hx g (1 + p7) t1 t2 rfl rfl rfl)
                        exact h)
                      go_wp2_with fail
                      refine QT.out.mono ?_
                      rintro e w4 ⟨rfl, hs4, hk4⟩
                      have ha4 := HB.out.arr.tab HB.out.dist hk4
                      obtain ⟨ag, ah, ad, fg, fh, fd⟩ := ha4.at_ s8 hx
                      (try simp at ag ah ad)
                      have HS4 := Lib.hid hs4
                      have HA4 := Lib.hid ha4
                      clear hs4 ha4 hk4 QT
                      go_wp2_with fail
                      go_meet
                      exact ⟨_, _, HB.out.step HS4.out ((Keeps.refl [w2.heap.size, w2.heap.size + 1, w2.heap.size + 1 + 1] w4).setCell (.inl (by simp)) _) (HA4.out.doom (y := ⟨g, 2, st, th, true, 1 + p7⟩) HB.out.dist s8 hx rfl rfl) ⟨by simp only; omega, by simp only; omega, .inr (.inr (.inr ⟨_, _, _, _, by omega, by omega, by omega, rfl⟩))⟩⟩
                  · have hg1 : (gn == g) = false := by simpa using (fun e => hg e.symm)
                    have hg2 : (gn != g) = true := by simpa using (fun e => hg e.symm)
                    have hg3 : ¬ gn = g := fun e => hg e.symm
                    as_aux_lemma =>
                      have QT := Lib.hid (show Calls Try.prog 26 #[.pointer (some ⟨t.q, 0, none⟩), .int .i64 s, .int .i64 gn, .int .i64 (1 + p7)] wB fun e w' => e = .returned (.int .i64 4) ∧ TS w1 w' t H W ∧ Keeps [t.b, t.c] wB w' from by
                        have h := HB.out.ts.step (doom_no0 wB t none H W HB.out.ts.tab 0 MS.zero (met0 _) room0 s _ hx gn (1 + p7) t1 t2 (by simp only; omega) rfl hg rfl)
                        exact h)
                      go_wp2_with fail
                      refine QT.out.mono ?_
                      rintro e w4 ⟨rfl, hs4, hk4⟩
                      have ha4 := HB.out.arr.tab HB.out.dist hk4
                      obtain ⟨ag, ah, ad, fg, fh, fd⟩ := ha4.at_ s8 hx
                      (try simp at ag ah ad)
                      have HS4 := Lib.hid hs4
                      have HA4 := Lib.hid ha4
                      clear hs4 ha4 hk4 QT
                      go_wp2_with fail
                      go_meet
                      exact ⟨_, _, HB.out.still hx HS4.out ((Keeps.refl [w2.heap.size, w2.heap.size + 1, w2.heap.size + 1 + 1] w4).setCell (.inl (by simp)) _) (by have h := HA4.out.doom HB.out.dist s8 hx (y := ⟨g, 2, st, th, false, 0⟩) rfl rfl; rw [set_self hx] at h; exact h)⟩
                · simp only at g0 g1
                  by_cases hg : g = gn
                  · subst hg
                    as_aux_lemma =>
                      have QT := Lib.hid (show Calls Try.prog 26 #[.pointer (some ⟨t.q, 0, none⟩), .int .i64 s, .int .i64 g, .int .i64 (1 + p7)] wB fun e w' => e = .returned (.int .i64 0) ∧ TS w1 w' t (H.set s ⟨g, 2, st, th, true, by_⟩) W ∧ Keeps [t.b, t.c] wB w' from by
                        have h := HB.out.ts.step (doom_old wB t none H W HB.out.ts.tab 0 MS.zero (met0 _) room0 s _ hx g (1 + p7) t1 t2 rfl rfl rfl)
                        exact h)
                      go_wp2_with fail
                      refine QT.out.mono ?_
                      rintro e w4 ⟨rfl, hs4, hk4⟩
                      have ha4 := HB.out.arr.tab HB.out.dist hk4
                      obtain ⟨ag, ah, ad, fg, fh, fd⟩ := ha4.at_ s8 hx
                      (try simp at ag ah ad)
                      have HS4 := Lib.hid hs4
                      have HA4 := Lib.hid ha4
                      clear hs4 ha4 hk4 QT
                      go_wp2_with fail
                      go_meet
                      exact ⟨_, _, HB.out.step HS4.out ((Keeps.refl [w2.heap.size, w2.heap.size + 1, w2.heap.size + 1 + 1] w4).setCell (.inl (by simp)) _) (HA4.out.doom (y := ⟨g, 2, st, th, true, by_⟩) HB.out.dist s8 hx rfl rfl) ⟨by simp only; omega, by simp only; omega, .inr (.inr (.inr ⟨_, _, _, _, by omega, by omega, by omega, rfl⟩))⟩⟩
                  · have hg1 : (gn == g) = false := by simpa using (fun e => hg e.symm)
                    have hg2 : (gn != g) = true := by simpa using (fun e => hg e.symm)
                    have hg3 : ¬ gn = g := fun e => hg e.symm
                    as_aux_lemma =>
                      have QT := Lib.hid (show Calls Try.prog 26 #[.pointer (some ⟨t.q, 0, none⟩), .int .i64 s, .int .i64 gn, .int .i64 (1 + p7)] wB fun e w' => e = .returned (.int .i64 4) ∧ TS w1 w' t H W ∧ Keeps [t.b, t.c] wB w' from by
                        have h := HB.out.ts.step (doom_no1 wB t none H W HB.out.ts.tab 0 MS.zero (met0 _) room0 s _ hx gn (1 + p7) t1 t2 (by simp only; omega) rfl hg rfl)
                        exact h)
                      go_wp2_with fail
                      refine QT.out.mono ?_
                      rintro e w4 ⟨rfl, hs4, hk4⟩
                      have ha4 := HB.out.arr.tab HB.out.dist hk4
                      obtain ⟨ag, ah, ad, fg, fh, fd⟩ := ha4.at_ s8 hx
                      (try simp at ag ah ad)
                      have HS4 := Lib.hid hs4
                      have HA4 := Lib.hid ha4
                      clear hs4 ha4 hk4 QT
                      go_wp2_with fail
                      go_meet
                      exact ⟨_, _, HB.out.still hx HS4.out ((Keeps.refl [w2.heap.size, w2.heap.size + 1, w2.heap.size + 1 + 1] w4).setCell (.inl (by simp)) _) (by have h := HA4.out.doom HB.out.dist s8 hx (y := ⟨g, 2, st, th, true, by_⟩) rfl rfl; rw [set_self hx] at h; exact h)⟩
              · have n5 : (kd == 5) = false := by simpa using k5
                by_cases k6 : kd = 6
                · subst k6
                  rcases hsh with ⟨g, rfl⟩ | ⟨g, th, hth, rfl⟩ | ⟨g, st, th, hst, hth, rfl⟩ | ⟨g, st, th, by_, hst, hth, hby, rfl⟩
                  · simp only at g0 g1
                    as_aux_lemma =>
                      have QT := Lib.hid (show Calls Try.prog 27 #[.pointer (some ⟨t.q, 0, none⟩), .int .i64 s, .int .i64 gn] wB fun e w' => e = .returned (.int .i64 4) ∧ TS w1 w' t H W ∧ Keeps [t.b, t.c] wB w' from by
                        have h := HB.out.ts.step (free_not wB t none H W HB.out.ts.tab 0 MS.zero (met0 _) room0 s _ hx gn (by simp only; omega) rfl)
                        exact h)
                      go_wp2_with fail
                      refine QT.out.mono ?_
                      rintro e w4 ⟨rfl, hs4, hk4⟩
                      have ha4 := HB.out.arr.tab HB.out.dist hk4
                      obtain ⟨ag, ah, ad, fg, fh, fd⟩ := ha4.at_ s8 hx
                      (try simp at ag ah ad)
                      have HS4 := Lib.hid hs4
                      have HA4 := Lib.hid ha4
                      clear hs4 ha4 hk4 QT
                      go_wp2_with fail
                      go_meet
                      exact ⟨_, _, HB.out.still hx HS4.out (Keeps.refl [w2.heap.size, w2.heap.size + 1, w2.heap.size + 1 + 1] w4) HA4.out⟩
                  · simp only at g0 g1
                    by_cases hg : g = gn
                    · subst hg
                      as_aux_lemma =>
                        have QT := Lib.hid (show Calls Try.prog 27 #[.pointer (some ⟨t.q, 0, none⟩), .int .i64 s, .int .i64 g] wB fun e w' => e = .returned (.int .i64 0) ∧ TS w1 w' t (H.set s ⟨g, 0, 0, 0, false, 0⟩) W ∧ Keeps [t.b, t.c] wB w' from by
                          have h := HB.out.ts.step (free_ok wB t none H W HB.out.ts.tab 0 MS.zero (met0 _) room0 s _ hx g (by simp) rfl)
                          exact h)
                        go_wp2_with fail
                        refine QT.out.mono ?_
                        rintro e w4 ⟨rfl, hs4, hk4⟩
                        have ha4 := HB.out.arr.tab HB.out.dist hk4
                        obtain ⟨ag, ah, ad, fg, fh, fd⟩ := ha4.at_ s8 hx
                        (try simp at ag ah ad)
                        have HS4 := Lib.hid hs4
                        have HA4 := Lib.hid ha4
                        clear hs4 ha4 hk4 QT
                        go_wp2_with fail
                        go_meet
                        exact ⟨_, _, HB.out.step HS4.out (((Keeps.refl [w2.heap.size, w2.heap.size + 1, w2.heap.size + 1 + 1] w4).setCell (.inl (by simp)) _).setCell (.inl (by simp)) _) (HA4.out.free (y := ⟨g, 0, 0, 0, false, 0⟩) HB.out.dist s8 hx rfl rfl rfl) ⟨by simp only; omega, by simp only; omega, .inl ⟨_, rfl⟩⟩⟩
                    · have hg1 : (gn == g) = false := by simpa using (fun e => hg e.symm)
                      have hg2 : (gn != g) = true := by simpa using (fun e => hg e.symm)
                      have hg3 : ¬ gn = g := fun e => hg e.symm
                      as_aux_lemma =>
                        have QT := Lib.hid (show Calls Try.prog 27 #[.pointer (some ⟨t.q, 0, none⟩), .int .i64 s, .int .i64 gn] wB fun e w' => e = .returned (.int .i64 4) ∧ TS w1 w' t H W ∧ Keeps [t.b, t.c] wB w' from by
                          have h := HB.out.ts.step (free_no wB t none H W HB.out.ts.tab 0 MS.zero (met0 _) room0 s _ hx gn (by simp only; omega) (by simp) hg)
                          exact h)
                        go_wp2_with fail
                        refine QT.out.mono ?_
                        rintro e w4 ⟨rfl, hs4, hk4⟩
                        have ha4 := HB.out.arr.tab HB.out.dist hk4
                        obtain ⟨ag, ah, ad, fg, fh, fd⟩ := ha4.at_ s8 hx
                        (try simp at ag ah ad)
                        have HS4 := Lib.hid hs4
                        have HA4 := Lib.hid ha4
                        clear hs4 ha4 hk4 QT
                        go_wp2_with fail
                        go_meet
                        exact ⟨_, _, HB.out.still hx HS4.out (Keeps.refl [w2.heap.size, w2.heap.size + 1, w2.heap.size + 1 + 1] w4) HA4.out⟩
                  · simp only at g0 g1
                    by_cases hg : g = gn
                    · subst hg
                      as_aux_lemma =>
                        have QT := Lib.hid (show Calls Try.prog 27 #[.pointer (some ⟨t.q, 0, none⟩), .int .i64 s, .int .i64 g] wB fun e w' => e = .returned (.int .i64 0) ∧ TS w1 w' t (H.set s ⟨g, 0, 0, 0, false, 0⟩) W ∧ Keeps [t.b, t.c] wB w' from by
                          have h := HB.out.ts.step (free_ok wB t none H W HB.out.ts.tab 0 MS.zero (met0 _) room0 s _ hx g (by simp) rfl)
                          exact h)
                        go_wp2_with fail
                        refine QT.out.mono ?_
                        rintro e w4 ⟨rfl, hs4, hk4⟩
                        have ha4 := HB.out.arr.tab HB.out.dist hk4
                        obtain ⟨ag, ah, ad, fg, fh, fd⟩ := ha4.at_ s8 hx
                        (try simp at ag ah ad)
                        have HS4 := Lib.hid hs4
                        have HA4 := Lib.hid ha4
                        clear hs4 ha4 hk4 QT
                        go_wp2_with fail
                        go_meet
                        exact ⟨_, _, HB.out.step HS4.out (((Keeps.refl [w2.heap.size, w2.heap.size + 1, w2.heap.size + 1 + 1] w4).setCell (.inl (by simp)) _).setCell (.inl (by simp)) _) (HA4.out.free (y := ⟨g, 0, 0, 0, false, 0⟩) HB.out.dist s8 hx rfl rfl rfl) ⟨by simp only; omega, by simp only; omega, .inl ⟨_, rfl⟩⟩⟩
                    · have hg1 : (gn == g) = false := by simpa using (fun e => hg e.symm)
                      have hg2 : (gn != g) = true := by simpa using (fun e => hg e.symm)
                      have hg3 : ¬ gn = g := fun e => hg e.symm
                      as_aux_lemma =>
                        have QT := Lib.hid (show Calls Try.prog 27 #[.pointer (some ⟨t.q, 0, none⟩), .int .i64 s, .int .i64 gn] wB fun e w' => e = .returned (.int .i64 4) ∧ TS w1 w' t H W ∧ Keeps [t.b, t.c] wB w' from by
                          have h := HB.out.ts.step (free_no wB t none H W HB.out.ts.tab 0 MS.zero (met0 _) room0 s _ hx gn (by simp only; omega) (by simp) hg)
                          exact h)
                        go_wp2_with fail
                        refine QT.out.mono ?_
                        rintro e w4 ⟨rfl, hs4, hk4⟩
                        have ha4 := HB.out.arr.tab HB.out.dist hk4
                        obtain ⟨ag, ah, ad, fg, fh, fd⟩ := ha4.at_ s8 hx
                        (try simp at ag ah ad)
                        have HS4 := Lib.hid hs4
                        have HA4 := Lib.hid ha4
                        clear hs4 ha4 hk4 QT
                        go_wp2_with fail
                        go_meet
                        exact ⟨_, _, HB.out.still hx HS4.out (Keeps.refl [w2.heap.size, w2.heap.size + 1, w2.heap.size + 1 + 1] w4) HA4.out⟩
                  · simp only at g0 g1
                    by_cases hg : g = gn
                    · subst hg
                      as_aux_lemma =>
                        have QT := Lib.hid (show Calls Try.prog 27 #[.pointer (some ⟨t.q, 0, none⟩), .int .i64 s, .int .i64 g] wB fun e w' => e = .returned (.int .i64 0) ∧ TS w1 w' t (H.set s ⟨g, 0, 0, 0, false, 0⟩) W ∧ Keeps [t.b, t.c] wB w' from by
                          have h := HB.out.ts.step (free_ok wB t none H W HB.out.ts.tab 0 MS.zero (met0 _) room0 s _ hx g (by simp) rfl)
                          exact h)
                        go_wp2_with fail
                        refine QT.out.mono ?_
                        rintro e w4 ⟨rfl, hs4, hk4⟩
                        have ha4 := HB.out.arr.tab HB.out.dist hk4
                        obtain ⟨ag, ah, ad, fg, fh, fd⟩ := ha4.at_ s8 hx
                        (try simp at ag ah ad)
                        have HS4 := Lib.hid hs4
                        have HA4 := Lib.hid ha4
                        clear hs4 ha4 hk4 QT
                        go_wp2_with fail
                        go_meet
                        exact ⟨_, _, HB.out.step HS4.out (((Keeps.refl [w2.heap.size, w2.heap.size + 1, w2.heap.size + 1 + 1] w4).setCell (.inl (by simp)) _).setCell (.inl (by simp)) _) (HA4.out.free (y := ⟨g, 0, 0, 0, false, 0⟩) HB.out.dist s8 hx rfl rfl rfl) ⟨by simp only; omega, by simp only; omega, .inl ⟨_, rfl⟩⟩⟩
                    · have hg1 : (gn == g) = false := by simpa using (fun e => hg e.symm)
                      have hg2 : (gn != g) = true := by simpa using (fun e => hg e.symm)
                      have hg3 : ¬ gn = g := fun e => hg e.symm
                      as_aux_lemma =>
                        have QT := Lib.hid (show Calls Try.prog 27 #[.pointer (some ⟨t.q, 0, none⟩), .int .i64 s, .int .i64 gn] wB fun e w' => e = .returned (.int .i64 4) ∧ TS w1 w' t H W ∧ Keeps [t.b, t.c] wB w' from by
                          have h := HB.out.ts.step (free_no wB t none H W HB.out.ts.tab 0 MS.zero (met0 _) room0 s _ hx gn (by simp only; omega) (by simp) hg)
                          exact h)
                        go_wp2_with fail
                        refine QT.out.mono ?_
                        rintro e w4 ⟨rfl, hs4, hk4⟩
                        have ha4 := HB.out.arr.tab HB.out.dist hk4
                        obtain ⟨ag, ah, ad, fg, fh, fd⟩ := ha4.at_ s8 hx
                        (try simp at ag ah ad)
                        have HS4 := Lib.hid hs4
                        have HA4 := Lib.hid ha4
                        clear hs4 ha4 hk4 QT
                        go_wp2_with fail
                        go_meet
                        exact ⟨_, _, HB.out.still hx HS4.out (Keeps.refl [w2.heap.size, w2.heap.size + 1, w2.heap.size + 1 + 1] w4) HA4.out⟩
                · have n6 : (kd == 6) = false := by simpa using k6
                  by_cases k8 : kd = 8
                  · subst k8
                    as_aux_lemma =>
                      have QT := Lib.hid (show Calls Try.prog 28 #[.pointer (some ⟨t.q, 0, none⟩), .int .i64 s, .int .i64 p1, .int .u64 px] wB fun e w' => e = .returned (.int .i64 0) ∧ TS w1 w' t H (W.set (2 * s + p1) px) ∧ Keeps [t.b, t.c] wB w' from by
                        have h := HB.out.ts.step (slots_put wB t none H W HB.out.ts.tab 0 MS.zero (met0 _) room0 s p1 ⟨by omega, t5⟩ px)
                        exact h)
                      go_wp2_with fail
                      refine QT.out.mono ?_
                      rintro e w4 ⟨rfl, hs4, hk4⟩
                      have ha4 := HB.out.arr.tab HB.out.dist hk4
                      obtain ⟨ag, ah, ad, fg, fh, fd⟩ := ha4.at_ s8 hx
                      (try simp at ag ah ad)
                      have HS4 := Lib.hid hs4
                      have HA4 := Lib.hid ha4
                      clear hs4 ha4 hk4 QT
                      go_wp2_with fail
                      go_meet
                      exact ⟨_, _, HB.out.still hx HS4.out (Keeps.refl [w2.heap.size, w2.heap.size + 1, w2.heap.size + 1 + 1] w4) HA4.out⟩
                  · have n8 : (kd == 8) = false := by simpa using k8
                    go_wp2_with fail
                    go_meet
                    exact ⟨_, _, HB.out.still hx HB.out.ts (Keeps.refl [w2.heap.size, w2.heap.size + 1, w2.heap.size + 1 + 1] _) HB.out.arr⟩
        case rest =>
          obtain ⟨H', W', hi5⟩ := hcut
          have H5 := Lib.hid hi5
          have hlen5 := hi5.len
          obtain ⟨x2, hx2⟩ : ∃ x, H'[s]? = some x := ⟨_, List.getElem?_eq_getElem (by omega)⟩
          have hsh2 := (hi5.fine s x2 hx2).sh
          have QL := Lib.hid (hi5.ts.step (slots_look wc t none H' W' hi5.ts.tab 0 MS.zero (met0 _) room0 s x2 hx2))
          clear hi5 HB hx hsh g0 g1 d1 d3 d4 d5
          go_wp2_with fail
          refine QL.out.mono ?_
          rintro e w6 ⟨rfl, hs6, hk6⟩
          have ha6 := H5.out.arr.tab H5.out.dist hk6
          have h6 : HI w1 w6 t w2.heap.size (w2.heap.size + 1) (w2.heap.size + 1 + 1) H' W' nn (k + 1) := ⟨hs6, ha6, H5.out.dist, H5.out.len, H5.out.fine⟩
          have h7 := h6.calm ((Keeps.refl [] w6).alloc (.cells #[.int .i64 x2.gen, .int .i64 x2.state, .int .i64 x2.stamp, .int .i64 x2.thread, .bool x2.doomed, .int .i64 x2.who] 64))
          have bz := Blk.new w6 64 #[.int .i64 x2.gen, .int .i64 x2.state, .int .i64 x2.stamp, .int .i64 x2.thread, .bool x2.doomed, .int .i64 x2.who]
          obtain ⟨ag, ah, ad, _, _, _⟩ := h7.arr.at_ s8 hx2
          have z0 : (w6.alloc (.cells #[.int .i64 x2.gen, .int .i64 x2.state, .int .i64 x2.stamp, .int .i64 x2.thread, .bool x2.doomed, .int .i64 x2.who] 64)).cell? ⟨w6.heap.size, 0, none⟩ = some (.int .i64 x2.gen) := (bz.cell 0).trans rfl
          have z1 : (w6.alloc (.cells #[.int .i64 x2.gen, .int .i64 x2.state, .int .i64 x2.stamp, .int .i64 x2.thread, .bool x2.doomed, .int .i64 x2.who] 64)).cell? ⟨w6.heap.size, 1, none⟩ = some (.int .i64 x2.state) := (bz.cell 1).trans rfl
          have z2 : (w6.alloc (.cells #[.int .i64 x2.gen, .int .i64 x2.state, .int .i64 x2.stamp, .int .i64 x2.thread, .bool x2.doomed, .int .i64 x2.who] 64)).cell? ⟨w6.heap.size, 2, none⟩ = some (.int .i64 x2.stamp) := (bz.cell 2).trans rfl
          have z3 : (w6.alloc (.cells #[.int .i64 x2.gen, .int .i64 x2.state, .int .i64 x2.stamp, .int .i64 x2.thread, .bool x2.doomed, .int .i64 x2.who] 64)).cell? ⟨w6.heap.size, 3, none⟩ = some (.int .i64 x2.thread) := (bz.cell 3).trans rfl
          have z4 : (w6.alloc (.cells #[.int .i64 x2.gen, .int .i64 x2.state, .int .i64 x2.stamp, .int .i64 x2.thread, .bool x2.doomed, .int .i64 x2.who] 64)).cell? ⟨w6.heap.size, 4, none⟩ = some (.bool x2.doomed) := (bz.cell 4).trans rfl
          have z5 : (w6.alloc (.cells #[.int .i64 x2.gen, .int .i64 x2.state, .int .i64 x2.stamp, .int .i64 x2.thread, .bool x2.doomed, .int .i64 x2.who] 64)).cell? ⟨w6.heap.size, 5, none⟩ = some (.int .i64 x2.who) := (bz.cell 5).trans rfl
          have H7 := Lib.hid h7
          clear h7 h6 hs6 hk6 ha6 bz QL H5
          go_upto_region 46 with fail
          generalize hw7 : w6.alloc (.cells #[.int .i64 x2.gen, .int .i64 x2.state, .int .i64 x2.stamp, .int .i64 x2.thread, .bool x2.doomed, .int .i64 x2.who] 64) = w7 at *
          clear hw7
          rcases hsh2 with ⟨g, rfl⟩ | ⟨g, th, hth, rfl⟩ | ⟨g, st, th, hst, hth, rfl⟩ | ⟨g, st, th, by_, hst, hth, hby, rfl⟩
          all_goals simp at ag ah ad z0 z1 z2 z3 z4 z5
          · as_aux_lemma =>
              go_quiet (fail)
              go_wp2_with fail
              exact ⟨⟨k + 1, _, _, by omega, by simp, H7.out.calm ((Keeps.refl _ _).drewN _)⟩, by simp [intOf]; omega⟩
          · as_aux_lemma =>
              have bth1 : (th == 0) = false := by simpa using hth
              have bth2 : (th != 0) = true := by simpa using hth
              go_quiet (fail)
              go_wp2_with fail
              exact ⟨⟨k + 1, _, _, by omega, by simp, H7.out.calm ((Keeps.refl _ _).drewN _)⟩, by simp [intOf]; omega⟩
          · as_aux_lemma =>
              have bst1 : (st == 0) = false := by simpa using hst
              have bst2 : (st != 0) = true := by simpa using hst
              have bth1 : (th == 0) = false := by simpa using hth
              have bth2 : (th != 0) = true := by simpa using hth
              go_quiet (fail)
              go_wp2_with fail
              exact ⟨⟨k + 1, _, _, by omega, by simp, H7.out.calm ((Keeps.refl _ _).drewN _)⟩, by simp [intOf]; omega⟩
          · as_aux_lemma =>
              have bst1 : (st == 0) = false := by simpa using hst
              have bst2 : (st != 0) = true := by simpa using hst
              have bth1 : (th == 0) = false := by simpa using hth
              have bth2 : (th != 0) = true := by simpa using hth
              have bby_1 : (by_ == 0) = false := by simpa using hby
              have bby_2 : (by_ != 0) = true := by simpa using hby
              go_quiet (fail)
              go_wp2_with fail
              exact ⟨⟨k + 1, _, _, by omega, by simp, H7.out.calm ((Keeps.refl _ _).drewN _)⟩, by simp [intOf]; omega⟩
    · have hge : ¬ ((k : Int) < (n : Int)) := by omega
      go_wp2_with fail
      go_ret
      exact ⟨rfl, KW.out.below (by simp) (Nat.le_refl _)⟩

theorem own : ownKnob Try.prog.godebug = none := by kernel_rfl
theorem laidOut : laidOutB Try.prog = true := by kernel_rfl
set_option maxRecDepth 100000 in
theorem lifted (os : Os) (started : os.Started) (H : Type) (enc : TypeId × Value → H) (F : Stop.Interp) :
    ReturnsInHanded {} Try.checked os 5 .any ((Rows.OpenSpec.upto Rows.slotsHoldsSpec).pre6 enc Try.prog Try.f5 Rows.slotsHoldsUptoRow.domain false) (((Rows.OpenSpec.upto Rows.slotsHoldsSpec).at F).post enc Try.prog Try.f5 false true false false) := by
  refine returnsInHanded_of_cond (C := Try.checked) (s := Rows.OpenSpec.upto Rows.slotsHoldsSpec) (k := Rows.uptoSmall) rfl own started (by kernel_rfl) Try.func5
    (OpenSpec.witness (enc := enc) (C := Try.checked) (s := Rows.OpenSpec.upto Rows.slotsHoldsSpec) (k := Rows.uptoSmall) rfl false ⟨#[], #[.int .i64 0, .slice none 0 0], []⟩ 8 (by kernel_rfl) (by kernel_rfl) (by kernel_rfl)
      (x := ([.lit (.int .i64 0), .nil], [], [])) (by kernel_rfl) rfl (by kernel_rfl)) ?_
  intro W base args ds gs before hval0 hW _ hk _
  have hval : ∀ (j : Nat) t v, Try.f5.params[j]? = some t → args[j]? = some v → Value.okWide Try.prog W .any base t v := hval0
  have hW' := hW
  obtain ⟨p, q, hA0, hV, rfl, hfz, hnd⟩ := hW
  have hA : DataW.TrodAll enc Try.prog W 0 (fun _ => true) true Try.f5.params.toList args.toList ds p := hA0
  rw [Try.params5] at hA hval
  obtain ⟨v0, vs0, d0, ds0, p0, q0, hargs, rfl, rfl, h0, r0⟩ := trodAll_cons hA
  obtain ⟨v1, vs1, d1, ds1, p1, q1, rfl, rfl, rfl, h1, r1⟩ := trodAll_cons r0
  obtain ⟨rfl, rfl, rfl⟩ := trodAll_nil r1
  obtain rfl : args = #[v0, v1] := by cases args; simp_all
  obtain ⟨rfl, rfl⟩ := trodVars_none hV
  obtain ⟨a0, rfl, rfl, rfl, w0⟩ := open_int Try.underlying3 (hval 0 3 v0 rfl rfl) h0
  have k1 := h1
  have lt1 : ∀ x ∈ p1, x.block < W.heap.size := by obtain ⟨m, hm⟩ := k1; exact DataW.trod_lt m _ _ _ hm
  obtain ⟨A1, n1, c1, rfl⟩ := okWide_slice Try.underlying50 (hval 1 50 v1 rfl rfl)
  obtain ⟨ops1, s1⟩ : ∃ ops, Script6 W A1 n1 c1 ops := by
    obtain ⟨fuel, hf⟩ := h1
    exact script6_open hf (bulks.small hk (by simp))
  clear hA0 hval0
  refine (walk a0 A1 n1 c1 ops1 W w0 s1).mono fun e W' ⟨he, bel⟩ => ?_
  subst he
  exact ⟨_, rfl, _, _, _, [], _, [], hW', trodAll_mk1 (shut_bool Try.underlying4 _), (trodAll_cons_mk (shut_int Try.underlying3 w0) (trodAll_cons_mk (Below.trod laidOut (by kernel_rfl) (of_decide_eq_true (by kernel_rfl)) k1 bel lt1) trodAll_mk0)), rfl, bel.frame _, fun h => by cases h⟩

/-- The statement: the second form. -/
theorem proved : Rows.SlotsHoldsUptoSaid :=
  OpenClaim.holds_of_cond 5 Try.f5 rfl rfl rfl rfl rfl rfl rfl ⟨rfl, rfl, rfl, rfl, rfl⟩ rfl rfl rfl rfl rfl (by kernel_rfl) Try.func5 (by kernel_rfl)
    (of_decide_eq_true (by kernel_rfl)) (by unfold Func.isWrapper; first | (rw [if_pos (by decide +kernel)]; kernel_rfl) | (rw [if_neg (by decide +kernel)]; exact ⟨rfl, rfl⟩))
    (fun os started H enc _ F => lifted os started H enc F)
#print axioms proved
end Go.Proofs.Ytdkbdlhfhmgenaa.slotsHolds
