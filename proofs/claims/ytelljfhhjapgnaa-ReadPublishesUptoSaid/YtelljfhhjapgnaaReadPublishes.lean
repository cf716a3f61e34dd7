/- ReadPublishes: the words published have, behind each step, bits of the cells that were read or are being read alone; ahead of each load all of the cell's: the call returns true wherever what it reads is of bulk at most 1048576. -/
import Derived.Test.YtelljfhhjapgnaaRows
import Derived.Test.YtelljfhhjapgnaaPubB
import Derived.Test.YtelljfhhjapgnaaAw11
import Derived.Deep.QuietTactic
import Derived.BigQuiet
import Derived.Deep.RegionHeld3
import Derived.Test.YtelljfhhjapgnaaRegT
import Derived.JoinedCond
import Derived.WalkKit
import Derived.ProofKit
import Derived.OpenShut
import Derived.ShutString
import Derived.ChangeOld
import Derived.Below
import Derived.Carry
namespace Go.Proofs.Ytelljfhhjapgnaa.readPublishes
open Go.ChangeShapes Go.WideShapes Go.ChangeAt Go.RowKit
set_option linter.unusedVariables false
set_option linter.unusedSimpArgs false

theorem and127 (n : Int) : bits .and .i64 n 127 = n % 128 := by
  have hm : (BitVec.ofInt 64 127).toNat = 2 ^ 7 - 1 := by decide
  have key : (BitVec.ofInt 64 n &&& BitVec.ofInt 64 127).toNat = (n % ((2 ^ 64 : Nat) : Int)).toNat % 2 ^ 7 := by
    rw [BitVec.toNat_and, BitVec.toNat_ofInt, hm, Nat.and_two_pow_sub_one_eq_mod]
  show IntKind.i64.wrap ((BitVec.ofInt 64 n &&& BitVec.ofInt 64 127).toNat : Nat) = n % 128
  rw [key, IntKind.wrap_i64]
  omega
theorem and1 (n : Int) : bits .and .i64 n 1 = n % 2 := by
  have hm : (BitVec.ofInt 64 1).toNat = 2 ^ 1 - 1 := by decide
  have key : (BitVec.ofInt 64 n &&& BitVec.ofInt 64 1).toNat = (n % ((2 ^ 64 : Nat) : Int)).toNat % 2 ^ 1 := by
    rw [BitVec.toNat_and, BitVec.toNat_ofInt, hm, Nat.and_two_pow_sub_one_eq_mod]
  show IntKind.i64.wrap ((BitVec.ofInt 64 n &&& BitVec.ofInt 64 1).toNat : Nat) = n % 2
  rw [key, IntKind.wrap_i64]
  omega
theorem op_keeps {w w' : World} {A : Option Addr} {n cap : Nat} {l : List ElOp} (h : LstOp w A n cap l) (hk : Keeps [] w w') : LstOp w' A n cap l := by
  obtain ⟨h1, h2, h3, h5, h4⟩ := h
  refine ⟨h1, h2, h3, h5, fun hn => ?_⟩
  obtain ⟨b, off, hA, hb, hc⟩ := h4 hn
  exact ⟨b, off, hA, Nat.lt_of_lt_of_le hb hk.size, fun i p hp => (hc i p hp).keeps hb hk⟩
theorem and15 (n : Int) : bits .and .i64 n 15 = n % 16 := by
  have hm : (BitVec.ofInt 64 15).toNat = 2 ^ 4 - 1 := by decide
  have key : (BitVec.ofInt 64 n &&& BitVec.ofInt 64 15).toNat = (n % ((2 ^ 64 : Nat) : Int)).toNat % 2 ^ 4 := by
    rw [BitVec.toNat_and, BitVec.toNat_ofInt, hm, Nat.and_two_pow_sub_one_eq_mod]
  show IntKind.i64.wrap ((BitVec.ofInt 64 n &&& BitVec.ofInt 64 15).toNat : Nat) = n % 16
  rw [key, IntKind.wrap_i64]
  omega
set_option maxRecDepth 100000 in
set_option maxHeartbeats 16000000 in
theorem walk (bits_ : Int) (C : Option Addr) (cc : Nat) (ys : List Int) (A : Option Addr) (n cap : Nat) (l : List ElOp) (w : World) (_ : (Lit.int IntKind.i64 bits_).wf = true) (hC : Slc w C ys) (hl0 : LstOp w A n cap l) : Calls Try.prog 6 #[.int .i64 bits_, .slice C ys.length cc, .slice A n cap] w fun e w' => e = .returned (.bool true) ∧ Below w.heap.size w w' := by
  have m1 := and127 bits_
  obtain ⟨bb, hbb, bb1, bb8⟩ : ∃ q : Int, bits_ % 128 = q ∧ 0 ≤ q ∧ q ≤ 127 := ⟨_, rfl, by omega, by omega⟩
  rw [hbb] at m1
  obtain ⟨nb, mw, nb1, nb8⟩ : ∃ q : Int, IntKind.i64.wrap (1 + bb) = q ∧ 1 ≤ q ∧ q ≤ 128 := ⟨1 + bb, by rw [IntKind.wrap_i64]; omega, by omega, by omega⟩
  have HL0 := Lib.hid hl0
  have HC0 := Lib.hid hC
  have hn20 := hl0.2.2.1
  have hnc := hl0.2.1
  have hyl := hC.1
  obtain ⟨i0, hi, hz0, hz1, hz2⟩ := info_parts Try.infoIntR
  have HI0 := Lib.hid (And.intro hi (And.intro hz0 (And.intro hz1 hz2)))
  clear hbb hl0 hC hi hz0 hz1 hz2
  go_enter Try.func6, Try.ntmps6
  go_wp2_with fail
  refine (awake11 _).mono ?_
  rintro e wb ⟨rfl, hk⟩
  have HKB := Lib.hid hk
  have HL := Lib.hid (op_keeps HL0.out hk)
  have HY := Lib.hid (HC0.out.keeps hk)
  clear hk HL0 HC0
  go_wp2_with fail
  refine (reader_any wb 16 nb (by decide) (by decide) nb1 nb8).mono ?_
  rintro e w1 ⟨z, F, rfl, hs, hf⟩
  have hc2 := sp11_is 16 nb
  obtain ⟨S2, hS2⟩ : ∃ S, sp11 16 nb = S := ⟨_, rfl⟩
  rw [hS2] at hs hf hc2
  have hpi : Pi wb z nb [] (.slice none 0 0) ⟨0, 0⟩ 10 [] w1 := ⟨F, S2, hs, hf.wide (by decide), hc2.1, ⟨_, hc2.2.2.2.1⟩, hc2.2.2.2.2, by rw [hc2.2.2.1]; rfl, ⟨by decide, by decide⟩, Sub.zero _, fun l hl => by simp at hl, RowB.nil _ _ _⟩
  have HP0 := Lib.hid (hpi.add 34 #[.int .i64 0, .int .i64 1, .int .i64 1, .int .u64 0, .int .u64 0])
  have HBL : Hid (wb.heap.size ≤ w1.heap.size) := hs.keep.size
  clear hpi hs hf hc2 hS2
  go_wp2_with fail
  obtain ⟨bf, hbf⟩ : ∃ q, w1.heap.size = q := ⟨_, rfl⟩
  obtain ⟨w3, hw3⟩ : ∃ q, w1.alloc (.cells #[.int .i64 0, .int .i64 1, .int .i64 1, .int .u64 0, .int .u64 0] 34) = q := ⟨_, rfl⟩
  rw [hbf] at HP0 HBL
  rw [hw3] at HP0
  rw [hw3, hbf]
  clear hw3 hbf
  go_loopw [12, 13, 14, 15] (fun bg nx xp i wr => ∃ (i' q : Nat) (B : List Int) (bv : Value), bv = bg ∧ i' ≤ n ∧ i = .int .i64 i' ∧ nx = .int .i64 q ∧ q ≤ ys.length ∧ B.length ≤ i' ∧ (∀ c, c ∈ B → 0 ≤ c ∧ c ≤ 15) ∧ Pst wb z nb B bv bf ys.length q (10 + i') xp wr) (fun _ _ _ i _ => n - (intOf i).toNat)
  case atStart => exact ⟨0, 0, [], _, rfl, Nat.zero_le _, rfl, rfl, Nat.zero_le _, Nat.zero_le _, by simp, 1, 1, ⟨0, 0⟩, .inl ⟨rfl, HP0.out⟩⟩
  case round =>
    obtain ⟨i', q, B, bg, rfl, hi', rfl, rfl, hq, hB, hBc, hst⟩ := hrel
    have HW := Lib.hid hst
    have HBC0 := Lib.hid hBc
    clear hst HP0 hBc
    have hn48 : n ≤ 1048576 := hn20
    have hw1 : IntKind.i64.wrap ((i' : Int) + 1) = (i' : Int) + 1 := by rw [IntKind.wrap_i64]; omega
    by_cases hlt : (i' : Int) < (n : Int)
    · have q0 : (0 : Int) ≤ (i' : Int) := by omega
      obtain ⟨gb, off, p, rfl, hp, hat⟩ := HL.out.at_ (k := i') (by omega)
      obtain ⟨t0, t2⟩ := hat wr HW.out.keep
      clear hat hp t2
      by_cases e5 : p.kind = 5
      · rw [e5] at t0
        clear e5
        go_wp2_with fail
        refine HW.out.gate.mono ?_
        rintro e wq ⟨rfl, rfl⟩
        go_wp2_with fail
        refine (HW.out.take (by omega) 2).mono ?_
        rintro e w7 ⟨⟨a, c, rfl⟩, hwt⟩
        have HW7 := Lib.hid hwt
        clear hwt
        go_wp2_with fail
        exact ⟨⟨i' + 1, q, B, _, rfl, by omega, by simp, rfl, hq, by omega, HBC0.out, HW7.out⟩, by simp [intOf]; omega⟩
      · by_cases e6 : p.kind = 6
        · rw [e6] at t0
          clear e6 e5
          go_wp2_with fail
          refine HW.out.gate.mono ?_
          rintro e wq ⟨rfl, rfl⟩
          go_wp2_with fail
          refine (HW.out.give (by omega) 2).mono ?_
          rintro e w7 ⟨⟨a, rfl⟩, hwt⟩
          have HW7 := Lib.hid hwt
          clear hwt
          go_wp2_with fail
          exact ⟨⟨i' + 1, q, B, _, rfl, by omega, by simp, rfl, hq, by omega, HBC0.out, HW7.out⟩, by simp [intOf]; omega⟩
        · have f5 : (p.kind == 5) = false := by simp [e5]
          have f6 : (p.kind == 6) = false := by simp [e6]
          clear e5 e6
          have hst := HW.out
          unfold Pst at hst
          obtain ⟨g, s, sf, ⟨rfl, hpi⟩ | ⟨b, cell, B0, sig, L, rfl, hqm, rfl, hpr⟩⟩ := hst
          · have HPI := Lib.hid hpi
            clear hpi HW
            by_cases hqy : (q : Int) < (ys.length : Int)
            · have q1 : (0 : Int) ≤ (q : Int) := by omega
              have hC' := HY.out.keeps HPI.out.keep
              obtain ⟨y, hy⟩ : ∃ y, ys[q]? = some y := ⟨_, List.getElem?_eq_getElem (by omega)⟩
              obtain ⟨cb, co, rfl, hcl, hcc⟩ : ∃ b off, C = some ⟨b, off, none⟩ ∧ b < wr.heap.size ∧ ∀ k x, ys[k]? = some x → wr.cell? ⟨b, off + k, none⟩ = some (.int .i64 x) := by
                rcases hC'.2 with h | h
                · rw [h] at hy; simp at hy
                · exact h
              have tc := hcc q y hy
              have k1 := and15 y
              obtain ⟨cell, hce, c0, c1⟩ : ∃ q : Int, y % 16 = q ∧ 0 ≤ q ∧ q ≤ 15 := ⟨_, rfl, by omega, by omega⟩
              rw [hce] at k1
              have hb := HPI.out.loc (q := bf) (t := 34) (cs := #[.int .i64 0, .int .i64 g, .int .i64 s, .int .u64 (sf.a : Int), .int .u64 (sf.b : Int)]) (by simp)
              have HC := Lib.hid (show ∀ w', Keeps [] wr w' → w'.cell? ⟨bf, 0, none⟩ = some (.int .i64 0) ∧ w'.cell? ⟨bf, 1, none⟩ = some (.int .i64 g) ∧ w'.cell? ⟨bf, 2, none⟩ = some (.int .i64 s) ∧ w'.cell? ⟨bf, 3, none⟩ = some (.int .u64 (sf.a : Int)) ∧ w'.cell? ⟨bf, 4, none⟩ = some (.int .u64 (sf.b : Int)) ∧ w'.cell? ⟨cb, co + q, none⟩ = some (.int .i64 y) from fun w' hk => ⟨((hb.keeps hk (by simp)).cell 0).trans rfl, ((hb.keeps hk (by simp)).cell 1).trans rfl, ((hb.keeps hk (by simp)).cell 2).trans rfl, ((hb.keeps hk (by simp)).cell 3).trans rfl, ((hb.keeps hk (by simp)).cell 4).trans rfl, (keeps_cell hk hcl (by simp)).trans tc⟩)
              have HT := Lib.hid (And.intro hcl tc)
              have hkB : Keeps [] wr wr := Keeps.refl _ _
              have QN : Hid (∀ w' (cv : Int), Keeps [] wr w' → cv = cell → Calls Try.prog 13 #[PT z.p, .agg #[.int .i64 0, .int .i64 g, .int .i64 s, .int .u64 (sf.a : Int), .int .u64 (sf.b : Int)], .int .i64 cv] w' fun e w'' => (∃ b L, e = .returned (.tuple #[PT b, .int .i64 0]) ∧ Pr wb z b nb (B ++ [cell]) B bg sf cell false L (10 + i') [(bf, 34, #[.int .i64 0, .int .i64 g, .int .i64 s, .int .u64 (sf.a : Int), .int .u64 (sf.b : Int)])] w'') ∧ Keeps [] wr w'') := fun w' cv hk he => by
                subst he
                exact ((HPI.out.calm hk).new g s nb1 nb8 c0 (by omega)).mono fun e w'' ⟨h1, h2⟩ => ⟨h1, hk.trans h2 (by simp)⟩
              clear hC' hcc hce hy hb hcl
              go_wp2_with fail
              go_region_held3 (fun w' => w'.cell? ⟨bf, 0, none⟩ = some (.int .i64 0) ∧ w'.cell? ⟨bf, 1, none⟩ = some (.int .i64 g) ∧ w'.cell? ⟨bf, 2, none⟩ = some (.int .i64 s) ∧ w'.cell? ⟨bf, 3, none⟩ = some (.int .u64 (sf.a : Int)) ∧ w'.cell? ⟨bf, 4, none⟩ = some (.int .u64 (sf.b : Int)) ∧ w'.cell? ⟨cb, co + q, none⟩ = some (.int .i64 y)) (first | with_reducible exact HC.out _ (by first | with_reducible assumption | exact Keeps.drew (by with_reducible assumption)) | with_reducible exact d2 | go_keep) ((go_at_call 13; refine (QN.out _ _ (by first | with_reducible assumption | exact Keeps.drew (by with_reducible assumption)) (by first | exact k1 | rfl)).mono ?_; rintro e w5 ⟨⟨b, L, rfl, hp⟩, hk5⟩; have d2 := HC.out w5 hk5; have HP5 := Lib.hid hp; clear hp))
              have HBC : Hid (∀ c, c ∈ B ++ [cell] → 0 ≤ c ∧ c ≤ 15) := fun c hc => by
                rw [List.mem_append] at hc
                rcases hc with hc | hc
                · exact HBC0.out c hc
                · simp at hc; subst hc; exact ⟨c0, c1⟩
              have tc5 : w5.cell? ⟨cb, co + q, none⟩ = some (.int .i64 y) := (keeps_cell hk5 HT.out.1 (by simp)).trans HT.out.2
              have hmx : Hid (B.length + 1 ≤ maxLen) := by unfold Hid maxLen; omega
              have hby : Hid ((B.length + 1) * 8 ≤ 140737488355328) := by unfold Hid; omega
              have hqw : IntKind.i64.wrap ((q : Int) + 1) = (q : Int) + 1 := by rw [IntKind.wrap_i64]; unfold maxLen at hyl; omega
              have HBL1 : Hid ((B ++ [cell]).length ≤ i' + 1) := by unfold Hid; simp; omega
              have hBl : B.length + 1 ≤ 1048576 + 1 := by omega
              obtain ⟨hi, hz0, hz1, hz2⟩ := HI0.out
              clear HC HPI QN hkB tc HT d2 hk5
              go_wp2_with (at_builtin; refine wpList_append_row rfl (.tmp 87) (.tmp 93) 23 rfl 3 i0 _ 1 8 Try.underlying23 hi hz0 hz1 hz2 rfl (by decide) bg B.length (B.map (Value.int .i64)) rfl (HP5.out.own0 ((Keeps.refl [] w5).alloc _)) _ 1 ([cell].map (Value.int .i64)) rfl (one_row _ _ _ rfl) (one_ints _) hmx.out hby.out ?_; intro v1 w6 hown1 hg1 hat1; have HP := Lib.hid (HP5.out.snoc (fun l hl => by simp at hl; subst hl; exact (by decide : 34 ≠ 3)) ((Keeps.refl [] w5).alloc _) rfl hown1 hg1 hat1); have hmc := HP.out.meter; obtain ⟨rg, rc, hrv, hrc, hrs⟩ := HP.out.form; subst hrv)
              have HRC := Lib.hid hrc
              have HRM := Lib.hid hrs
              clear hrc hrs
              clear hown1 hg1 hat1 HP5 hi hz0 hz1 hz2 tc5 hmx hby
              refine (HP.out.log (by omega)).mono ?_
              rintro e w7 ⟨⟨A7, c7, rfl⟩, hL, hk7⟩
              have HP7 := Lib.hid (HP.out.calm hk7)
              clear hk7 hmc HP
              go_wp2_with fail
              refine (HP7.out.step (by omega)).mono ?_
              rintro e w8 ⟨⟨a8, rfl⟩, sg', ov, kd, hv, hso, hsub, hkd⟩
              have HV8 := Lib.hid hv
              have hmc := hv.meter
              have HSG := Lib.hid (And.intro hso (And.intro hsub hkd))
              clear hv hso hsub hkd HP7
              go_wp2_with fail
              refine (HV8.out.log (by omega)).mono ?_
              rintro e w9 ⟨lg, lc, rfl, hlg, hcl, hk9⟩
              obtain ⟨ln, hln⟩ : ∃ ln, L + 1 = ln := ⟨_, rfl⟩
              rw [hln]
              have HLN := Lib.hid hln
              clear hln
              have HV9 := Lib.hid (HV8.out.calm hk9)
              have HLG := Lib.hid (And.intro hlg hcl)
              clear hk9 hmc hlg hcl HV8
              go_wp2_with fail
              refine HV9.out.view.mono ?_
              rintro e w10 ⟨v0, vn, vo, a2, cv, rfl, x0, x1, hk10⟩
              have hlg10 : w10.cell? ⟨lg, L * 6 + 2, none⟩ = some (.int .i64 kd) := (keeps_cell hk10 HLG.out.1 (by simp)).trans HLG.out.2
              have HLG10 := Lib.hid (And.intro (Nat.lt_of_lt_of_le HLG.out.1 hk10.size) hlg10)
              have hv11 := (HV9.out.calm hk10).add 32 #[.int .u64 (sg'.a : Int), .int .u64 (sg'.b : Int)]
              have HV11 : Hid (Pv wb z b nb (B ++ [cell]) (B ++ [cell]) (.slice (some ⟨rg, 0, none⟩) (B.length + 1) rc) sg' cell ov L kd (10 + i' + 1) [(w10.heap.size, 32, #[.int .u64 (sg'.a : Int), .int .u64 (sg'.b : Int)]), (bf, 34, #[.int .i64 0, .int .i64 g, .int .i64 s, .int .u64 (sf.a : Int), .int .u64 (sf.b : Int)])] (w10.alloc (.cells #[.int .u64 (sg'.a : Int), .int .u64 (sg'.b : Int)] 32))) := hv11
              have hfd : ∀ w, (Instr.field 54 (.agg #[v0, .int .i64 vn, .int .i64 vo, .slice (some ⟨a2, 0, none⟩) 1 cv]) 2).run Try.prog w = .ok (.slice (some ⟨a2, 0, none⟩) 1 cv) w := fun w => by kernel_rfl
              clear hk10 hlg10 hv11 HV9 HLG
              go_wp2_with fail
              clear hfd
              obtain ⟨bw, hbw⟩ : ∃ q, w10.heap.size = q := ⟨_, rfl⟩
              have HLG11 : Hid (lg < (w10.alloc (.cells #[.int .u64 (sg'.a : Int), .int .u64 (sg'.b : Int)] 32)).heap.size ∧ (w10.alloc (.cells #[.int .u64 (sg'.a : Int), .int .u64 (sg'.b : Int)] 32)).cell? ⟨lg, L * 6 + 2, none⟩ = some (.int .i64 kd)) := ⟨Nat.lt_of_lt_of_le HLG10.out.1 ((Keeps.refl [] w10).alloc _).size, (keeps_cell ((Keeps.refl [] w10).alloc _) HLG10.out.1 (by simp)).trans HLG10.out.2⟩
              obtain ⟨w11, hw11⟩ : ∃ q, w10.alloc (.cells #[.int .u64 (sg'.a : Int), .int .u64 (sg'.b : Int)] 32) = q := ⟨_, rfl⟩
              rw [hw11] at HV11 HLG11
              rw [hbw] at HV11
              rw [hw11]
              try rw [hbw]
              clear hw11 hbw HLG10 x0 x1
              obtain ⟨A11, c11', e11, hs11⟩ := HV11.out.row (by have := HRM.out; simp; omega)
              injection e11 with e1 e2 e3
              subst e1
              clear e2 e3 c11'
              have hof := of_row (c := rc) (m := B.length + 1) hs11 (by simp) HBC.out nb1 nb8
              obtain ⟨al, hal⟩ : ∃ q, ofL nb (B ++ [cell]) = q := ⟨_, rfl⟩
              rw [hal] at hof HSG
              have HAL := Lib.hid hal
              have QO := Lib.hid hof
              clear hof hal hs11
              refine QO.out.mono ?_
              rintro e w12 ⟨rfl, hk12⟩
              have hv13 := (HV11.out.calm hk12).add 32 #[.int .u64 (al.a : Int), .int .u64 (al.b : Int)]
              have HV13 : Hid (Pv wb z b nb (B ++ [cell]) (B ++ [cell]) (.slice (some ⟨rg, 0, none⟩) (B.length + 1) rc) sg' cell ov L kd (10 + i' + 1) [(w12.heap.size, 32, #[.int .u64 (al.a : Int), .int .u64 (al.b : Int)]), (bw, 32, #[.int .u64 (sg'.a : Int), .int .u64 (sg'.b : Int)]), (bf, 34, #[.int .i64 0, .int .i64 g, .int .i64 s, .int .u64 (sf.a : Int), .int .u64 (sf.b : Int)])] (w12.alloc (.cells #[.int .u64 (al.a : Int), .int .u64 (al.b : Int)] 32))) := hv13
              have hk13 : Keeps [] w11 (w12.alloc (.cells #[.int .u64 (al.a : Int), .int .u64 (al.b : Int)] 32)) := hk12.trans ((Keeps.refl [] w12).alloc _) (by simp)
              have HLG13 : Hid (lg < (w12.alloc (.cells #[.int .u64 (al.a : Int), .int .u64 (al.b : Int)] 32)).heap.size ∧ (w12.alloc (.cells #[.int .u64 (al.a : Int), .int .u64 (al.b : Int)] 32)).cell? ⟨lg, L * 6 + 2, none⟩ = some (.int .i64 kd)) := ⟨Nat.lt_of_lt_of_le HLG11.out.1 hk13.size, (keeps_cell hk13 HLG11.out.1 (by simp)).trans HLG11.out.2⟩
              clear hk12 hk13 hv13 HLG11 HV11 QO
              have z1 : (0 : Int) ≤ ((B.length : Nat) : Int) := by omega
              have z2 : ((B.length : Nat) : Int) ≤ ((B.length + 1 : Nat) : Int) := by omega
              have z3 : IntKind.i64.wrap (((B.length + 1 : Nat) : Int) - 1) = (B.length : Int) := by rw [IntKind.wrap_i64]; omega
              have z4 : B.length + 1 ≤ rc := HRC.out
              go_wp2_with fail
              obtain ⟨ba, hba⟩ : ∃ q, w12.heap.size = q := ⟨_, rfl⟩
              obtain ⟨w13, hw13⟩ : ∃ q, w12.alloc (.cells #[.int .u64 (al.a : Int), .int .u64 (al.b : Int)] 32) = q := ⟨_, rfl⟩
              rw [hw13] at HV13 HLG13
              rw [hba] at HV13
              rw [hw13]
              try rw [hba]
              clear hw13 hba
              obtain ⟨A13, c13', e13, hs13⟩ := HV13.out.row (by have := HRM.out; simp; omega)
              injection e13 with e1 e2 e3
              subst e1
              clear e2 e3 c13'
              have hof := of_row (c := rc - B.length) (m := 1) (slc_last hs13) rfl (fun x hx => by simp at hx; subst hx; exact HBC.out _ (by simp)) nb1 nb8
              obtain ⟨own, hown⟩ : ∃ q, ofL nb [cell] = q := ⟨_, rfl⟩
              rw [hown] at hof
              have HSG2 : Hid (sg'.ok ∧ Sub sg' al ∧ (kd = 1 → Sub own sg') ∧ al.ok ∧ own.ok) := ⟨HSG.out.1, HSG.out.2.1, by rw [← hown]; exact HSG.out.2.2, by rw [← HAL.out]; exact ofL_ok nb1 nb8 _, by rw [← hown]; exact ofL_ok nb1 nb8 _⟩
              have QO := Lib.hid hof
              clear hof hown hs13 HAL HSG
              refine QO.out.mono ?_
              rintro e w14 ⟨rfl, hk14⟩
              have hv15 := (HV13.out.calm hk14).add 32 #[.int .u64 (own.a : Int), .int .u64 (own.b : Int)]
              have HV15 : Hid (Pv wb z b nb (B ++ [cell]) (B ++ [cell]) (.slice (some ⟨rg, 0, none⟩) (B.length + 1) rc) sg' cell ov L kd (10 + i' + 1) [(w14.heap.size, 32, #[.int .u64 (own.a : Int), .int .u64 (own.b : Int)]), (ba, 32, #[.int .u64 (al.a : Int), .int .u64 (al.b : Int)]), (bw, 32, #[.int .u64 (sg'.a : Int), .int .u64 (sg'.b : Int)]), (bf, 34, #[.int .i64 0, .int .i64 g, .int .i64 s, .int .u64 (sf.a : Int), .int .u64 (sf.b : Int)])] (w14.alloc (.cells #[.int .u64 (own.a : Int), .int .u64 (own.b : Int)] 32))) := hv15
              have hk15 : Keeps [] w13 (w14.alloc (.cells #[.int .u64 (own.a : Int), .int .u64 (own.b : Int)] 32)) := hk14.trans ((Keeps.refl [] w14).alloc _) (by simp)
              have HLG15 : Hid (lg < (w14.alloc (.cells #[.int .u64 (own.a : Int), .int .u64 (own.b : Int)] 32)).heap.size ∧ (w14.alloc (.cells #[.int .u64 (own.a : Int), .int .u64 (own.b : Int)] 32)).cell? ⟨lg, L * 6 + 2, none⟩ = some (.int .i64 kd)) := ⟨Nat.lt_of_lt_of_le HLG13.out.1 hk15.size, (keeps_cell hk15 HLG13.out.1 (by simp)).trans HLG13.out.2⟩
              clear hk14 hk15 hv15 HLG13 HV13 QO z1 z2 z3 z4
              go_wp2_with fail
              obtain ⟨bo, hbo⟩ : ∃ q, w14.heap.size = q := ⟨_, rfl⟩
              obtain ⟨w15, hw15⟩ : ∃ q, w14.alloc (.cells #[.int .u64 (own.a : Int), .int .u64 (own.b : Int)] 32) = q := ⟨_, rfl⟩
              rw [hw15] at HV15 HLG15
              rw [hbo] at HV15
              rw [hw15]
              try rw [hbo]
              clear hw15 hbo
              have HC := Lib.hid (show ∀ w', Keeps [] w15 w' → w'.cell? ⟨bw, 0, none⟩ = some (.int .u64 (sg'.a : Int)) ∧ w'.cell? ⟨bw, 1, none⟩ = some (.int .u64 (sg'.b : Int)) ∧ w'.cell? ⟨ba, 0, none⟩ = some (.int .u64 (al.a : Int)) ∧ w'.cell? ⟨ba, 1, none⟩ = some (.int .u64 (al.b : Int)) ∧ w'.cell? ⟨bo, 0, none⟩ = some (.int .u64 (own.a : Int)) ∧ w'.cell? ⟨bo, 1, none⟩ = some (.int .u64 (own.b : Int)) ∧ w'.cell? ⟨lg, L * 6 + 2, none⟩ = some (.int .i64 kd) from fun w' hk => by
                have q1 := (HV15.out.calm hk).loc (q := bw) (t := 32) (cs := #[.int .u64 (sg'.a : Int), .int .u64 (sg'.b : Int)]) (by simp)
                have q2 := (HV15.out.calm hk).loc (q := ba) (t := 32) (cs := #[.int .u64 (al.a : Int), .int .u64 (al.b : Int)]) (by simp)
                have q3 := (HV15.out.calm hk).loc (q := bo) (t := 32) (cs := #[.int .u64 (own.a : Int), .int .u64 (own.b : Int)]) (by simp)
                exact ⟨(q1.cell 0).trans rfl, (q1.cell 1).trans rfl, (q2.cell 0).trans rfl, (q2.cell 1).trans rfl, (q3.cell 0).trans rfl, (q3.cell 1).trans rfl, (keeps_cell hk HLG15.out.1 (by simp)).trans HLG15.out.2⟩)
              have hkB : Keeps [] w15 w15 := Keeps.refl _ _
              obtain ⟨gf, sf', hfr⟩ := HV15.out.from_
              have QF : Hid (∀ w', Keeps [] w15 w' → Calls Try.prog 17 #[PT b] w' fun e w'' => e = .returned (.agg #[.int .i64 0, .int .i64 gf, .int .i64 sf', .int .u64 (sg'.a : Int), .int .u64 (sg'.b : Int)]) ∧ Keeps [] w15 w'') := fun w' hk => (hfr w' hk).mono fun e w'' ⟨he, h2⟩ => ⟨he, hk.trans h2 (by simp)⟩
              have QW1 : Hid (∀ w', Keeps [] w15 w' → Calls Try.prog 32 #[.agg #[.int .u64 (sg'.a : Int), .int .u64 (sg'.b : Int)], .agg #[.int .u64 (al.a : Int), .int .u64 (al.b : Int)]] w' fun e w'' => e = .returned (.bool true) ∧ Keeps [] w15 w'') := fun w' hk => (within_any w' sg' al HSG2.out.1 HSG2.out.2.2.2.1).mono fun e w'' ⟨he, h2⟩ => ⟨by rw [he, HSG2.out.2.1.none HSG2.out.1 HSG2.out.2.2.2.1], hk.trans h2 (by simp)⟩
              have hfd : ∀ w, (Instr.field 34 (.agg #[.int .i64 0, .int .i64 gf, .int .i64 sf', .int .u64 (sg'.a : Int), .int .u64 (sg'.b : Int)]) 3).run Try.prog w = .ok (.agg #[.int .u64 (sg'.a : Int), .int .u64 (sg'.b : Int)]) w := fun w => by kernel_rfl
              have heq : ∀ w, (Op.equalIn 10000 32 (.agg #[.int .u64 (sg'.a : Int), .int .u64 (sg'.b : Int)]) (.agg #[.int .u64 (sg'.a : Int), .int .u64 (sg'.b : Int)])).run Try.prog w = .ok true w := fun w => by
                have := sig_eq w (sg'.a : Int) (sg'.b : Int) (sg'.a : Int) (sg'.b : Int)
                simpa using this
              have y1 : (0 : Int) ≤ (L : Int) := by omega
              have y2 : (L : Int) < (ln : Int) := by have := HLN.out; omega
              have y3 : IntKind.i64.wrap ((L : Int) + 1) = (ln : Int) := by have := HLN.out; rw [IntKind.wrap_i64]; omega
              have y4 : ((ln : Int) != (ln : Int)) = false := by simp
              clear hfr
              by_cases hk1 : kd = 1
              · subst hk1
                have QW2 : Hid (∀ w', Keeps [] w15 w' → Calls Try.prog 32 #[.agg #[.int .u64 (own.a : Int), .int .u64 (own.b : Int)], .agg #[.int .u64 (sg'.a : Int), .int .u64 (sg'.b : Int)]] w' fun e w'' => e = .returned (.bool true) ∧ Keeps [] w15 w'') := fun w' hk => (within_any w' own sg' HSG2.out.2.2.2.2 HSG2.out.1).mono fun e w'' ⟨he, h2⟩ => ⟨by rw [he, (HSG2.out.2.2.1 rfl).none HSG2.out.2.2.2.2 HSG2.out.1], hk.trans h2 (by simp)⟩
                go_wp2_with fail
                go_region_held3 (fun w' => w'.cell? ⟨bw, 0, none⟩ = some (.int .u64 (sg'.a : Int)) ∧ w'.cell? ⟨bw, 1, none⟩ = some (.int .u64 (sg'.b : Int)) ∧ w'.cell? ⟨ba, 0, none⟩ = some (.int .u64 (al.a : Int)) ∧ w'.cell? ⟨ba, 1, none⟩ = some (.int .u64 (al.b : Int)) ∧ w'.cell? ⟨bo, 0, none⟩ = some (.int .u64 (own.a : Int)) ∧ w'.cell? ⟨bo, 1, none⟩ = some (.int .u64 (own.b : Int)) ∧ w'.cell? ⟨lg, L * 6 + 2, none⟩ = some (.int .i64 1)) (first | with_reducible exact HC.out _ (by first | with_reducible assumption | exact Keeps.drew (by with_reducible assumption)) | go_keep) ((first
                  | (go_at_call 32; refine (QW1.out _ (by first | with_reducible assumption | exact Keeps.drew (by with_reducible assumption))).mono ?_; rintro e wc ⟨rfl, hkc⟩)
                  | (go_at_call 32; refine (QW2.out _ (by first | with_reducible assumption | exact Keeps.drew (by with_reducible assumption))).mono ?_; rintro e wc ⟨rfl, hkc⟩)
                  | (go_at_call 17; refine (QF.out _ (by first | with_reducible assumption | exact Keeps.drew (by with_reducible assumption))).mono ?_; rintro e wd ⟨rfl, hkd⟩)))
                have HV18 := Lib.hid (HV15.out.calm hkd)
                clear HC HV15 QF QW1 hfd heq HLG15 hkd y1 y2 y3 y4
                cases ov
                · go_wp2_with fail
                  refine HV18.out.done_.mono ?_
                  rintro e wq ⟨rfl, rfl⟩
                  go_wp2_with fail
                  obtain ⟨L', hpr⟩ := (HV18.out.less (l' := [(bf, 34, #[.int .i64 0, .int .i64 g, .int .i64 s, .int .u64 (sf.a : Int), .int .u64 (sf.b : Int)])]) (fun x hx => by simp at hx; subst hx; simp)).read
                  exact ⟨⟨i' + 1, q, B ++ [cell], _, rfl, by omega, by simp, rfl, by omega, HBL1.out, HBC.out, g, s, sf, .inr ⟨b, cell, B, sg', L', rfl, by omega, rfl, hpr⟩⟩, by simp [intOf]; omega⟩
                · go_wp2_with fail
                  refine HV18.out.done_.mono ?_
                  rintro e wq ⟨rfl, rfl⟩
                  go_wp2_with fail
                  obtain ⟨g', s', hfrom⟩ := HV18.out.from_
                  have QF := Lib.hid (hfrom _ (Keeps.refl _ _))
                  clear hfrom
                  refine QF.out.mono ?_
                  rintro e w19 ⟨rfl, hk19⟩
                  have hid := ((HV18.out.calm hk19).less (l' := [(bf, 34, #[.int .i64 0, .int .i64 g, .int .i64 s, .int .u64 (sf.a : Int), .int .u64 (sf.b : Int)])]) (fun x hx => by simp at hx; subst hx; simp)).idle
                  have e1 := hid.loc (q := bf) (t := 34) (cs := #[.int .i64 0, .int .i64 g, .int .i64 s, .int .u64 (sf.a : Int), .int .u64 (sf.b : Int)]) (by simp)
                  have d0 : w19.cell? ⟨bf, 0, none⟩ = some (.int .i64 0) := (e1.cell 0).trans rfl
                  have d1 : w19.cell? ⟨bf, 1, none⟩ = some (.int .i64 g) := (e1.cell 1).trans rfl
                  have d2 : w19.cell? ⟨bf, 2, none⟩ = some (.int .i64 s) := (e1.cell 2).trans rfl
                  have d3 : w19.cell? ⟨bf, 3, none⟩ = some (.int .u64 (sf.a : Int)) := (e1.cell 3).trans rfl
                  have d4 : w19.cell? ⟨bf, 4, none⟩ = some (.int .u64 (sf.b : Int)) := (e1.cell 4).trans rfl
                  have f0 := e1.frozen 0
                  have f1 := e1.frozen 1
                  have f2 := e1.frozen 2
                  have f3 := e1.frozen 3
                  have f4 := e1.frozen 4
                  have HID := Lib.hid hid
                  have hkf : Keeps [bf] w19 (((((w19.setCell ⟨bf, 0, none⟩ (.int .i64 0)).setCell ⟨bf, 1, none⟩ (.int .i64 g')).setCell ⟨bf, 2, none⟩ (.int .i64 s')).setCell ⟨bf, 3, none⟩ (.int .u64 (sg'.a : Int))).setCell ⟨bf, 4, none⟩ (.int .u64 (sg'.b : Int))) := (((((Keeps.refl [bf] w19).setCell (.inl (by simp)) _).setCell (.inl (by simp)) _).setCell (.inl (by simp)) _).setCell (.inl (by simp)) _).setCell (.inl (by simp)) _
                  have hbf2 : Blk (((((w19.setCell ⟨bf, 0, none⟩ (.int .i64 0)).setCell ⟨bf, 1, none⟩ (.int .i64 g')).setCell ⟨bf, 2, none⟩ (.int .i64 s')).setCell ⟨bf, 3, none⟩ (.int .u64 (sg'.a : Int))).setCell ⟨bf, 4, none⟩ (.int .u64 (sg'.b : Int))) bf 34 #[.int .i64 0, .int .i64 g', .int .i64 s', .int .u64 (sg'.a : Int), .int .u64 (sg'.b : Int)] := ((((e1.set_ 0 (.int .i64 0)).set_ 1 (.int .i64 g')).set_ 2 (.int .i64 s')).set_ 3 (.int .u64 (sg'.a : Int))).set_ 4 (.int .u64 (sg'.b : Int))
                  have HIF := Lib.hid (hid.put HBL.out (by decide) (by decide) hkf hbf2)
                  clear hid e1 hkf hbf2 HID QF hk19
                  go_wp2_with fail
                  exact ⟨⟨i' + 1, q + 1, B ++ [cell], _, rfl, by omega, by simp, by simp, by omega, HBL1.out, HBC.out, g', s', sg', .inl ⟨rfl, HIF.out⟩⟩, by simp [intOf]; omega⟩
              · have hk2 : (kd == 1) = false := by simp [hk1]
                have hk3 : decide (kd = 1) = false := by simp [hk1]
                go_wp2_with fail
                refine wp_region_noPanic ?_
                refine wp_region_L 99 (fun w' => w'.cell? ⟨bw, 0, none⟩ = some (.int .u64 (sg'.a : Int)) ∧ w'.cell? ⟨bw, 1, none⟩ = some (.int .u64 (sg'.b : Int)) ∧ w'.cell? ⟨ba, 0, none⟩ = some (.int .u64 (al.a : Int)) ∧ w'.cell? ⟨ba, 1, none⟩ = some (.int .u64 (al.b : Int)) ∧ w'.cell? ⟨bo, 0, none⟩ = some (.int .u64 (own.a : Int)) ∧ w'.cell? ⟨bo, 1, none⟩ = some (.int .u64 (own.b : Int)) ∧ w'.cell? ⟨lg, L * 6 + 2, none⟩ = some (.int .i64 kd)) (by kernel_rfl) ?_
                have hHeld := HC.out _ hkB.drew
                refine wpAnyL_takeT (i := 0) (v := ?rvi0) rfl (by kernel_rfl) (by kernel_rfl) (by kernel_rfl) (by kernel_rfl) (fun _ _ _ h => h) (Or.inl ⟨by rfl, ?ryi0⟩) hHeld ?rri0
                case ryi0 => (intro w' hSw; (try dsimp only at hSw); go_simp; first | done | with_reducible rfl)
                case' rri0 => (try simp only [Act.put, List.setIfInBounds_toArray, List.set_cons_zero, List.set_cons_succ])
                refine wpAnyL_takeT (i := 1) (v := ?rvi1) rfl (by kernel_rfl) (by kernel_rfl) (by kernel_rfl) (by kernel_rfl) (fun _ _ _ h => h) (Or.inl ⟨by rfl, ?ryi1⟩) hHeld ?rri1
                case ryi1 => (intro w' hSw; (try dsimp only at hSw); go_simp; first | done | with_reducible rfl)
                case' rri1 => (try simp only [Act.put, List.setIfInBounds_toArray, List.set_cons_zero, List.set_cons_succ])
                refine wpAnyL_takeT (i := 2) (v := ?rvi2) rfl (by kernel_rfl) (by kernel_rfl) (by kernel_rfl) (by kernel_rfl) (fun _ _ _ h => h) (Or.inl ⟨by rfl, ?ryi2⟩) hHeld ?rri2
                case ryi2 => (intro w' hSw; (try dsimp only at hSw); go_simp; first | done | with_reducible rfl)
                case' rri2 => (try simp only [Act.put, List.setIfInBounds_toArray, List.set_cons_zero, List.set_cons_succ])
                refine wpAnyL_takeT (i := 3) (v := ?rvi3) rfl (by kernel_rfl) (by kernel_rfl) (by kernel_rfl) (by kernel_rfl) (fun _ _ _ h => h) (Or.inl ⟨by rfl, ?ryi3⟩) hHeld ?rri3
                case ryi3 => (intro w' hSw; (try dsimp only at hSw); go_simp; first | done | with_reducible rfl)
                case' rri3 => (try simp only [Act.put, List.setIfInBounds_toArray, List.set_cons_zero, List.set_cons_succ])
                refine wpAnyL_takeT (i := 4) (v := ?rvi4) rfl (by kernel_rfl) (by kernel_rfl) (by kernel_rfl) (by kernel_rfl) (fun _ _ _ h => h) (Or.inl ⟨by rfl, ?ryi4⟩) hHeld ?rri4
                case ryi4 => (intro w' hSw; (try dsimp only at hSw); go_simp; first | done | with_reducible rfl)
                case' rri4 => (try simp only [Act.put, List.setIfInBounds_toArray, List.set_cons_zero, List.set_cons_succ])
                refine wpAnyL_takeT (i := 5) (v := ?rvi5) rfl (by kernel_rfl) (by kernel_rfl) (by kernel_rfl) (by kernel_rfl) (fun _ _ _ h => h) (Or.inl ⟨by rfl, ?ryi5⟩) hHeld ?rri5
                case ryi5 => (intro w' hSw; (try dsimp only at hSw); go_simp; first | done | with_reducible rfl)
                case' rri5 => (try simp only [Act.put, List.setIfInBounds_toArray, List.set_cons_zero, List.set_cons_succ])
                refine wpAnyL_takeT (i := 6) (v := ?rvi6) rfl (by kernel_rfl) (by kernel_rfl) (by kernel_rfl) (by kernel_rfl) (fun _ _ _ h => h) (Or.inl ⟨by rfl, ?ryi6⟩) hHeld ?rri6
                case ryi6 => (intro w' hSw; (try dsimp only at hSw); go_simp; first | done | with_reducible rfl)
                case' rri6 => (try simp only [Act.put, List.setIfInBounds_toArray, List.set_cons_zero, List.set_cons_succ])
                refine wpAnyL_takeT (i := 7) (v := ?rvi7) rfl (by kernel_rfl) (by kernel_rfl) (by kernel_rfl) (by kernel_rfl) (fun _ _ _ h => h) (Or.inl ⟨by rfl, ?ryi7⟩) hHeld ?rri7
                case ryi7 => (intro w' hSw; (try dsimp only at hSw); go_simp; first | done | with_reducible rfl)
                case' rri7 => (try simp only [Act.put, List.setIfInBounds_toArray, List.set_cons_zero, List.set_cons_succ])
                refine wpAnyL_takeT (i := 8) (v := ?rvi8) rfl (by kernel_rfl) (by kernel_rfl) (by kernel_rfl) (by kernel_rfl) (fun _ _ _ h => h) (Or.inl ⟨by rfl, ?ryi8⟩) hHeld ?rri8
                case ryi8 => (intro w' hSw; (try dsimp only at hSw); go_simp; first | done | with_reducible rfl)
                case' rri8 => (try simp only [Act.put, List.setIfInBounds_toArray, List.set_cons_zero, List.set_cons_succ])
                refine wpAnyL_oneT (i := 9) (by kernel_rfl) rfl (fun K hK => ?_)
                go_simp
                go_at_call 32
                refine (QW1.out _ hkB.drew).mono ?_
                rintro e wc ⟨rfl, hkc⟩
                go_simp
                refine hK.out _ _ (fun _ => HC.out _ hkc) ?_
                clear hK K
                try simp only [Act.put, List.setIfInBounds_toArray, List.set_cons_zero, List.set_cons_succ]
                replace hHeld := HC.out _ hkc
                refine wpAnyL_takeT (i := 10) (v := ?rvi10) rfl (by kernel_rfl) (by kernel_rfl) (by kernel_rfl) (by kernel_rfl) (fun _ _ _ h => h) (Or.inl ⟨by rfl, ?ryi10⟩) hHeld ?rri10
                case ryi10 => (intro w' hSw; (try dsimp only at hSw); go_simp; first | done | with_reducible rfl)
                case' rri10 => (try simp only [Act.put, List.setIfInBounds_toArray, List.set_cons_zero, List.set_cons_succ])
                refine wpAnyL_takeT (i := 11) (v := ?rvi11) rfl (by kernel_rfl) (by kernel_rfl) (by kernel_rfl) (by kernel_rfl) (fun _ _ _ h => h) (Or.inl ⟨by rfl, ?ryi11⟩) hHeld ?rri11
                case ryi11 => (intro w' hSw; (try dsimp only at hSw); go_simp; first | done | with_reducible rfl)
                case' rri11 => (try simp only [Act.put, List.setIfInBounds_toArray, List.set_cons_zero, List.set_cons_succ])
                refine wpAnyL_takeT (i := 12) (v := ?rvi12) rfl (by kernel_rfl) (by kernel_rfl) (by kernel_rfl) (by kernel_rfl) (fun _ _ _ h => h) (Or.inl ⟨by rfl, ?ryi12⟩) hHeld ?rri12
                case ryi12 => (intro w' hSw; (try dsimp only at hSw); go_simp; first | done | with_reducible rfl)
                case' rri12 => (try simp only [Act.put, List.setIfInBounds_toArray, List.set_cons_zero, List.set_cons_succ])
                refine wpAnyL_takeT (i := 13) (v := ?rvi13) rfl (by kernel_rfl) (by kernel_rfl) (by kernel_rfl) (by kernel_rfl) (fun _ _ _ h => h) (Or.inl ⟨by rfl, ?ryi13⟩) hHeld ?rri13
                case ryi13 => (intro w' hSw; (try dsimp only at hSw); go_simp; first | done | with_reducible rfl)
                case' rri13 => (try simp only [Act.put, List.setIfInBounds_toArray, List.set_cons_zero, List.set_cons_succ])
                refine wpAnyL_takeT (i := 14) (v := ?rvi14) rfl (by kernel_rfl) (by kernel_rfl) (by kernel_rfl) (by kernel_rfl) (fun _ _ _ h => h) (Or.inl ⟨by rfl, ?ryi14⟩) hHeld ?rri14
                case ryi14 => (intro w' hSw; (try dsimp only at hSw); go_simp; first | done | with_reducible rfl)
                case' rri14 => (try simp only [Act.put, List.setIfInBounds_toArray, List.set_cons_zero, List.set_cons_succ])
                refine wpAnyL_takeT (i := 15) (v := ?rvi15) rfl (by kernel_rfl) (by kernel_rfl) (by kernel_rfl) (by kernel_rfl) (fun _ _ _ h => h) (Or.inl ⟨by rfl, ?ryi15⟩) hHeld ?rri15
                case ryi15 => (intro w' hSw; (try dsimp only at hSw); go_simp; first | done | with_reducible rfl)
                case' rri15 => (try simp only [Act.put, List.setIfInBounds_toArray, List.set_cons_zero, List.set_cons_succ])
                refine wpAnyL_takeT (i := 16) (v := ?rvi16) rfl (by kernel_rfl) (by kernel_rfl) (by kernel_rfl) (by kernel_rfl) (fun _ _ _ h => h) (Or.inl ⟨by rfl, ?ryi16⟩) hHeld ?rri16
                case ryi16 => (intro w' hSw; (try dsimp only at hSw); go_simp; first | done | with_reducible rfl)
                case' rri16 => (try simp only [Act.put, List.setIfInBounds_toArray, List.set_cons_zero, List.set_cons_succ])
                refine wpAnyL_takeT (i := 17) (v := ?rvi17) rfl (by kernel_rfl) (by kernel_rfl) (by kernel_rfl) (by kernel_rfl) (fun _ _ _ h => h) (Or.inl ⟨by rfl, ?ryi17⟩) hHeld ?rri17
                case ryi17 => (intro w' hSw; (try dsimp only at hSw); go_simp; first | done | with_reducible rfl)
                case' rri17 => (try simp only [Act.put, List.setIfInBounds_toArray, List.set_cons_zero, List.set_cons_succ])
                refine wpAnyL_takeT (i := 18) (v := ?rvi18) rfl (by kernel_rfl) (by kernel_rfl) (by kernel_rfl) (by kernel_rfl) (fun _ _ _ h => h) (Or.inl ⟨by rfl, ?ryi18⟩) hHeld ?rri18
                case ryi18 => (intro w' hSw; (try dsimp only at hSw); go_simp; first | done | with_reducible rfl)
                case' rri18 => (try simp only [Act.put, List.setIfInBounds_toArray, List.set_cons_zero, List.set_cons_succ])
                refine wpAnyL_takeT (i := 19) (v := ?rvi19) rfl (by kernel_rfl) (by kernel_rfl) (by kernel_rfl) (by kernel_rfl) (fun _ _ _ h => h) (Or.inl ⟨by rfl, ?ryi19⟩) hHeld ?rri19
                case ryi19 => (intro w' hSw; (try dsimp only at hSw); go_simp; first | done | with_reducible rfl)
                case' rri19 => (try simp only [Act.put, List.setIfInBounds_toArray, List.set_cons_zero, List.set_cons_succ])
                refine wpAnyL_takeT (i := 20) (v := ?rvi20) rfl (by kernel_rfl) (by kernel_rfl) (by kernel_rfl) (by kernel_rfl) (fun _ _ _ h => h) (Or.inl ⟨by rfl, ?ryi20⟩) hHeld ?rri20
                case ryi20 => (intro w' hSw; (try dsimp only at hSw); go_simp; first | done | with_reducible rfl)
                case' rri20 => (try simp only [Act.put, List.setIfInBounds_toArray, List.set_cons_zero, List.set_cons_succ])
                refine wpAnyL_takeT (i := 21) (v := ?rvi21) rfl (by kernel_rfl) (by kernel_rfl) (by kernel_rfl) (by kernel_rfl) (fun _ _ _ h => h) (Or.inl ⟨by rfl, ?ryi21⟩) hHeld ?rri21
                case ryi21 => (intro w' hSw; (try dsimp only at hSw); go_simp; first | done | with_reducible rfl)
                case' rri21 => (try simp only [Act.put, List.setIfInBounds_toArray, List.set_cons_zero, List.set_cons_succ])
                refine wpAnyL_takeT (i := 22) (v := ?rvi22) rfl (by kernel_rfl) (by kernel_rfl) (by kernel_rfl) (by kernel_rfl) (fun _ _ _ h => h) (Or.inl ⟨by rfl, ?ryi22⟩) hHeld ?rri22
                case ryi22 => (intro w' hSw; (try dsimp only at hSw); go_simp; first | done | with_reducible rfl)
                case' rri22 => (try simp only [Act.put, List.setIfInBounds_toArray, List.set_cons_zero, List.set_cons_succ])
                refine wpAnyL_takeT (i := 23) (v := ?rvi23) rfl (by kernel_rfl) (by kernel_rfl) (by kernel_rfl) (by kernel_rfl) (fun _ _ _ h => h) (Or.inl ⟨by rfl, ?ryi23⟩) hHeld ?rri23
                case ryi23 => (intro w' hSw; (try dsimp only at hSw); go_simp; first | done | with_reducible rfl)
                case' rri23 => (try simp only [Act.put, List.setIfInBounds_toArray, List.set_cons_zero, List.set_cons_succ])
                refine wpAnyL_takeT (i := 24) (v := ?rvi24) rfl (by kernel_rfl) (by kernel_rfl) (by kernel_rfl) (by kernel_rfl) (fun _ _ _ h => h) (Or.inl ⟨by rfl, ?ryi24⟩) hHeld ?rri24
                case ryi24 => (intro w' hSw; (try dsimp only at hSw); go_simp; first | done | with_reducible rfl)
                case' rri24 => (try simp only [Act.put, List.setIfInBounds_toArray, List.set_cons_zero, List.set_cons_succ])
                refine wpAnyL_takeT (i := 25) (v := ?rvi25) rfl (by kernel_rfl) (by kernel_rfl) (by kernel_rfl) (by kernel_rfl) (fun _ _ _ h => h) (Or.inl ⟨by rfl, ?ryi25⟩) hHeld ?rri25
                case ryi25 => (intro w' hSw; (try dsimp only at hSw); go_simp; first | done | with_reducible rfl)
                case' rri25 => (try simp only [Act.put, List.setIfInBounds_toArray, List.set_cons_zero, List.set_cons_succ])
                refine wpAnyL_takeT (i := 26) (v := ?rvi26) rfl (by kernel_rfl) (by kernel_rfl) (by kernel_rfl) (by kernel_rfl) (fun _ _ _ h => h) (Or.inl ⟨by rfl, ?ryi26⟩) hHeld ?rri26
                case ryi26 => (intro w' hSw; (try dsimp only at hSw); go_simp; first | done | with_reducible rfl)
                case' rri26 => (try simp only [Act.put, List.setIfInBounds_toArray, List.set_cons_zero, List.set_cons_succ])
                refine wpAnyL_takeT (i := 27) (v := undef) rfl (by kernel_rfl) (by kernel_rfl) (by kernel_rfl) (by kernel_rfl) (fun _ _ _ h => h) (Or.inr ⟨by rfl, rfl⟩) hHeld ?rri27
                case' rri27 => (try simp only [Act.put, List.setIfInBounds_toArray, List.set_cons_zero, List.set_cons_succ])
                refine wpAnyL_takeT (i := 28) (v := undef) rfl (by kernel_rfl) (by kernel_rfl) (by kernel_rfl) (by kernel_rfl) (fun _ _ _ h => h) (Or.inr ⟨by rfl, rfl⟩) hHeld ?rri28
                case' rri28 => (try simp only [Act.put, List.setIfInBounds_toArray, List.set_cons_zero, List.set_cons_succ])
                refine wpAnyL_oneT (i := 29) (by kernel_rfl) rfl (fun K hK => ?_)
                go_simp
                refine hK.out _ _ (fun _ => HC.out _ hkc) ?_
                clear hK K
                try simp only [Act.put, List.setIfInBounds_toArray, List.set_cons_zero, List.set_cons_succ]
                refine wpAnyL_takeT (i := 30) (v := undef) rfl (by kernel_rfl) (by kernel_rfl) (by kernel_rfl) (by kernel_rfl) (fun _ _ _ h => h) (Or.inr ⟨by rfl, rfl⟩) hHeld ?rri30
                case' rri30 => (try simp only [Act.put, List.setIfInBounds_toArray, List.set_cons_zero, List.set_cons_succ])
                refine wpAnyL_takeT (i := 31) (v := ?rvi31) rfl (by kernel_rfl) (by kernel_rfl) (by kernel_rfl) (by kernel_rfl) (fun _ _ _ h => h) (Or.inl ⟨by rfl, ?ryi31⟩) hHeld ?rri31
                case ryi31 => (intro w' hSw; (try dsimp only at hSw); go_simp; first | done | with_reducible rfl)
                case' rri31 => (try simp only [Act.put, List.setIfInBounds_toArray, List.set_cons_zero, List.set_cons_succ])
                refine wpAnyL_takeT (i := 32) (v := ?rvi32) rfl (by kernel_rfl) (by kernel_rfl) (by kernel_rfl) (by kernel_rfl) (fun _ _ _ h => h) (Or.inl ⟨by rfl, ?ryi32⟩) hHeld ?rri32
                case ryi32 => (intro w' hSw; (try dsimp only at hSw); go_simp; first | done | with_reducible rfl)
                case' rri32 => (try simp only [Act.put, List.setIfInBounds_toArray, List.set_cons_zero, List.set_cons_succ])
                refine wpAnyL_takeT (i := 33) (v := ?rvi33) rfl (by kernel_rfl) (by kernel_rfl) (by kernel_rfl) (by kernel_rfl) (fun _ _ _ h => h) (Or.inl ⟨by rfl, ?ryi33⟩) hHeld ?rri33
                case ryi33 => (intro w' hSw; (try dsimp only at hSw); go_simp; first | done | with_reducible rfl)
                case' rri33 => (try simp only [Act.put, List.setIfInBounds_toArray, List.set_cons_zero, List.set_cons_succ])
                refine wpAnyL_takeT (i := 34) (v := ?rvi34) rfl (by kernel_rfl) (by kernel_rfl) (by kernel_rfl) (by kernel_rfl) (fun _ _ _ h => h) (Or.inl ⟨by rfl, ?ryi34⟩) hHeld ?rri34
                case ryi34 => (intro w' hSw; (try dsimp only at hSw); go_simp; first | done | with_reducible rfl)
                case' rri34 => (try simp only [Act.put, List.setIfInBounds_toArray, List.set_cons_zero, List.set_cons_succ])
                refine wpAnyL_takeT (i := 35) (v := ?rvi35) rfl (by kernel_rfl) (by kernel_rfl) (by kernel_rfl) (by kernel_rfl) (fun _ _ _ h => h) (Or.inl ⟨by rfl, ?ryi35⟩) hHeld ?rri35
                case ryi35 => (intro w' hSw; (try dsimp only at hSw); go_simp; first | done | with_reducible rfl)
                case' rri35 => (try simp only [Act.put, List.setIfInBounds_toArray, List.set_cons_zero, List.set_cons_succ])
                refine wpAnyL_oneT (i := 36) (by kernel_rfl) rfl (fun K hK => ?_)
                go_simp
                go_at_call 17
                refine (QF.out _ hkc).mono ?_
                rintro e wd ⟨rfl, hkd⟩
                go_simp
                refine hK.out _ _ (fun _ => HC.out _ hkd) ?_
                clear hK K
                try simp only [Act.put, List.setIfInBounds_toArray, List.set_cons_zero, List.set_cons_succ]
                replace hHeld := HC.out _ hkd
                refine wpAnyL_takeT (i := 37) (v := ?rvi37) rfl (by kernel_rfl) (by kernel_rfl) (by kernel_rfl) (by kernel_rfl) (fun _ _ _ h => h) (Or.inl ⟨by rfl, ?ryi37⟩) hHeld ?rri37
                case ryi37 => (intro w' hSw; (try dsimp only at hSw); go_simp; first | done | with_reducible rfl)
                case' rri37 => (try simp only [Act.put, List.setIfInBounds_toArray, List.set_cons_zero, List.set_cons_succ])
                refine wpAnyL_takeT (i := 38) (v := ?rvi38) rfl (by kernel_rfl) (by kernel_rfl) (by kernel_rfl) (by kernel_rfl) (fun _ _ _ h => h) (Or.inl ⟨by rfl, ?ryi38⟩) hHeld ?rri38
                case ryi38 => (intro w' hSw; (try dsimp only at hSw); go_simp; first | done | with_reducible rfl)
                case' rri38 => (try simp only [Act.put, List.setIfInBounds_toArray, List.set_cons_zero, List.set_cons_succ])
                refine wpAnyL_takeT (i := 39) (v := ?rvi39) rfl (by kernel_rfl) (by kernel_rfl) (by kernel_rfl) (by kernel_rfl) (fun _ _ _ h => h) (Or.inl ⟨by rfl, ?ryi39⟩) hHeld ?rri39
                case ryi39 => (intro w' hSw; (try dsimp only at hSw); go_simp; first | done | with_reducible rfl)
                case' rri39 => (try simp only [Act.put, List.setIfInBounds_toArray, List.set_cons_zero, List.set_cons_succ])
                refine wpAnyL_done (by kernel_rfl) ?_ _
                refine NoPanic.normal ?_
                have HV18 := Lib.hid (HV15.out.calm hkd)
                clear HC HV15 QF QW1 hfd heq HLG15 hkd y1 y2 y3 y4
                cases ov
                · go_wp2_with fail
                  refine HV18.out.done_.mono ?_
                  rintro e wq ⟨rfl, rfl⟩
                  go_wp2_with fail
                  obtain ⟨L', hpr⟩ := (HV18.out.less (l' := [(bf, 34, #[.int .i64 0, .int .i64 g, .int .i64 s, .int .u64 (sf.a : Int), .int .u64 (sf.b : Int)])]) (fun x hx => by simp at hx; subst hx; simp)).read
                  exact ⟨⟨i' + 1, q, B ++ [cell], _, rfl, by omega, by simp, rfl, by omega, HBL1.out, HBC.out, g, s, sf, .inr ⟨b, cell, B, sg', L', rfl, by omega, rfl, hpr⟩⟩, by simp [intOf]; omega⟩
                · go_wp2_with fail
                  refine HV18.out.done_.mono ?_
                  rintro e wq ⟨rfl, rfl⟩
                  go_wp2_with fail
                  obtain ⟨g', s', hfrom⟩ := HV18.out.from_
                  have QF := Lib.hid (hfrom _ (Keeps.refl _ _))
                  clear hfrom
                  refine QF.out.mono ?_
                  rintro e w19 ⟨rfl, hk19⟩
                  have hid := ((HV18.out.calm hk19).less (l' := [(bf, 34, #[.int .i64 0, .int .i64 g, .int .i64 s, .int .u64 (sf.a : Int), .int .u64 (sf.b : Int)])]) (fun x hx => by simp at hx; subst hx; simp)).idle
                  have e1 := hid.loc (q := bf) (t := 34) (cs := #[.int .i64 0, .int .i64 g, .int .i64 s, .int .u64 (sf.a : Int), .int .u64 (sf.b : Int)]) (by simp)
                  have d0 : w19.cell? ⟨bf, 0, none⟩ = some (.int .i64 0) := (e1.cell 0).trans rfl
                  have d1 : w19.cell? ⟨bf, 1, none⟩ = some (.int .i64 g) := (e1.cell 1).trans rfl
                  have d2 : w19.cell? ⟨bf, 2, none⟩ = some (.int .i64 s) := (e1.cell 2).trans rfl
                  have d3 : w19.cell? ⟨bf, 3, none⟩ = some (.int .u64 (sf.a : Int)) := (e1.cell 3).trans rfl
                  have d4 : w19.cell? ⟨bf, 4, none⟩ = some (.int .u64 (sf.b : Int)) := (e1.cell 4).trans rfl
                  have f0 := e1.frozen 0
                  have f1 := e1.frozen 1
                  have f2 := e1.frozen 2
                  have f3 := e1.frozen 3
                  have f4 := e1.frozen 4
                  have HID := Lib.hid hid
                  have hkf : Keeps [bf] w19 (((((w19.setCell ⟨bf, 0, none⟩ (.int .i64 0)).setCell ⟨bf, 1, none⟩ (.int .i64 g')).setCell ⟨bf, 2, none⟩ (.int .i64 s')).setCell ⟨bf, 3, none⟩ (.int .u64 (sg'.a : Int))).setCell ⟨bf, 4, none⟩ (.int .u64 (sg'.b : Int))) := (((((Keeps.refl [bf] w19).setCell (.inl (by simp)) _).setCell (.inl (by simp)) _).setCell (.inl (by simp)) _).setCell (.inl (by simp)) _).setCell (.inl (by simp)) _
                  have hbf2 : Blk (((((w19.setCell ⟨bf, 0, none⟩ (.int .i64 0)).setCell ⟨bf, 1, none⟩ (.int .i64 g')).setCell ⟨bf, 2, none⟩ (.int .i64 s')).setCell ⟨bf, 3, none⟩ (.int .u64 (sg'.a : Int))).setCell ⟨bf, 4, none⟩ (.int .u64 (sg'.b : Int))) bf 34 #[.int .i64 0, .int .i64 g', .int .i64 s', .int .u64 (sg'.a : Int), .int .u64 (sg'.b : Int)] := ((((e1.set_ 0 (.int .i64 0)).set_ 1 (.int .i64 g')).set_ 2 (.int .i64 s')).set_ 3 (.int .u64 (sg'.a : Int))).set_ 4 (.int .u64 (sg'.b : Int))
                  have HIF := Lib.hid (hid.put HBL.out (by decide) (by decide) hkf hbf2)
                  clear hid e1 hkf hbf2 HID QF hk19
                  go_wp2_with fail
                  exact ⟨⟨i' + 1, q + 1, B ++ [cell], _, rfl, by omega, by simp, by simp, by omega, HBL1.out, HBC.out, g', s', sg', .inl ⟨rfl, HIF.out⟩⟩, by simp [intOf]; omega⟩
            · go_wp2_with fail
              exact ⟨⟨i' + 1, q, B, _, rfl, by omega, by simp, rfl, hq, by omega, HBC0.out, g, s, sf, .inl ⟨rfl, HPI.out.wide (by omega)⟩⟩, by simp [intOf]; omega⟩
          · have HP := Lib.hid hpr
            have HBC := HBC0
            have hqw : IntKind.i64.wrap ((q : Int) + 1) = (q : Int) + 1 := by rw [IntKind.wrap_i64]; unfold maxLen at hyl; omega
            have HBL1 : Hid ((B0 ++ [cell]).length ≤ i' + 1) := by unfold Hid; omega
            have hBl : B0.length + 1 ≤ 1048576 + 1 := by have := hB; simp at this; omega
            clear hpr HW hB
            have hmc := HP.out.meter
            obtain ⟨rg, rc, hrv, hrc, hrs⟩ := HP.out.form
            subst hrv
            have HRC := Lib.hid hrc
            have HRM := Lib.hid hrs
            clear hrc hrs
            go_wp2_with fail
            refine (HP.out.log (by omega)).mono ?_
            rintro e w7 ⟨⟨A7, c7, rfl⟩, hL, hk7⟩
            have HP7 := Lib.hid (HP.out.calm hk7)
            clear hk7 hmc HP
            go_wp2_with fail
            refine (HP7.out.step (by omega)).mono ?_
            rintro e w8 ⟨⟨a8, rfl⟩, sg', ov, kd, hv, hso, hsub, hkd⟩
            have HV8 := Lib.hid hv
            have hmc := hv.meter
            have HSG := Lib.hid (And.intro hso (And.intro hsub hkd))
            clear hv hso hsub hkd HP7
            go_wp2_with fail
            refine (HV8.out.log (by omega)).mono ?_
            rintro e w9 ⟨lg, lc, rfl, hlg, hcl, hk9⟩
            obtain ⟨ln, hln⟩ : ∃ ln, L + 1 = ln := ⟨_, rfl⟩
            rw [hln]
            have HLN := Lib.hid hln
            clear hln
            have HV9 := Lib.hid (HV8.out.calm hk9)
            have HLG := Lib.hid (And.intro hlg hcl)
            clear hk9 hmc hlg hcl HV8
            go_wp2_with fail
            refine HV9.out.view.mono ?_
            rintro e w10 ⟨v0, vn, vo, a2, cv, rfl, x0, x1, hk10⟩
            have hlg10 : w10.cell? ⟨lg, L * 6 + 2, none⟩ = some (.int .i64 kd) := (keeps_cell hk10 HLG.out.1 (by simp)).trans HLG.out.2
            have HLG10 := Lib.hid (And.intro (Nat.lt_of_lt_of_le HLG.out.1 hk10.size) hlg10)
            have hv11 := (HV9.out.calm hk10).add 32 #[.int .u64 (sg'.a : Int), .int .u64 (sg'.b : Int)]
            have HV11 : Hid (Pv wb z b nb (B0 ++ [cell]) (B0 ++ [cell]) (.slice (some ⟨rg, 0, none⟩) (B0.length + 1) rc) sg' cell ov L kd (10 + i' + 1) [(w10.heap.size, 32, #[.int .u64 (sg'.a : Int), .int .u64 (sg'.b : Int)]), (bf, 34, #[.int .i64 0, .int .i64 g, .int .i64 s, .int .u64 (sf.a : Int), .int .u64 (sf.b : Int)])] (w10.alloc (.cells #[.int .u64 (sg'.a : Int), .int .u64 (sg'.b : Int)] 32))) := hv11
            have hfd : ∀ w, (Instr.field 54 (.agg #[v0, .int .i64 vn, .int .i64 vo, .slice (some ⟨a2, 0, none⟩) 1 cv]) 2).run Try.prog w = .ok (.slice (some ⟨a2, 0, none⟩) 1 cv) w := fun w => by kernel_rfl
            clear hk10 hlg10 hv11 HV9 HLG
            go_wp2_with fail
            clear hfd
            obtain ⟨bw, hbw⟩ : ∃ q, w10.heap.size = q := ⟨_, rfl⟩
            have HLG11 : Hid (lg < (w10.alloc (.cells #[.int .u64 (sg'.a : Int), .int .u64 (sg'.b : Int)] 32)).heap.size ∧ (w10.alloc (.cells #[.int .u64 (sg'.a : Int), .int .u64 (sg'.b : Int)] 32)).cell? ⟨lg, L * 6 + 2, none⟩ = some (.int .i64 kd)) := ⟨Nat.lt_of_lt_of_le HLG10.out.1 ((Keeps.refl [] w10).alloc _).size, (keeps_cell ((Keeps.refl [] w10).alloc _) HLG10.out.1 (by simp)).trans HLG10.out.2⟩
            obtain ⟨w11, hw11⟩ : ∃ q, w10.alloc (.cells #[.int .u64 (sg'.a : Int), .int .u64 (sg'.b : Int)] 32) = q := ⟨_, rfl⟩
            rw [hw11] at HV11 HLG11
            rw [hbw] at HV11
            rw [hw11]
            try rw [hbw]
            clear hw11 hbw HLG10 x0 x1
            obtain ⟨A11, c11', e11, hs11⟩ := HV11.out.row (by have := HRM.out; simp; omega)
            injection e11 with e1 e2 e3
            subst e1
            clear e2 e3 c11'
            have hof := of_row (c := rc) (m := B0.length + 1) hs11 (by simp) HBC.out nb1 nb8
            obtain ⟨al, hal⟩ : ∃ q, ofL nb (B0 ++ [cell]) = q := ⟨_, rfl⟩
            rw [hal] at hof HSG
            have HAL := Lib.hid hal
            have QO := Lib.hid hof
            clear hof hal hs11
            refine QO.out.mono ?_
            rintro e w12 ⟨rfl, hk12⟩
            have hv13 := (HV11.out.calm hk12).add 32 #[.int .u64 (al.a : Int), .int .u64 (al.b : Int)]
            have HV13 : Hid (Pv wb z b nb (B0 ++ [cell]) (B0 ++ [cell]) (.slice (some ⟨rg, 0, none⟩) (B0.length + 1) rc) sg' cell ov L kd (10 + i' + 1) [(w12.heap.size, 32, #[.int .u64 (al.a : Int), .int .u64 (al.b : Int)]), (bw, 32, #[.int .u64 (sg'.a : Int), .int .u64 (sg'.b : Int)]), (bf, 34, #[.int .i64 0, .int .i64 g, .int .i64 s, .int .u64 (sf.a : Int), .int .u64 (sf.b : Int)])] (w12.alloc (.cells #[.int .u64 (al.a : Int), .int .u64 (al.b : Int)] 32))) := hv13
            have hk13 : Keeps [] w11 (w12.alloc (.cells #[.int .u64 (al.a : Int), .int .u64 (al.b : Int)] 32)) := hk12.trans ((Keeps.refl [] w12).alloc _) (by simp)
            have HLG13 : Hid (lg < (w12.alloc (.cells #[.int .u64 (al.a : Int), .int .u64 (al.b : Int)] 32)).heap.size ∧ (w12.alloc (.cells #[.int .u64 (al.a : Int), .int .u64 (al.b : Int)] 32)).cell? ⟨lg, L * 6 + 2, none⟩ = some (.int .i64 kd)) := ⟨Nat.lt_of_lt_of_le HLG11.out.1 hk13.size, (keeps_cell hk13 HLG11.out.1 (by simp)).trans HLG11.out.2⟩
            clear hk12 hk13 hv13 HLG11 HV11 QO
            have z1 : (0 : Int) ≤ ((B0.length : Nat) : Int) := by omega
            have z2 : ((B0.length : Nat) : Int) ≤ ((B0.length + 1 : Nat) : Int) := by omega
            have z3 : IntKind.i64.wrap (((B0.length + 1 : Nat) : Int) - 1) = (B0.length : Int) := by rw [IntKind.wrap_i64]; omega
            have z4 : B0.length + 1 ≤ rc := HRC.out
            go_wp2_with fail
            obtain ⟨ba, hba⟩ : ∃ q, w12.heap.size = q := ⟨_, rfl⟩
            obtain ⟨w13, hw13⟩ : ∃ q, w12.alloc (.cells #[.int .u64 (al.a : Int), .int .u64 (al.b : Int)] 32) = q := ⟨_, rfl⟩
            rw [hw13] at HV13 HLG13
            rw [hba] at HV13
            rw [hw13]
            try rw [hba]
            clear hw13 hba
            obtain ⟨A13, c13', e13, hs13⟩ := HV13.out.row (by have := HRM.out; simp; omega)
            injection e13 with e1 e2 e3
            subst e1
            clear e2 e3 c13'
            have hof := of_row (c := rc - B0.length) (m := 1) (slc_last hs13) rfl (fun x hx => by simp at hx; subst hx; exact HBC.out _ (by simp)) nb1 nb8
            obtain ⟨own, hown⟩ : ∃ q, ofL nb [cell] = q := ⟨_, rfl⟩
            rw [hown] at hof
            have HSG2 : Hid (sg'.ok ∧ Sub sg' al ∧ (kd = 1 → Sub own sg') ∧ al.ok ∧ own.ok) := ⟨HSG.out.1, HSG.out.2.1, by rw [← hown]; exact HSG.out.2.2, by rw [← HAL.out]; exact ofL_ok nb1 nb8 _, by rw [← hown]; exact ofL_ok nb1 nb8 _⟩
            have QO := Lib.hid hof
            clear hof hown hs13 HAL HSG
            refine QO.out.mono ?_
            rintro e w14 ⟨rfl, hk14⟩
            have hv15 := (HV13.out.calm hk14).add 32 #[.int .u64 (own.a : Int), .int .u64 (own.b : Int)]
            have HV15 : Hid (Pv wb z b nb (B0 ++ [cell]) (B0 ++ [cell]) (.slice (some ⟨rg, 0, none⟩) (B0.length + 1) rc) sg' cell ov L kd (10 + i' + 1) [(w14.heap.size, 32, #[.int .u64 (own.a : Int), .int .u64 (own.b : Int)]), (ba, 32, #[.int .u64 (al.a : Int), .int .u64 (al.b : Int)]), (bw, 32, #[.int .u64 (sg'.a : Int), .int .u64 (sg'.b : Int)]), (bf, 34, #[.int .i64 0, .int .i64 g, .int .i64 s, .int .u64 (sf.a : Int), .int .u64 (sf.b : Int)])] (w14.alloc (.cells #[.int .u64 (own.a : Int), .int .u64 (own.b : Int)] 32))) := hv15
            have hk15 : Keeps [] w13 (w14.alloc (.cells #[.int .u64 (own.a : Int), .int .u64 (own.b : Int)] 32)) := hk14.trans ((Keeps.refl [] w14).alloc _) (by simp)
            have HLG15 : Hid (lg < (w14.alloc (.cells #[.int .u64 (own.a : Int), .int .u64 (own.b : Int)] 32)).heap.size ∧ (w14.alloc (.cells #[.int .u64 (own.a : Int), .int .u64 (own.b : Int)] 32)).cell? ⟨lg, L * 6 + 2, none⟩ = some (.int .i64 kd)) := ⟨Nat.lt_of_lt_of_le HLG13.out.1 hk15.size, (keeps_cell hk15 HLG13.out.1 (by simp)).trans HLG13.out.2⟩
            clear hk14 hk15 hv15 HLG13 HV13 QO z1 z2 z3 z4
            go_wp2_with fail
            obtain ⟨bo, hbo⟩ : ∃ q, w14.heap.size = q := ⟨_, rfl⟩
            obtain ⟨w15, hw15⟩ : ∃ q, w14.alloc (.cells #[.int .u64 (own.a : Int), .int .u64 (own.b : Int)] 32) = q := ⟨_, rfl⟩
            rw [hw15] at HV15 HLG15
            rw [hbo] at HV15
            rw [hw15]
            try rw [hbo]
            clear hw15 hbo
            have HC := Lib.hid (show ∀ w', Keeps [] w15 w' → w'.cell? ⟨bw, 0, none⟩ = some (.int .u64 (sg'.a : Int)) ∧ w'.cell? ⟨bw, 1, none⟩ = some (.int .u64 (sg'.b : Int)) ∧ w'.cell? ⟨ba, 0, none⟩ = some (.int .u64 (al.a : Int)) ∧ w'.cell? ⟨ba, 1, none⟩ = some (.int .u64 (al.b : Int)) ∧ w'.cell? ⟨bo, 0, none⟩ = some (.int .u64 (own.a : Int)) ∧ w'.cell? ⟨bo, 1, none⟩ = some (.int .u64 (own.b : Int)) ∧ w'.cell? ⟨lg, L * 6 + 2, none⟩ = some (.int .i64 kd) from fun w' hk => by
              have q1 := (HV15.out.calm hk).loc (q := bw) (t := 32) (cs := #[.int .u64 (sg'.a : Int), .int .u64 (sg'.b : Int)]) (by simp)
              have q2 := (HV15.out.calm hk).loc (q := ba) (t := 32) (cs := #[.int .u64 (al.a : Int), .int .u64 (al.b : Int)]) (by simp)
              have q3 := (HV15.out.calm hk).loc (q := bo) (t := 32) (cs := #[.int .u64 (own.a : Int), .int .u64 (own.b : Int)]) (by simp)
              exact ⟨(q1.cell 0).trans rfl, (q1.cell 1).trans rfl, (q2.cell 0).trans rfl, (q2.cell 1).trans rfl, (q3.cell 0).trans rfl, (q3.cell 1).trans rfl, (keeps_cell hk HLG15.out.1 (by simp)).trans HLG15.out.2⟩)
            have hkB : Keeps [] w15 w15 := Keeps.refl _ _
            obtain ⟨gf, sf', hfr⟩ := HV15.out.from_
            have QF : Hid (∀ w', Keeps [] w15 w' → Calls Try.prog 17 #[PT b] w' fun e w'' => e = .returned (.agg #[.int .i64 0, .int .i64 gf, .int .i64 sf', .int .u64 (sg'.a : Int), .int .u64 (sg'.b : Int)]) ∧ Keeps [] w15 w'') := fun w' hk => (hfr w' hk).mono fun e w'' ⟨he, h2⟩ => ⟨he, hk.trans h2 (by simp)⟩
            have QW1 : Hid (∀ w', Keeps [] w15 w' → Calls Try.prog 32 #[.agg #[.int .u64 (sg'.a : Int), .int .u64 (sg'.b : Int)], .agg #[.int .u64 (al.a : Int), .int .u64 (al.b : Int)]] w' fun e w'' => e = .returned (.bool true) ∧ Keeps [] w15 w'') := fun w' hk => (within_any w' sg' al HSG2.out.1 HSG2.out.2.2.2.1).mono fun e w'' ⟨he, h2⟩ => ⟨by rw [he, HSG2.out.2.1.none HSG2.out.1 HSG2.out.2.2.2.1], hk.trans h2 (by simp)⟩
            have hfd : ∀ w, (Instr.field 34 (.agg #[.int .i64 0, .int .i64 gf, .int .i64 sf', .int .u64 (sg'.a : Int), .int .u64 (sg'.b : Int)]) 3).run Try.prog w = .ok (.agg #[.int .u64 (sg'.a : Int), .int .u64 (sg'.b : Int)]) w := fun w => by kernel_rfl
            have heq : ∀ w, (Op.equalIn 10000 32 (.agg #[.int .u64 (sg'.a : Int), .int .u64 (sg'.b : Int)]) (.agg #[.int .u64 (sg'.a : Int), .int .u64 (sg'.b : Int)])).run Try.prog w = .ok true w := fun w => by
              have := sig_eq w (sg'.a : Int) (sg'.b : Int) (sg'.a : Int) (sg'.b : Int)
              simpa using this
            have y1 : (0 : Int) ≤ (L : Int) := by omega
            have y2 : (L : Int) < (ln : Int) := by have := HLN.out; omega
            have y3 : IntKind.i64.wrap ((L : Int) + 1) = (ln : Int) := by have := HLN.out; rw [IntKind.wrap_i64]; omega
            have y4 : ((ln : Int) != (ln : Int)) = false := by simp
            clear hfr
            by_cases hk1 : kd = 1
            · subst hk1
              have QW2 : Hid (∀ w', Keeps [] w15 w' → Calls Try.prog 32 #[.agg #[.int .u64 (own.a : Int), .int .u64 (own.b : Int)], .agg #[.int .u64 (sg'.a : Int), .int .u64 (sg'.b : Int)]] w' fun e w'' => e = .returned (.bool true) ∧ Keeps [] w15 w'') := fun w' hk => (within_any w' own sg' HSG2.out.2.2.2.2 HSG2.out.1).mono fun e w'' ⟨he, h2⟩ => ⟨by rw [he, (HSG2.out.2.2.1 rfl).none HSG2.out.2.2.2.2 HSG2.out.1], hk.trans h2 (by simp)⟩
              go_wp2_with fail
              go_region_held3 (fun w' => w'.cell? ⟨bw, 0, none⟩ = some (.int .u64 (sg'.a : Int)) ∧ w'.cell? ⟨bw, 1, none⟩ = some (.int .u64 (sg'.b : Int)) ∧ w'.cell? ⟨ba, 0, none⟩ = some (.int .u64 (al.a : Int)) ∧ w'.cell? ⟨ba, 1, none⟩ = some (.int .u64 (al.b : Int)) ∧ w'.cell? ⟨bo, 0, none⟩ = some (.int .u64 (own.a : Int)) ∧ w'.cell? ⟨bo, 1, none⟩ = some (.int .u64 (own.b : Int)) ∧ w'.cell? ⟨lg, L * 6 + 2, none⟩ = some (.int .i64 1)) (first | with_reducible exact HC.out _ (by first | with_reducible assumption | exact Keeps.drew (by with_reducible assumption)) | go_keep) ((first
                | (go_at_call 32; refine (QW1.out _ (by first | with_reducible assumption | exact Keeps.drew (by with_reducible assumption))).mono ?_; rintro e wc ⟨rfl, hkc⟩)
                | (go_at_call 32; refine (QW2.out _ (by first | with_reducible assumption | exact Keeps.drew (by with_reducible assumption))).mono ?_; rintro e wc ⟨rfl, hkc⟩)
                | (go_at_call 17; refine (QF.out _ (by first | with_reducible assumption | exact Keeps.drew (by with_reducible assumption))).mono ?_; rintro e wd ⟨rfl, hkd⟩)))
              have HV18 := Lib.hid (HV15.out.calm hkd)
              clear HC HV15 QF QW1 hfd heq HLG15 hkd y1 y2 y3 y4
              cases ov
              · go_wp2_with fail
                refine HV18.out.done_.mono ?_
                rintro e wq ⟨rfl, rfl⟩
                go_wp2_with fail
                obtain ⟨L', hpr⟩ := (HV18.out.less (l' := [(bf, 34, #[.int .i64 0, .int .i64 g, .int .i64 s, .int .u64 (sf.a : Int), .int .u64 (sf.b : Int)])]) (fun x hx => by simp at hx; subst hx; simp)).read
                exact ⟨⟨i' + 1, q, B0 ++ [cell], _, rfl, by omega, by simp, rfl, by omega, HBL1.out, HBC.out, g, s, sf, .inr ⟨b, cell, B0, sg', L', rfl, by omega, rfl, hpr⟩⟩, by simp [intOf]; omega⟩
              · go_wp2_with fail
                refine HV18.out.done_.mono ?_
                rintro e wq ⟨rfl, rfl⟩
                go_wp2_with fail
                obtain ⟨g', s', hfrom⟩ := HV18.out.from_
                have QF := Lib.hid (hfrom _ (Keeps.refl _ _))
                clear hfrom
                refine QF.out.mono ?_
                rintro e w19 ⟨rfl, hk19⟩
                have hid := ((HV18.out.calm hk19).less (l' := [(bf, 34, #[.int .i64 0, .int .i64 g, .int .i64 s, .int .u64 (sf.a : Int), .int .u64 (sf.b : Int)])]) (fun x hx => by simp at hx; subst hx; simp)).idle
                have e1 := hid.loc (q := bf) (t := 34) (cs := #[.int .i64 0, .int .i64 g, .int .i64 s, .int .u64 (sf.a : Int), .int .u64 (sf.b : Int)]) (by simp)
                have d0 : w19.cell? ⟨bf, 0, none⟩ = some (.int .i64 0) := (e1.cell 0).trans rfl
                have d1 : w19.cell? ⟨bf, 1, none⟩ = some (.int .i64 g) := (e1.cell 1).trans rfl
                have d2 : w19.cell? ⟨bf, 2, none⟩ = some (.int .i64 s) := (e1.cell 2).trans rfl
                have d3 : w19.cell? ⟨bf, 3, none⟩ = some (.int .u64 (sf.a : Int)) := (e1.cell 3).trans rfl
                have d4 : w19.cell? ⟨bf, 4, none⟩ = some (.int .u64 (sf.b : Int)) := (e1.cell 4).trans rfl
                have f0 := e1.frozen 0
                have f1 := e1.frozen 1
                have f2 := e1.frozen 2
                have f3 := e1.frozen 3
                have f4 := e1.frozen 4
                have HID := Lib.hid hid
                have hkf : Keeps [bf] w19 (((((w19.setCell ⟨bf, 0, none⟩ (.int .i64 0)).setCell ⟨bf, 1, none⟩ (.int .i64 g')).setCell ⟨bf, 2, none⟩ (.int .i64 s')).setCell ⟨bf, 3, none⟩ (.int .u64 (sg'.a : Int))).setCell ⟨bf, 4, none⟩ (.int .u64 (sg'.b : Int))) := (((((Keeps.refl [bf] w19).setCell (.inl (by simp)) _).setCell (.inl (by simp)) _).setCell (.inl (by simp)) _).setCell (.inl (by simp)) _).setCell (.inl (by simp)) _
                have hbf2 : Blk (((((w19.setCell ⟨bf, 0, none⟩ (.int .i64 0)).setCell ⟨bf, 1, none⟩ (.int .i64 g')).setCell ⟨bf, 2, none⟩ (.int .i64 s')).setCell ⟨bf, 3, none⟩ (.int .u64 (sg'.a : Int))).setCell ⟨bf, 4, none⟩ (.int .u64 (sg'.b : Int))) bf 34 #[.int .i64 0, .int .i64 g', .int .i64 s', .int .u64 (sg'.a : Int), .int .u64 (sg'.b : Int)] := ((((e1.set_ 0 (.int .i64 0)).set_ 1 (.int .i64 g')).set_ 2 (.int .i64 s')).set_ 3 (.int .u64 (sg'.a : Int))).set_ 4 (.int .u64 (sg'.b : Int))
                have HIF := Lib.hid (hid.put HBL.out (by decide) (by decide) hkf hbf2)
                clear hid e1 hkf hbf2 HID QF hk19
                go_wp2_with fail
                exact ⟨⟨i' + 1, q + 1, B0 ++ [cell], _, rfl, by omega, by simp, by simp, by omega, HBL1.out, HBC.out, g', s', sg', .inl ⟨rfl, HIF.out⟩⟩, by simp [intOf]; omega⟩
            · have hk2 : (kd == 1) = false := by simp [hk1]
              have hk3 : decide (kd = 1) = false := by simp [hk1]
              go_wp2_with fail
              refine wp_region_noPanic ?_
              refine wp_region_L 99 (fun w' => w'.cell? ⟨bw, 0, none⟩ = some (.int .u64 (sg'.a : Int)) ∧ w'.cell? ⟨bw, 1, none⟩ = some (.int .u64 (sg'.b : Int)) ∧ w'.cell? ⟨ba, 0, none⟩ = some (.int .u64 (al.a : Int)) ∧ w'.cell? ⟨ba, 1, none⟩ = some (.int .u64 (al.b : Int)) ∧ w'.cell? ⟨bo, 0, none⟩ = some (.int .u64 (own.a : Int)) ∧ w'.cell? ⟨bo, 1, none⟩ = some (.int .u64 (own.b : Int)) ∧ w'.cell? ⟨lg, L * 6 + 2, none⟩ = some (.int .i64 kd)) (by kernel_rfl) ?_
              have hHeld := HC.out _ hkB.drew
              refine wpAnyL_takeT (i := 0) (v := ?rv0) rfl (by kernel_rfl) (by kernel_rfl) (by kernel_rfl) (by kernel_rfl) (fun _ _ _ h => h) (Or.inl ⟨by rfl, ?ry0⟩) hHeld ?rr0
              case ry0 => (intro w' hSw; (try dsimp only at hSw); go_simp; first | done | with_reducible rfl)
              case' rr0 => (try simp only [Act.put, List.setIfInBounds_toArray, List.set_cons_zero, List.set_cons_succ])
              refine wpAnyL_takeT (i := 1) (v := ?rv1) rfl (by kernel_rfl) (by kernel_rfl) (by kernel_rfl) (by kernel_rfl) (fun _ _ _ h => h) (Or.inl ⟨by rfl, ?ry1⟩) hHeld ?rr1
              case ry1 => (intro w' hSw; (try dsimp only at hSw); go_simp; first | done | with_reducible rfl)
              case' rr1 => (try simp only [Act.put, List.setIfInBounds_toArray, List.set_cons_zero, List.set_cons_succ])
              refine wpAnyL_takeT (i := 2) (v := ?rv2) rfl (by kernel_rfl) (by kernel_rfl) (by kernel_rfl) (by kernel_rfl) (fun _ _ _ h => h) (Or.inl ⟨by rfl, ?ry2⟩) hHeld ?rr2
              case ry2 => (intro w' hSw; (try dsimp only at hSw); go_simp; first | done | with_reducible rfl)
              case' rr2 => (try simp only [Act.put, List.setIfInBounds_toArray, List.set_cons_zero, List.set_cons_succ])
              refine wpAnyL_takeT (i := 3) (v := ?rv3) rfl (by kernel_rfl) (by kernel_rfl) (by kernel_rfl) (by kernel_rfl) (fun _ _ _ h => h) (Or.inl ⟨by rfl, ?ry3⟩) hHeld ?rr3
              case ry3 => (intro w' hSw; (try dsimp only at hSw); go_simp; first | done | with_reducible rfl)
              case' rr3 => (try simp only [Act.put, List.setIfInBounds_toArray, List.set_cons_zero, List.set_cons_succ])
              refine wpAnyL_takeT (i := 4) (v := ?rv4) rfl (by kernel_rfl) (by kernel_rfl) (by kernel_rfl) (by kernel_rfl) (fun _ _ _ h => h) (Or.inl ⟨by rfl, ?ry4⟩) hHeld ?rr4
              case ry4 => (intro w' hSw; (try dsimp only at hSw); go_simp; first | done | with_reducible rfl)
              case' rr4 => (try simp only [Act.put, List.setIfInBounds_toArray, List.set_cons_zero, List.set_cons_succ])
              refine wpAnyL_takeT (i := 5) (v := ?rv5) rfl (by kernel_rfl) (by kernel_rfl) (by kernel_rfl) (by kernel_rfl) (fun _ _ _ h => h) (Or.inl ⟨by rfl, ?ry5⟩) hHeld ?rr5
              case ry5 => (intro w' hSw; (try dsimp only at hSw); go_simp; first | done | with_reducible rfl)
              case' rr5 => (try simp only [Act.put, List.setIfInBounds_toArray, List.set_cons_zero, List.set_cons_succ])
              refine wpAnyL_takeT (i := 6) (v := ?rv6) rfl (by kernel_rfl) (by kernel_rfl) (by kernel_rfl) (by kernel_rfl) (fun _ _ _ h => h) (Or.inl ⟨by rfl, ?ry6⟩) hHeld ?rr6
              case ry6 => (intro w' hSw; (try dsimp only at hSw); go_simp; first | done | with_reducible rfl)
              case' rr6 => (try simp only [Act.put, List.setIfInBounds_toArray, List.set_cons_zero, List.set_cons_succ])
              refine wpAnyL_takeT (i := 7) (v := ?rv7) rfl (by kernel_rfl) (by kernel_rfl) (by kernel_rfl) (by kernel_rfl) (fun _ _ _ h => h) (Or.inl ⟨by rfl, ?ry7⟩) hHeld ?rr7
              case ry7 => (intro w' hSw; (try dsimp only at hSw); go_simp; first | done | with_reducible rfl)
              case' rr7 => (try simp only [Act.put, List.setIfInBounds_toArray, List.set_cons_zero, List.set_cons_succ])
              refine wpAnyL_takeT (i := 8) (v := ?rv8) rfl (by kernel_rfl) (by kernel_rfl) (by kernel_rfl) (by kernel_rfl) (fun _ _ _ h => h) (Or.inl ⟨by rfl, ?ry8⟩) hHeld ?rr8
              case ry8 => (intro w' hSw; (try dsimp only at hSw); go_simp; first | done | with_reducible rfl)
              case' rr8 => (try simp only [Act.put, List.setIfInBounds_toArray, List.set_cons_zero, List.set_cons_succ])
              refine wpAnyL_oneT (i := 9) (by kernel_rfl) rfl (fun K hK => ?_)
              go_simp
              go_at_call 32
              refine (QW1.out _ hkB.drew).mono ?_
              rintro e wc ⟨rfl, hkc⟩
              go_simp
              refine hK.out _ _ (fun _ => HC.out _ hkc) ?_
              clear hK K
              try simp only [Act.put, List.setIfInBounds_toArray, List.set_cons_zero, List.set_cons_succ]
              replace hHeld := HC.out _ hkc
              refine wpAnyL_takeT (i := 10) (v := ?rv10) rfl (by kernel_rfl) (by kernel_rfl) (by kernel_rfl) (by kernel_rfl) (fun _ _ _ h => h) (Or.inl ⟨by rfl, ?ry10⟩) hHeld ?rr10
              case ry10 => (intro w' hSw; (try dsimp only at hSw); go_simp; first | done | with_reducible rfl)
              case' rr10 => (try simp only [Act.put, List.setIfInBounds_toArray, List.set_cons_zero, List.set_cons_succ])
              refine wpAnyL_takeT (i := 11) (v := ?rv11) rfl (by kernel_rfl) (by kernel_rfl) (by kernel_rfl) (by kernel_rfl) (fun _ _ _ h => h) (Or.inl ⟨by rfl, ?ry11⟩) hHeld ?rr11
              case ry11 => (intro w' hSw; (try dsimp only at hSw); go_simp; first | done | with_reducible rfl)
              case' rr11 => (try simp only [Act.put, List.setIfInBounds_toArray, List.set_cons_zero, List.set_cons_succ])
              refine wpAnyL_takeT (i := 12) (v := ?rv12) rfl (by kernel_rfl) (by kernel_rfl) (by kernel_rfl) (by kernel_rfl) (fun _ _ _ h => h) (Or.inl ⟨by rfl, ?ry12⟩) hHeld ?rr12
              case ry12 => (intro w' hSw; (try dsimp only at hSw); go_simp; first | done | with_reducible rfl)
              case' rr12 => (try simp only [Act.put, List.setIfInBounds_toArray, List.set_cons_zero, List.set_cons_succ])
              refine wpAnyL_takeT (i := 13) (v := ?rv13) rfl (by kernel_rfl) (by kernel_rfl) (by kernel_rfl) (by kernel_rfl) (fun _ _ _ h => h) (Or.inl ⟨by rfl, ?ry13⟩) hHeld ?rr13
              case ry13 => (intro w' hSw; (try dsimp only at hSw); go_simp; first | done | with_reducible rfl)
              case' rr13 => (try simp only [Act.put, List.setIfInBounds_toArray, List.set_cons_zero, List.set_cons_succ])
              refine wpAnyL_takeT (i := 14) (v := ?rv14) rfl (by kernel_rfl) (by kernel_rfl) (by kernel_rfl) (by kernel_rfl) (fun _ _ _ h => h) (Or.inl ⟨by rfl, ?ry14⟩) hHeld ?rr14
              case ry14 => (intro w' hSw; (try dsimp only at hSw); go_simp; first | done | with_reducible rfl)
              case' rr14 => (try simp only [Act.put, List.setIfInBounds_toArray, List.set_cons_zero, List.set_cons_succ])
              refine wpAnyL_takeT (i := 15) (v := ?rv15) rfl (by kernel_rfl) (by kernel_rfl) (by kernel_rfl) (by kernel_rfl) (fun _ _ _ h => h) (Or.inl ⟨by rfl, ?ry15⟩) hHeld ?rr15
              case ry15 => (intro w' hSw; (try dsimp only at hSw); go_simp; first | done | with_reducible rfl)
              case' rr15 => (try simp only [Act.put, List.setIfInBounds_toArray, List.set_cons_zero, List.set_cons_succ])
              refine wpAnyL_takeT (i := 16) (v := ?rv16) rfl (by kernel_rfl) (by kernel_rfl) (by kernel_rfl) (by kernel_rfl) (fun _ _ _ h => h) (Or.inl ⟨by rfl, ?ry16⟩) hHeld ?rr16
              case ry16 => (intro w' hSw; (try dsimp only at hSw); go_simp; first | done | with_reducible rfl)
              case' rr16 => (try simp only [Act.put, List.setIfInBounds_toArray, List.set_cons_zero, List.set_cons_succ])
              refine wpAnyL_takeT (i := 17) (v := ?rv17) rfl (by kernel_rfl) (by kernel_rfl) (by kernel_rfl) (by kernel_rfl) (fun _ _ _ h => h) (Or.inl ⟨by rfl, ?ry17⟩) hHeld ?rr17
              case ry17 => (intro w' hSw; (try dsimp only at hSw); go_simp; first | done | with_reducible rfl)
              case' rr17 => (try simp only [Act.put, List.setIfInBounds_toArray, List.set_cons_zero, List.set_cons_succ])
              refine wpAnyL_takeT (i := 18) (v := ?rv18) rfl (by kernel_rfl) (by kernel_rfl) (by kernel_rfl) (by kernel_rfl) (fun _ _ _ h => h) (Or.inl ⟨by rfl, ?ry18⟩) hHeld ?rr18
              case ry18 => (intro w' hSw; (try dsimp only at hSw); go_simp; first | done | with_reducible rfl)
              case' rr18 => (try simp only [Act.put, List.setIfInBounds_toArray, List.set_cons_zero, List.set_cons_succ])
              refine wpAnyL_takeT (i := 19) (v := ?rv19) rfl (by kernel_rfl) (by kernel_rfl) (by kernel_rfl) (by kernel_rfl) (fun _ _ _ h => h) (Or.inl ⟨by rfl, ?ry19⟩) hHeld ?rr19
              case ry19 => (intro w' hSw; (try dsimp only at hSw); go_simp; first | done | with_reducible rfl)
              case' rr19 => (try simp only [Act.put, List.setIfInBounds_toArray, List.set_cons_zero, List.set_cons_succ])
              refine wpAnyL_takeT (i := 20) (v := ?rv20) rfl (by kernel_rfl) (by kernel_rfl) (by kernel_rfl) (by kernel_rfl) (fun _ _ _ h => h) (Or.inl ⟨by rfl, ?ry20⟩) hHeld ?rr20
              case ry20 => (intro w' hSw; (try dsimp only at hSw); go_simp; first | done | with_reducible rfl)
              case' rr20 => (try simp only [Act.put, List.setIfInBounds_toArray, List.set_cons_zero, List.set_cons_succ])
              refine wpAnyL_takeT (i := 21) (v := ?rv21) rfl (by kernel_rfl) (by kernel_rfl) (by kernel_rfl) (by kernel_rfl) (fun _ _ _ h => h) (Or.inl ⟨by rfl, ?ry21⟩) hHeld ?rr21
              case ry21 => (intro w' hSw; (try dsimp only at hSw); go_simp; first | done | with_reducible rfl)
              case' rr21 => (try simp only [Act.put, List.setIfInBounds_toArray, List.set_cons_zero, List.set_cons_succ])
              refine wpAnyL_takeT (i := 22) (v := ?rv22) rfl (by kernel_rfl) (by kernel_rfl) (by kernel_rfl) (by kernel_rfl) (fun _ _ _ h => h) (Or.inl ⟨by rfl, ?ry22⟩) hHeld ?rr22
              case ry22 => (intro w' hSw; (try dsimp only at hSw); go_simp; first | done | with_reducible rfl)
              case' rr22 => (try simp only [Act.put, List.setIfInBounds_toArray, List.set_cons_zero, List.set_cons_succ])
              refine wpAnyL_takeT (i := 23) (v := ?rv23) rfl (by kernel_rfl) (by kernel_rfl) (by kernel_rfl) (by kernel_rfl) (fun _ _ _ h => h) (Or.inl ⟨by rfl, ?ry23⟩) hHeld ?rr23
              case ry23 => (intro w' hSw; (try dsimp only at hSw); go_simp; first | done | with_reducible rfl)
              case' rr23 => (try simp only [Act.put, List.setIfInBounds_toArray, List.set_cons_zero, List.set_cons_succ])
              refine wpAnyL_takeT (i := 24) (v := ?rv24) rfl (by kernel_rfl) (by kernel_rfl) (by kernel_rfl) (by kernel_rfl) (fun _ _ _ h => h) (Or.inl ⟨by rfl, ?ry24⟩) hHeld ?rr24
              case ry24 => (intro w' hSw; (try dsimp only at hSw); go_simp; first | done | with_reducible rfl)
              case' rr24 => (try simp only [Act.put, List.setIfInBounds_toArray, List.set_cons_zero, List.set_cons_succ])
              refine wpAnyL_takeT (i := 25) (v := ?rv25) rfl (by kernel_rfl) (by kernel_rfl) (by kernel_rfl) (by kernel_rfl) (fun _ _ _ h => h) (Or.inl ⟨by rfl, ?ry25⟩) hHeld ?rr25
              case ry25 => (intro w' hSw; (try dsimp only at hSw); go_simp; first | done | with_reducible rfl)
              case' rr25 => (try simp only [Act.put, List.setIfInBounds_toArray, List.set_cons_zero, List.set_cons_succ])
              refine wpAnyL_takeT (i := 26) (v := ?rv26) rfl (by kernel_rfl) (by kernel_rfl) (by kernel_rfl) (by kernel_rfl) (fun _ _ _ h => h) (Or.inl ⟨by rfl, ?ry26⟩) hHeld ?rr26
              case ry26 => (intro w' hSw; (try dsimp only at hSw); go_simp; first | done | with_reducible rfl)
              case' rr26 => (try simp only [Act.put, List.setIfInBounds_toArray, List.set_cons_zero, List.set_cons_succ])
              refine wpAnyL_takeT (i := 27) (v := undef) rfl (by kernel_rfl) (by kernel_rfl) (by kernel_rfl) (by kernel_rfl) (fun _ _ _ h => h) (Or.inr ⟨by rfl, rfl⟩) hHeld ?rr27
              case' rr27 => (try simp only [Act.put, List.setIfInBounds_toArray, List.set_cons_zero, List.set_cons_succ])
              refine wpAnyL_takeT (i := 28) (v := undef) rfl (by kernel_rfl) (by kernel_rfl) (by kernel_rfl) (by kernel_rfl) (fun _ _ _ h => h) (Or.inr ⟨by rfl, rfl⟩) hHeld ?rr28
              case' rr28 => (try simp only [Act.put, List.setIfInBounds_toArray, List.set_cons_zero, List.set_cons_succ])
              refine wpAnyL_oneT (i := 29) (by kernel_rfl) rfl (fun K hK => ?_)
              go_simp
              refine hK.out _ _ (fun _ => HC.out _ hkc) ?_
              clear hK K
              try simp only [Act.put, List.setIfInBounds_toArray, List.set_cons_zero, List.set_cons_succ]
              refine wpAnyL_takeT (i := 30) (v := undef) rfl (by kernel_rfl) (by kernel_rfl) (by kernel_rfl) (by kernel_rfl) (fun _ _ _ h => h) (Or.inr ⟨by rfl, rfl⟩) hHeld ?rr30
              case' rr30 => (try simp only [Act.put, List.setIfInBounds_toArray, List.set_cons_zero, List.set_cons_succ])
              refine wpAnyL_takeT (i := 31) (v := ?rv31) rfl (by kernel_rfl) (by kernel_rfl) (by kernel_rfl) (by kernel_rfl) (fun _ _ _ h => h) (Or.inl ⟨by rfl, ?ry31⟩) hHeld ?rr31
              case ry31 => (intro w' hSw; (try dsimp only at hSw); go_simp; first | done | with_reducible rfl)
              case' rr31 => (try simp only [Act.put, List.setIfInBounds_toArray, List.set_cons_zero, List.set_cons_succ])
              refine wpAnyL_takeT (i := 32) (v := ?rv32) rfl (by kernel_rfl) (by kernel_rfl) (by kernel_rfl) (by kernel_rfl) (fun _ _ _ h => h) (Or.inl ⟨by rfl, ?ry32⟩) hHeld ?rr32
              case ry32 => (intro w' hSw; (try dsimp only at hSw); go_simp; first | done | with_reducible rfl)
              case' rr32 => (try simp only [Act.put, List.setIfInBounds_toArray, List.set_cons_zero, List.set_cons_succ])
              refine wpAnyL_takeT (i := 33) (v := ?rv33) rfl (by kernel_rfl) (by kernel_rfl) (by kernel_rfl) (by kernel_rfl) (fun _ _ _ h => h) (Or.inl ⟨by rfl, ?ry33⟩) hHeld ?rr33
              case ry33 => (intro w' hSw; (try dsimp only at hSw); go_simp; first | done | with_reducible rfl)
              case' rr33 => (try simp only [Act.put, List.setIfInBounds_toArray, List.set_cons_zero, List.set_cons_succ])
              refine wpAnyL_takeT (i := 34) (v := ?rv34) rfl (by kernel_rfl) (by kernel_rfl) (by kernel_rfl) (by kernel_rfl) (fun _ _ _ h => h) (Or.inl ⟨by rfl, ?ry34⟩) hHeld ?rr34
              case ry34 => (intro w' hSw; (try dsimp only at hSw); go_simp; first | done | with_reducible rfl)
              case' rr34 => (try simp only [Act.put, List.setIfInBounds_toArray, List.set_cons_zero, List.set_cons_succ])
              refine wpAnyL_takeT (i := 35) (v := ?rv35) rfl (by kernel_rfl) (by kernel_rfl) (by kernel_rfl) (by kernel_rfl) (fun _ _ _ h => h) (Or.inl ⟨by rfl, ?ry35⟩) hHeld ?rr35
              case ry35 => (intro w' hSw; (try dsimp only at hSw); go_simp; first | done | with_reducible rfl)
              case' rr35 => (try simp only [Act.put, List.setIfInBounds_toArray, List.set_cons_zero, List.set_cons_succ])
              refine wpAnyL_oneT (i := 36) (by kernel_rfl) rfl (fun K hK => ?_)
              go_simp
              go_at_call 17
              refine (QF.out _ hkc).mono ?_
              rintro e wd ⟨rfl, hkd⟩
              go_simp
              refine hK.out _ _ (fun _ => HC.out _ hkd) ?_
              clear hK K
              try simp only [Act.put, List.setIfInBounds_toArray, List.set_cons_zero, List.set_cons_succ]
              replace hHeld := HC.out _ hkd
              refine wpAnyL_takeT (i := 37) (v := ?rv37) rfl (by kernel_rfl) (by kernel_rfl) (by kernel_rfl) (by kernel_rfl) (fun _ _ _ h => h) (Or.inl ⟨by rfl, ?ry37⟩) hHeld ?rr37
              case ry37 => (intro w' hSw; (try dsimp only at hSw); go_simp; first | done | with_reducible rfl)
              case' rr37 => (try simp only [Act.put, List.setIfInBounds_toArray, List.set_cons_zero, List.set_cons_succ])
              refine wpAnyL_takeT (i := 38) (v := ?rv38) rfl (by kernel_rfl) (by kernel_rfl) (by kernel_rfl) (by kernel_rfl) (fun _ _ _ h => h) (Or.inl ⟨by rfl, ?ry38⟩) hHeld ?rr38
              case ry38 => (intro w' hSw; (try dsimp only at hSw); go_simp; first | done | with_reducible rfl)
              case' rr38 => (try simp only [Act.put, List.setIfInBounds_toArray, List.set_cons_zero, List.set_cons_succ])
              refine wpAnyL_takeT (i := 39) (v := ?rv39) rfl (by kernel_rfl) (by kernel_rfl) (by kernel_rfl) (by kernel_rfl) (fun _ _ _ h => h) (Or.inl ⟨by rfl, ?ry39⟩) hHeld ?rr39
              case ry39 => (intro w' hSw; (try dsimp only at hSw); go_simp; first | done | with_reducible rfl)
              case' rr39 => (try simp only [Act.put, List.setIfInBounds_toArray, List.set_cons_zero, List.set_cons_succ])
              refine wpAnyL_done (by kernel_rfl) ?_ _
              refine NoPanic.normal ?_
              have HV18 := Lib.hid (HV15.out.calm hkd)
              clear HC HV15 QF QW1 hfd heq HLG15 hkd y1 y2 y3 y4
              cases ov
              · go_wp2_with fail
                refine HV18.out.done_.mono ?_
                rintro e wq ⟨rfl, rfl⟩
                go_wp2_with fail
                obtain ⟨L', hpr⟩ := (HV18.out.less (l' := [(bf, 34, #[.int .i64 0, .int .i64 g, .int .i64 s, .int .u64 (sf.a : Int), .int .u64 (sf.b : Int)])]) (fun x hx => by simp at hx; subst hx; simp)).read
                exact ⟨⟨i' + 1, q, B0 ++ [cell], _, rfl, by omega, by simp, rfl, by omega, HBL1.out, HBC.out, g, s, sf, .inr ⟨b, cell, B0, sg', L', rfl, by omega, rfl, hpr⟩⟩, by simp [intOf]; omega⟩
              · go_wp2_with fail
                refine HV18.out.done_.mono ?_
                rintro e wq ⟨rfl, rfl⟩
                go_wp2_with fail
                obtain ⟨g', s', hfrom⟩ := HV18.out.from_
                have QF := Lib.hid (hfrom _ (Keeps.refl _ _))
                clear hfrom
                refine QF.out.mono ?_
                rintro e w19 ⟨rfl, hk19⟩
                have hid := ((HV18.out.calm hk19).less (l' := [(bf, 34, #[.int .i64 0, .int .i64 g, .int .i64 s, .int .u64 (sf.a : Int), .int .u64 (sf.b : Int)])]) (fun x hx => by simp at hx; subst hx; simp)).idle
                have e1 := hid.loc (q := bf) (t := 34) (cs := #[.int .i64 0, .int .i64 g, .int .i64 s, .int .u64 (sf.a : Int), .int .u64 (sf.b : Int)]) (by simp)
                have d0 : w19.cell? ⟨bf, 0, none⟩ = some (.int .i64 0) := (e1.cell 0).trans rfl
                have d1 : w19.cell? ⟨bf, 1, none⟩ = some (.int .i64 g) := (e1.cell 1).trans rfl
                have d2 : w19.cell? ⟨bf, 2, none⟩ = some (.int .i64 s) := (e1.cell 2).trans rfl
                have d3 : w19.cell? ⟨bf, 3, none⟩ = some (.int .u64 (sf.a : Int)) := (e1.cell 3).trans rfl
                have d4 : w19.cell? ⟨bf, 4, none⟩ = some (.int .u64 (sf.b : Int)) := (e1.cell 4).trans rfl
                have f0 := e1.frozen 0
                have f1 := e1.frozen 1
                have f2 := e1.frozen 2
                have f3 := e1.frozen 3
                have f4 := e1.frozen 4
                have HID := Lib.hid hid
                have hkf : Keeps [bf] w19 (((((w19.setCell ⟨bf, 0, none⟩ (.int .i64 0)).setCell ⟨bf, 1, none⟩ (.int .i64 g')).setCell ⟨bf, 2, none⟩ (.int .i64 s')).setCell ⟨bf, 3, none⟩ (.int .u64 (sg'.a : Int))).setCell ⟨bf, 4, none⟩ (.int .u64 (sg'.b : Int))) := (((((Keeps.refl [bf] w19).setCell (.inl (by simp)) _).setCell (.inl (by simp)) _).setCell (.inl (by simp)) _).setCell (.inl (by simp)) _).setCell (.inl (by simp)) _
                have hbf2 : Blk (((((w19.setCell ⟨bf, 0, none⟩ (.int .i64 0)).setCell ⟨bf, 1, none⟩ (.int .i64 g')).setCell ⟨bf, 2, none⟩ (.int .i64 s')).setCell ⟨bf, 3, none⟩ (.int .u64 (sg'.a : Int))).setCell ⟨bf, 4, none⟩ (.int .u64 (sg'.b : Int))) bf 34 #[.int .i64 0, .int .i64 g', .int .i64 s', .int .u64 (sg'.a : Int), .int .u64 (sg'.b : Int)] := ((((e1.set_ 0 (.int .i64 0)).set_ 1 (.int .i64 g')).set_ 2 (.int .i64 s')).set_ 3 (.int .u64 (sg'.a : Int))).set_ 4 (.int .u64 (sg'.b : Int))
                have HIF := Lib.hid (hid.put HBL.out (by decide) (by decide) hkf hbf2)
                clear hid e1 hkf hbf2 HID QF hk19
                go_wp2_with fail
                exact ⟨⟨i' + 1, q + 1, B0 ++ [cell], _, rfl, by omega, by simp, by simp, by omega, HBL1.out, HBC.out, g', s', sg', .inl ⟨rfl, HIF.out⟩⟩, by simp [intOf]; omega⟩
    · have hkk := HW.out.keep
      have HKK := Lib.hid ((HKB.out.trans hkk (by simp)).below (B := w.heap.size) (by simp) (Nat.le_refl _))
      clear hkk
      go_wp2_with fail
      go_ret
      exact ⟨rfl, HKK.out⟩

theorem own : ownKnob Try.prog.godebug = none := by kernel_rfl
theorem laidOut : laidOutB Try.prog = true := by kernel_rfl
set_option maxRecDepth 100000 in
theorem lifted (os : Os) (started : os.Started) (H : Type) (enc : TypeId × Value → H) (F : Stop.Interp) :
    ReturnsInHanded {} Try.checked os 6 .any ((Rows.OpenSpec.upto Rows.readPublishesSpec).pre6 enc Try.prog Try.f6 Rows.readPublishesUptoRow.domain false) (((Rows.OpenSpec.upto Rows.readPublishesSpec).at F).post enc Try.prog Try.f6 false true false false) := by
  refine returnsInHanded_of_cond (C := Try.checked) (s := Rows.OpenSpec.upto Rows.readPublishesSpec) (k := Rows.uptoSmall) rfl own started (by kernel_rfl) Try.func6
    (OpenSpec.witness (enc := enc) (C := Try.checked) (s := Rows.OpenSpec.upto Rows.readPublishesSpec) (k := Rows.uptoSmall) rfl false ⟨#[], #[.int .i64 0, .slice none 0 0, .slice none 0 0], []⟩ 8 (by kernel_rfl) (by kernel_rfl) (by kernel_rfl)
      (x := ([.lit (.int .i64 0), .nil, .nil], [], [])) (by kernel_rfl) rfl (by kernel_rfl)) ?_
  intro W base args ds gs before hval0 hW _ hk _
  have hval : ∀ (j : Nat) t v, Try.f6.params[j]? = some t → args[j]? = some v → Value.okWide Try.prog W .any base t v := hval0
  have hW' := hW
  obtain ⟨p, q, hA0, hV, rfl, hfz, hnd⟩ := hW
  have hA : DataW.TrodAll enc Try.prog W 0 (fun _ => true) true Try.f6.params.toList args.toList ds p := hA0
  rw [Try.params6] at hA hval
  obtain ⟨v0, vs0, d0, ds0, p0, q0, hargs, rfl, rfl, h0, r0⟩ := trodAll_cons hA
  obtain ⟨v1, vs1, d1, ds1, p1, q1, rfl, rfl, rfl, h1, r1⟩ := trodAll_cons r0
  obtain ⟨v2, vs2, d2, ds2, p2, q2, rfl, rfl, rfl, h2, r2⟩ := trodAll_cons r1
  obtain ⟨rfl, rfl, rfl⟩ := trodAll_nil r2
  obtain rfl : args = #[v0, v1, v2] := by cases args; simp_all
  obtain ⟨rfl, rfl⟩ := trodVars_none hV
  obtain ⟨a0, rfl, rfl, rfl, w0⟩ := open_int Try.underlying3 (hval 0 3 v0 rfl rfl) h0
  have k1 := h1
  have lt1 : ∀ x ∈ p1, x.block < W.heap.size := by obtain ⟨m, hm⟩ := k1; exact DataW.trod_lt m _ _ _ hm
  obtain ⟨A1, n1, c1, rfl⟩ := okWide_slice Try.underlying23 (hval 1 23 v1 rfl rfl)
  obtain ⟨fl1, hf1⟩ := h1
  obtain ⟨⟨xs1, s1⟩, z1⟩ := ints_open Try.underlying23 Try.underlying3 (by kernel_rfl) hf1
  obtain rfl := s1.1
  have k2 := h2
  have lt2 : ∀ x ∈ p2, x.block < W.heap.size := by obtain ⟨m, hm⟩ := k2; exact DataW.trod_lt m _ _ _ hm
  obtain ⟨A2, n2, c2, rfl⟩ := okWide_slice Try.underlying64 (hval 2 64 v2 rfl rfl)
  obtain ⟨l2, s2⟩ : ∃ l, LstOp W A2 n2 c2 l := by
    obtain ⟨fl2, hf2⟩ := h2
    exact lstOp_open hf2 (bulks.small hk (by simp))
  clear hA0 hval0
  refine (walk a0 A1 c1 xs1 A2 n2 c2 l2 W w0 (Slc.of_ints s1) s2).mono fun e W' ⟨he, bel⟩ => ?_
  subst he
  exact ⟨_, rfl, _, _, _, [], _, [], hW', trodAll_mk1 (shut_bool Try.underlying4 _), (trodAll_cons_mk (shut_int Try.underlying3 w0) (trodAll_cons_mk (Below.trod laidOut (by kernel_rfl) (of_decide_eq_true (by kernel_rfl)) k1 bel lt1) (trodAll_cons_mk (Below.trod laidOut (by kernel_rfl) (of_decide_eq_true (by kernel_rfl)) k2 bel lt2) trodAll_mk0))), rfl, bel.frame _, fun h => by cases h⟩

/-- The statement: the second form. -/
theorem proved : Rows.ReadPublishesUptoSaid :=
  OpenClaim.holds_of_cond 6 Try.f6 rfl rfl rfl rfl rfl rfl rfl ⟨rfl, rfl, rfl, rfl, rfl⟩ rfl rfl rfl rfl rfl (by kernel_rfl) Try.func6 (by kernel_rfl)
    (of_decide_eq_true (by kernel_rfl)) (by unfold Func.isWrapper; first | (rw [if_pos (by decide +kernel)]; kernel_rfl) | (rw [if_neg (by decide +kernel)]; exact ⟨rfl, rfl⟩))
    (fun os started H enc _ F => lifted os started H enc F)
#print axioms proved
end Go.Proofs.Ytelljfhhjapgnaa.readPublishes
