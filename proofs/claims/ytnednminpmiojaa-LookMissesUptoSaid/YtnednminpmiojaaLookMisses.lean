/- LookMisses: nobody who lives all the while is missed: the call returns true wherever what it reads is of bulk at most 1048576. -/
import Derived.Test.YtnednminpmiojaaRows
import Derived.Test.YtnednminpmiojaaMissX
import Derived.Test.YtnednminpmiojaaTailQ
import Derived.Test.YtnednminpmiojaaElMove
import Derived.Deep.QuietTactic
import Derived.BigQuiet
import Derived.StillTailTactics
import Derived.Deep.RegionHeld3
import Derived.JoinedCond
import Derived.WalkKit
import Derived.ProofKit
import Derived.OpenShut
import Derived.ShutString
import Derived.ChangeOld
import Derived.Below
import Derived.Carry
namespace Go.Proofs.Ytnednminpmiojaa.lookMisses
open Go.ChangeShapes Go.WideShapes Go.ChangeAt Go.RowKit
set_option linter.unusedVariables false
set_option linter.unusedSimpArgs false

open fd fm
theorem miss_s {wb wr : World} {z : Sb} {b : Nat} {H0 : List Hd} {W0 : List Int} {s : Sg} {sb lb a2 c2 : Nat} {stays lived sa la : Int → Bool} {R k : Nat} (h : Miss wb z b H0 W0 s sb lb a2 c2 stays lived sa la R k wr) (j : Nat) (hj : j < 8) : wr.cell? ⟨sb, j, none⟩ = some (.bool (sa j)) ∧ wr.frozen? ⟨sb, j, none⟩ = false := by
  obtain ⟨F, G, S, x, p, h1, h2, h3, h4, h5, h6, h7, h8, h9, h10, h11⟩ := h
  exact ⟨(h9.blk.cell j).trans (bools_get _ j hj), h9.blk.frozen j⟩
theorem miss_l {wb wr : World} {z : Sb} {b : Nat} {H0 : List Hd} {W0 : List Int} {s : Sg} {sb lb a2 c2 : Nat} {stays lived sa la : Int → Bool} {R k : Nat} (h : Miss wb z b H0 W0 s sb lb a2 c2 stays lived sa la R k wr) (j : Nat) (hj : j < 8) : wr.cell? ⟨lb, j, none⟩ = some (.bool (la j)) ∧ wr.frozen? ⟨lb, j, none⟩ = false := by
  obtain ⟨F, G, S, x, p, h1, h2, h3, h4, h5, h6, h7, h8, h9, h10, h11⟩ := h
  exact ⟨(h10.blk.cell j).trans (bools_get _ j hj), h10.blk.frozen j⟩
theorem and3 (n : Int) : bits .and .i64 n 3 = n % 4 := by
  have hm : (BitVec.ofInt 64 3).toNat = 2 ^ 2 - 1 := by decide
  have key : (BitVec.ofInt 64 n &&& BitVec.ofInt 64 3).toNat = (n % ((2 ^ 64 : Nat) : Int)).toNat % 2 ^ 2 := by
    rw [BitVec.toNat_and, BitVec.toNat_ofInt, hm, Nat.and_two_pow_sub_one_eq_mod]
  show IntKind.i64.wrap ((BitVec.ofInt 64 n &&& BitVec.ofInt 64 3).toNat : Nat) = n % 4
  rw [key, IntKind.wrap_i64]
  omega
set_option maxRecDepth 100000 in
set_option maxHeartbeats 16000000 in
theorem walk (sg : Sg) (A : Option Addr) (n cap : Nat) (l : List ElSeat) (A1 : Option Addr) (n1 cap1 : Nat) (ml : List ElMove) (w : World) (so : sg.ok) (hl : LstSeat w A n cap l) (hm : LstMove w A1 n1 cap1 ml) : Calls Try.prog 9 #[.agg #[.int .u64 (sg.a : Int), .int .u64 (sg.b : Int)], .slice A n cap, .slice A1 n1 cap1] w fun e w' => e = .returned (.bool true) ∧ Below w.heap.size w w' := by
  have hkb : Keeps [] w (w.alloc (.cells #[.int .u64 (sg.a : Int), .int .u64 (sg.b : Int)] 57)) := by simp
  have HL := Lib.hid (lst_keeps hl hkb)
  have HM := Lib.hid (move_keeps hm hkb)
  have hn1 := hm.2.2.1
  have hnc1 := hm.2.1
  have HB := Lib.hid (Blk.new w 57 #[.int .u64 (sg.a : Int), .int .u64 (sg.b : Int)])
  have HSO := Lib.hid so
  have HKB := Lib.hid hkb
  clear hl so hkb hm
  go_enter Try.func9, Try.ntmps9
  go_wp2_with fail
  refine (awake12 _).mono ?_
  rintro e w1 ⟨rfl, hk⟩
  obtain ⟨wb, hwb⟩ : ∃ q, w.alloc (.cells #[.int .u64 (sg.a : Int), .int .u64 (sg.b : Int)] 57) = q := ⟨_, rfl⟩
  obtain ⟨qs, hqs⟩ : ∃ q, w.heap.size = q := ⟨_, rfl⟩
  rw [hwb] at HL HM HB HKB hk
  rw [hqs] at HB ⊢
  have HK := Lib.hid hk
  clear hwb hk
  have HQS := Lib.hid hqs
  clear hqs
  go_wp2_with fail
  refine (table_any _ 8 (by decide) (by decide)).mono ?_
  rintro e w2 ⟨z, F, rfl, hs⟩
  have HSE : Hid (Seated wb w2 z (c12 8) 0) := ⟨F, Sp.new (c12 8), hs.base HK.out, Fit.new (c := c12 8) (by decide), Sp.new_wu _, rfl, GenOk.new _⟩
  clear hs HK
  go_wp2_with fail
  refine (seats_any wb w2 z 0 (c12 8) HSE.out (by decide) rfl A n cap l HL.out).mono ?_
  rintro e w3 ⟨rfl, F3, S, hs, hf, hu, hc, hgo⟩
  have hlen : S.H.length = 8 := by have := hf.slots; rw [hc] at this; exact this
  have hwl : S.W.length = 16 := by have := hf.words; omega
  have HS := Lib.hid hs
  have HF := Lib.hid hf
  have HU := Lib.hid hu
  have HGO := Lib.hid hgo
  have HLN := Lib.hid (And.intro hlen hwl)
  have hb3 := HB.out.keeps hs.keep (by simp)
  obtain ⟨s0, s1⟩ : w3.cell? ⟨qs, 0, none⟩ = some (.int .u64 (sg.a : Int)) ∧ w3.cell? ⟨qs, 1, none⟩ = some (.int .u64 (sg.b : Int)) := ⟨(hb3.cell 0).trans rfl, (hb3.cell 1).trans rfl⟩
  clear hs hf hu hc hgo hlen hwl HSE hb3
  go_wp2_with fail
  refine (sp_slots HS.out).mono ?_
  rintro e wq ⟨rfl, rfl⟩
  go_wp2_with fail
  have hq : Calls Try.prog 42 #[PT z.p, .int .i64 0, .agg #[.int .u64 (sg.a : Int), .int .u64 (sg.b : Int)]] w3 fun e w' => ∃ b G, e = .returned (.tuple #[PT b, .int .i64 0]) ∧ LK wb w' z F3 b G (Lk.new S.H.length 0 sg) ∧ (∀ q, q ∈ G → w3.heap.size ≤ q) ∧ Keeps [] w3 w' := lk_new HS.out HF.out sg 0 (by decide) (by rw [HLN.out.1]; decide)
  rw [HLN.out.1] at hq
  refine hq.mono ?_
  rintro e w4 ⟨b, G, rfl, hlk, hg, hk⟩
  replace HS := Lib.hid (HS.out.calm hk)
  have HLK := Lib.hid hlk
  clear hlk hg hk hq s0 s1
  go_wp2_with fail
  have hq : Calls Try.prog 17 #[PT z.p] w4 fun e w' => ∃ a1 c1 a2 c2 : Nat, e = .returned (.agg #[.slice (some ⟨a1, 0, none⟩) S.cells.length c1, .int .i64 S.gate.number, .int .i64 S.gate.owner, .slice (some ⟨a2, 0, none⟩) 8 c2]) ∧ w'.ownsRow 0 59 8 (.slice (some ⟨a2, 0, none⟩) 8 c2) 8 (slC S.H S.W) ∧ w4.heap.size ≤ a2 ∧ Keeps [] w4 w' := (sp_view HS.out HF.out).mono fun e w' ⟨a1, c1, a2, c2, he, h1, h2, h3, h4, h5⟩ => by
    rw [HLN.out.1] at h2
    rw [HLN.out.1] at he
    exact ⟨a1, c1, a2, c2, he, h2, h4, h5⟩
  refine hq.mono ?_
  rintro e w5 ⟨a1, c1, a2, c2, rfl, ho2, hl2, hk⟩
  have hro : RO w5 (G ++ F3) 59 8 (.slice (some ⟨a2, 0, none⟩) 8 c2) 8 (slC S.H S.W) := RO.mk_ (w := w4) (own_base ho2 (fun q hq => by simp [Value.ownBlock] at hq; omega)) (fun q hq => by
    rw [List.mem_append] at hq
    rcases hq with hq | hq
    · exact HLK.out.apt.lt q hq
    · exact HS.out.lt q hq)
  have HRO := Lib.hid hro
  replace HS := Lib.hid (HS.out.calm hk)
  replace HLK := Lib.hid (HLK.out.calm hk)
  have hfld := fld (.slice (some ⟨a1, 0, none⟩) S.cells.length c1) (.int .i64 S.gate.number) (.int .i64 S.gate.owner) (.slice (some ⟨a2, 0, none⟩) 8 c2) w5
  clear hq ho2 hl2 hk hro
  go_wp2_with fail
  clear hfld
  obtain ⟨f, hf⟩ : ∃ f, st0 S.H S.W sg = f := ⟨_, rfl⟩
  obtain ⟨g, hg⟩ : ∃ g, lv0 S.H = g := ⟨_, rfl⟩
  have hfj : ∀ j : Nat, 1 ≤ j → f j = (live (hd S.H j) && fd.mt S.W sg j) := fun j hj => by rw [← hf]; unfold st0; rw [decide_eq_true (by omega), Bool.true_and]
  have hgj : ∀ j : Nat, 1 ≤ j → g j = ((hd S.H j).state == 2) := fun j hj => by rw [← hg]; unfold lv0; rw [decide_eq_true (by omega), Bool.true_and]
  have hb0 : ∀ u : Int → Bool, u 0 = false → bools (upto 1 u) = #[.bool false, .bool false, .bool false, .bool false, .bool false, .bool false, .bool false, .bool false] := fun u hu => by simp [bools, upto, hu]
  have e0 := hb0 f (by rw [← hf]; rfl)
  have e1 := hb0 g (by rw [← hg]; rfl)
  have h1 : Blk ((w5.alloc (.cells #[.bool false, .bool false, .bool false, .bool false, .bool false, .bool false, .bool false, .bool false] 73)).alloc (.cells #[.bool false, .bool false, .bool false, .bool false, .bool false, .bool false, .bool false, .bool false] 73)) w5.heap.size 73 (bools (upto 1 f)) := by rw [e0]; exact (Blk.new _ _ _).alloc _
  have h2 : Blk ((w5.alloc (.cells #[.bool false, .bool false, .bool false, .bool false, .bool false, .bool false, .bool false, .bool false] 73)).alloc (.cells #[.bool false, .bool false, .bool false, .bool false, .bool false, .bool false, .bool false, .bool false] 73)) (w5.heap.size + 1) 73 (bools (upto 1 g)) := by rw [e1]; exact new_at _ _ _ (by simp)
  have h3 : Keeps [] w5 ((w5.alloc (.cells #[.bool false, .bool false, .bool false, .bool false, .bool false, .bool false, .bool false, .bool false] 73)).alloc (.cells #[.bool false, .bool false, .bool false, .bool false, .bool false, .bool false, .bool false, .bool false] 73)) := by simp
  obtain ⟨w7, hw7⟩ : ∃ q, (w5.alloc (.cells #[.bool false, .bool false, .bool false, .bool false, .bool false, .bool false, .bool false, .bool false] 73)).alloc (.cells #[.bool false, .bool false, .bool false, .bool false, .bool false, .bool false, .bool false, .bool false] 73) = q := ⟨_, rfl⟩
  obtain ⟨sb, hsb⟩ : ∃ q, w5.heap.size = q := ⟨_, rfl⟩
  rw [hw7] at h1 h2 h3
  rw [hsb] at h1 h2
  have H1 := Lib.hid h1
  have H2 := Lib.hid h2
  have H3 := Lib.hid h3
  have HSB := Lib.hid hsb
  have HFG := Lib.hid (And.intro hf hg)
  have HFJ := Lib.hid hfj
  have HGJ := Lib.hid hgj
  clear e0 e1 hb0 h1 h2 h3 hf hg hfj hgj
  rw [hw7, hsb]
  clear hw7 hsb
  go_loopw [16] (fun i wr => ∃ j : Nat, 1 ≤ j ∧ j ≤ 8 ∧ i = .int .i64 j ∧ Blk wr sb 73 (bools (upto j f)) ∧ Blk wr (sb + 1) 73 (bools (upto j g)) ∧ Keeps [sb, sb + 1] w7 wr) (fun i _ => 8 - (intOf i).toNat)
  case atStart => exact ⟨1, Nat.le_refl _, by decide, rfl, H1.out, H2.out, Keeps.refl _ _⟩
  case round =>
    obtain ⟨j, j1, j8, rfl, hb1, hb2, hk⟩ := hrel
    have HB1 := Lib.hid hb1
    have HB2 := Lib.hid hb2
    have HK := Lib.hid hk
    clear hb1 hb2 hk
    by_cases hlt : (j : Int) < 8
    · have q0 : (0 : Int) ≤ (j : Int) := by omega
      have hj8 : j < 8 := by omega
      have hoff : ∀ q, q < sb → q ∉ [sb, sb + 1] := fun q hq hx => by simp at hx; omega
      have hc : ∀ i u, (slC S.H S.W)[i]? = some u → wr.cell? ⟨a2, i, none⟩ = some u := fun i u hu => by
        have hi := (List.getElem?_eq_some_iff.1 hu).1
        rw [slC_len (by have := HLN.out; omega)] at hi
        have ho := own_keeps (own_keeps HRO.out.own H3.out (by simp)) HK.out (fun q hq => hoff q (by rw [← HSB.out]; exact own_lt HRO.out.own hq))
        exact (ho.cellAt i (by have := HLN.out.1; omega)).trans hu
      obtain ⟨_, m1, _, _, m4, _, m6, m7⟩ := slC_get S.H S.W j (by have := HLN.out; omega) (by have := HLN.out; omega)
      have b1 := hc _ _ m1
      have b4 := hc _ _ m4
      have b6 := hc _ _ m6
      have b7 := hc _ _ m7
      have hb := (HB.out.keeps (HS.out.keep.trans H3.out (by simp)) (by simp)).keeps HK.out (hoff qs (by have h1 := HB.out.lt; have h2 := HS.out.keep.size; have h3 := HSB.out; omega))
      obtain ⟨s0, s1⟩ : wr.cell? ⟨qs, 0, none⟩ = some (.int .u64 (sg.a : Int)) ∧ wr.cell? ⟨qs, 1, none⟩ = some (.int .u64 (sg.b : Int)) := ⟨(hb.cell 0).trans rfl, (hb.cell 1).trans rfl⟩
      have x1 : wr.cell? ⟨sb, j, none⟩ = some (.bool (upto j f j)) := (HB1.out.cell j).trans (bools_get _ j hj8)
      have x2 : wr.cell? ⟨sb + 1, j, none⟩ = some (.bool (upto j g j)) := (HB2.out.cell j).trans (bools_get _ j hj8)
      have y1 := HB1.out.frozen j
      have y2 := HB2.out.frozen j
      have nsb : sb ≠ sb + 1 := by omega
      have nsb2 : sb + 1 ≠ sb := by omega
      have na2 : a2 ≠ sb := by have h1 := own_lt HRO.out.own (k := a2) rfl; have h2 := HSB.out; omega
      obtain ⟨m0, hm0, hm0'⟩ := wd_u HU.out j 0
      obtain ⟨m1', hm1, hm1'⟩ := wd_u HU.out j 1
      have hmt : fd.mt S.W sg j = !(((m0 &&& sg.a : Nat) : Int) == 0 && ((m1' &&& sg.b : Nat) : Int) == 0) := by unfold fd.mt sgOf Sg.meet Sg.none; simp [hm0, hm1]
      rw [hm0] at b6
      rw [hm1] at b7
      have r0 := bits_and_u64_nat m0 sg.a hm0' HSO.out.1
      have r1 := bits_and_u64_nat m1' sg.b hm1' HSO.out.2
      obtain ⟨P, hP⟩ : ∃ P, m0 &&& sg.a = P := ⟨_, rfl⟩
      obtain ⟨Q, hQ⟩ : ∃ Q, m1' &&& sg.b = Q := ⟨_, rfl⟩
      rw [hP] at r0 hmt
      rw [hQ] at r1 hmt
      obtain ⟨x, hx⟩ : ∃ x, hd S.H (j : Int) = x := ⟨_, rfl⟩
      rw [hx] at b1 b4
      have hfe := HFJ.out j j1
      have hge := HGJ.out j j1
      rw [hx, hmt] at hfe
      rw [hx] at hge
      have HFE := Lib.hid hfe
      have HGE := Lib.hid hge
      clear hc m1 m4 m6 m7 hb hm0 hm1 hmt hP hQ hx hfe hge hm0' hm1' hoff
      have fin : ∀ (B1 B2 : Bool) (w9 : World), f j = B1 → g j = B2 → w9 = (wr.drew.setCell ⟨sb, j, none⟩ (.bool B1)).setCell ⟨sb + 1, j, none⟩ (.bool B2) → Hid (Blk w9 sb 73 (bools (upto (j + 1) f)) ∧ Blk w9 (sb + 1) 73 (bools (upto (j + 1) g)) ∧ Keeps [sb, sb + 1] w7 w9) := fun B1 B2 w9 e1 e2 e3 => by
        subst e3
        refine ⟨?_, ?_, ?_⟩
        · rw [← upto_set f j hj8, e1]
          exact ((HB1.out.drew).set_ j (.bool B1)).far (p := ⟨sb + 1, j, none⟩) (by show sb ≠ sb + 1; omega) _
        · rw [← upto_set g j hj8, e2]
          exact ((HB2.out.drew).far (p := ⟨sb, j, none⟩) (by show sb + 1 ≠ sb; omega) _).set_ j (.bool B2)
        · exact (HK.out.drew.setCell (.inl (by simp)) _).setCell (.inl (by simp)) _
      have FIN := Lib.hid fin
      clear fin
      by_cases e1 : x.state = 2
      · have e2 : (x.state == 2) = true := by simp [e1]
        have HG1 : Hid (g j = true) := by unfold Hid; rw [HGE.out]; exact e2
        cases e4 : x.doomed
        · have HF0 : Hid (f j = !((P : Int) == 0 && (Q : Int) == 0)) := by unfold Hid; rw [HFE.out]; unfold live; rw [e2, e4]; rfl
          rw [e4] at b4
          clear e1 e4
          by_cases p0 : P = 0
          · by_cases p1 : Q = 0
            · subst p0 p1
              have HF1 : Hid (f j = false) := by unfold Hid; rw [HF0.out]; rfl
              go_wp2_with fail
              refine wp_region_tail_q 42 (by kernel_rfl) (by kernel_rfl) ?_
              simp only [List.take_succ_cons, List.take_zero, List.drop_succ_cons, List.drop_zero]
              repeat (go_big_quiet_step (fail))
              refine wpQuiet_nil ?_
              change wpList _ _ _ _ _ wr.drew
              go_wp2_with fail
              have h9 := FIN.out false true _ HF1.out HG1.out rfl
              exact ⟨⟨j + 1, by omega, by omega, by simp, h9.out.1, h9.out.2.1, h9.out.2.2⟩, by simp [intOf]; omega⟩
            · have hq1 : ((Q : Int) != 0) = true := by simp [p1]
              have hq2 : ((Q : Int) == 0) = false := by simp [p1]
              have HF1 : Hid (f j = true) := by unfold Hid; rw [HF0.out, hq2]; simp
              subst p0
              clear p1
              go_wp2_with fail
              refine wp_region_tail_q 42 (by kernel_rfl) (by kernel_rfl) ?_
              simp only [List.take_succ_cons, List.take_zero, List.drop_succ_cons, List.drop_zero]
              repeat (go_big_quiet_step (fail))
              refine wpQuiet_nil ?_
              change wpList _ _ _ _ _ wr.drew
              go_wp2_with fail
              have h9 := FIN.out true true _ HF1.out HG1.out rfl
              exact ⟨⟨j + 1, by omega, by omega, by simp, h9.out.1, h9.out.2.1, h9.out.2.2⟩, by simp [intOf]; omega⟩
          · have hq1 : ((P : Int) != 0) = true := by simp [p0]
            have hq2 : ((P : Int) == 0) = false := by simp [p0]
            have HF1 : Hid (f j = true) := by unfold Hid; rw [HF0.out, hq2]; simp
            clear p0
            go_wp2_with fail
            refine wp_region_tail_q 42 (by kernel_rfl) (by kernel_rfl) ?_
            simp only [List.take_succ_cons, List.take_zero, List.drop_succ_cons, List.drop_zero]
            repeat (go_big_quiet_step (fail))
            refine wpQuiet_nil ?_
            change wpList _ _ _ _ _ wr.drew
            go_wp2_with fail
            have h9 := FIN.out true true _ HF1.out HG1.out rfl
            exact ⟨⟨j + 1, by omega, by omega, by simp, h9.out.1, h9.out.2.1, h9.out.2.2⟩, by simp [intOf]; omega⟩
        · have HF1 : Hid (f j = false) := by unfold Hid; rw [HFE.out]; unfold live; rw [e4]; simp
          rw [e4] at b4
          clear e1 e4
          go_wp2_with fail
          refine wp_region_tail_q 42 (by kernel_rfl) (by kernel_rfl) ?_
          simp only [List.take_succ_cons, List.take_zero, List.drop_succ_cons, List.drop_zero]
          repeat (go_big_quiet_step (fail))
          refine wpQuiet_nil ?_
          change wpList _ _ _ _ _ wr.drew
          go_wp2_with fail
          have h9 := FIN.out false true _ HF1.out HG1.out rfl
          exact ⟨⟨j + 1, by omega, by omega, by simp, h9.out.1, h9.out.2.1, h9.out.2.2⟩, by simp [intOf]; omega⟩
      · have e2 : (x.state == 2) = false := by simp [e1]
        have HG1 : Hid (g j = false) := by unfold Hid; rw [HGE.out]; exact e2
        have HF1 : Hid (f j = false) := by unfold Hid; rw [HFE.out]; unfold live; rw [e2]; rfl
        clear e1
        go_wp2_with fail
        refine wp_region_tail_q 42 (by kernel_rfl) (by kernel_rfl) ?_
        simp only [List.take_succ_cons, List.take_zero, List.drop_succ_cons, List.drop_zero]
        repeat (go_big_quiet_step (fail))
        refine wpQuiet_nil ?_
        change wpList _ _ _ _ _ wr.drew
        go_wp2_with fail
        have h9 := FIN.out false false _ HF1.out HG1.out rfl
        exact ⟨⟨j + 1, by omega, by omega, by simp, h9.out.1, h9.out.2.1, h9.out.2.2⟩, by simp [intOf]; omega⟩
    · obtain ⟨w8b, hw8⟩ : ∃ q, q = wr := ⟨_, rfl⟩
      subst hw8
      have hj8' : j = 8 := by omega
      rw [hj8'] at HB1 HB2
      have hms : Miss wb z b S.H S.W sg sb (sb + 1) a2 c2 (st0 S.H S.W sg) (lv0 S.H) f g 21 40 w8b := Miss.start HS.out HF.out HU.out HGO.out HLN.out.1 HLN.out.2 HSO.out HLK.out HRO.out H3.out HSB.out H1.out H2.out HK.out ((upto_all f) ▸ HB1.out) ((upto_all g) ▸ HB2.out)
      rw [HFG.out.1, HFG.out.2] at hms
      have HMS0 := Lib.hid hms
      have hlo : Hid (wb.heap.size ≤ sb) := by have := HS.out.keep.size; have := HSB.out; unfold Hid; omega
      have hn48 : n1 ≤ 1048576 := hn1
      clear hms HB1 HB2 HK H1 H2 H3 HFJ HGJ HB HLK HQS HRO hj8'
      go_wp2_with fail
      go_loopw [17] (fun i wr => ∃ (i' R k : Nat) (st lv : Int → Bool), i' ≤ n1 + 40 ∧ i = .int .i64 i' ∧ Miss wb z b S.H S.W sg sb (sb + 1) a2 c2 st lv st lv R k wr ∧ k ≤ 40 + 2 * i' ∧ R ≤ 21 ∧ (n1 ≤ i' → R + (i' - n1) ≤ 21)) (fun i _ => n1 + 40 - (intOf i).toNat)
      case atStart => exact ⟨0, 21, 40, f, g, Nat.zero_le _, rfl, HMS0.out, by omega, by omega, by omega⟩
      case round =>
        obtain ⟨i', R, k, st, lv, hi', rfl, hms, hk, hR, hRi⟩ := hrel
        have HMS := Lib.hid hms
        have hadd : IntKind.i64.wrap ((n1 : Int) + 40) = (n1 : Int) + 40 := by rw [IntKind.wrap_i64]; omega
        have hlt : (i' : Int) < (n1 : Int) + 40 := by omega
        have hwi : IntKind.i64.wrap ((i' : Int) + 1) = (i' : Int) + 1 := by rw [IntKind.wrap_i64]; omega
        clear hms HMS0
        by_cases hR0 : R = 0
        · have hd := HMS.out.done_
          rw [show (R == 0) = true by simp [hR0]] at hd
          have QD := Lib.hid hd
          clear hd
          obtain ⟨w8c, hw8⟩ : ∃ q, q = wr := ⟨_, rfl⟩
          subst hw8
          obtain ⟨F', G', S', x, p, m1, m2, m3, m4, m5, m6, m7, m8, m9, m10, m11⟩ := HMS.out
          have ht : x.turns.isEmpty = true := by rw [rem_zero m6, m8, hR0]; rfl
          obtain ⟨fv, fa⟩ := m6.fin (List.isEmpty_iff.1 ht)
          have hpw := m6.pair
          obtain ⟨tv, wv', vv, ha, hG⟩ := m4.ex
          have hvl : x.victims.length ≤ 1099511627776 := by have := m5.vs; omega
          have hvi := lk_victims ha hvl
          have hdn := fun w' (hk : Keeps [sb] w8c w') => lk_done (ha.keeps hk (fun q hq hx => by
            simp at hx; subst hx
            exact m9.off (by rw [hG]; simp [hq])))
          rw [ht] at hdn
          obtain ⟨vs, hvs⟩ : ∃ q, x.victims = q := ⟨_, rfl⟩
          rw [hvs] at fv fa hpw hvl hvi
          have QV := Lib.hid hvi
          have QDn : Hid (∀ w', Keeps [sb] w8c w' → Calls Try.prog 43 #[PT b] w' fun e w'' => e = .returned (.bool true) ∧ w' = w'') := hdn
          have FV := Lib.hid fv
          have FA := Lib.hid fa
          have HPW := Lib.hid hpw
          have B1 := Lib.hid m9.blk
          have B2 := Lib.hid m10.blk
          have R0 := Lib.hid m11.own
          have KE := Lib.hid (HKB.out.trans m1.keep (by simp))
          have HLO := Lib.hid hlo
          have hvl2 : vs.length ≤ 1099511627776 := hvl
          clear m1 m2 m3 m4 m5 m6 m7 m8 m9 m10 m11 ht fv fa hpw ha hG hvi hdn hvs HMS hlt hlo hvl
          go_wp2_with fail
          refine QD.out.mono ?_
          rintro e wq ⟨rfl, rfl⟩
          go_wp2_with fail
          refine QV.out.mono ?_
          rintro e w6 ⟨v6, rfl, ho6, hk6⟩
          obtain ⟨A6, c6, rfl⟩ := own_form ho6
          have HO6 : Hid (w6.ownsRow 0 101 4 (.slice A6 vs.length c6) vs.length (vcCells vs)) := own_base ho6 (fun _ _ => Nat.zero_le _)
          have hs0 : Blk w6 sb 73 (bools (rest st vs 0)) := by rw [rest_zero]; exact B1.out.keeps hk6 (by simp)
          have HS0 := Lib.hid hs0
          have HK6 := Lib.hid hk6
          clear ho6 hk6 hs0 QV QD
          go_wp2_with fail
          go_loopw [23, 24] (fun la i wr => ∃ i3 : Nat, i3 ≤ vs.length ∧ i = .int .i64 i3 ∧ la = .int .i64 (last vs i3) ∧ Blk wr sb 73 (bools (rest st vs i3)) ∧ Keeps [sb] w6 wr) (fun _ i _ => vs.length - (intOf i).toNat)
          case atStart => exact ⟨0, Nat.zero_le _, rfl, rfl, HS0.out, Keeps.refl _ _⟩
          case round =>
            obtain ⟨i3, hi3, rfl, rfl, hb3, hk3⟩ := hrel
            have HB3 := Lib.hid hb3
            have HK3 := Lib.hid hk3
            clear hb3 hk3 HS0
            by_cases hlt3 : (i3 : Int) < (vs.length : Int)
            · have q0 : (0 : Int) ≤ (i3 : Int) := by omega
              obtain ⟨v, hv⟩ : ∃ v, vs[i3]? = some v := ⟨_, List.getElem?_eq_getElem (by omega)⟩
              obtain ⟨v1, v8, vl, vg, vst⟩ := FV.out v (List.mem_of_getElem? hv)
              have hla := last_lt HPW.out hv v1
              obtain ⟨sn, hsn⟩ : ∃ sn : Nat, v.slot = sn := ⟨v.slot.toNat, by omega⟩
              have hK8 : Keeps [sb] w8c wr := (HK6.out.mono (by simp)).trans HK3.out (by simp)
              have hown := own_keeps HO6.out HK3.out (fun q hq hx => by
                simp at hx; subst hx
                have e1 := own_tyOf HO6.out (k := q) hq
                rw [(B1.out.keeps HK6.out (by simp)).tyOf] at e1
                revert e1; decide)
              obtain ⟨gw, cw, ew, hgwl, hkw⟩ := vc_cells hown rfl (by omega)
              injection ew with ew1 _ ew2
              subst ew1 ew2
              obtain ⟨t0, t1, t2, t3⟩ := hkw i3 v hv
              rw [hsn] at t0 v1 v8 hla vl vst
              have hgn : gw ≠ wr.heap.size := by omega
              have hb2 := B2.out.keeps hK8 (by simp)
              have hkA : Keeps [] wr (wr.alloc (.cells #[.int .i64 (sn : Int), .int .i64 v.gen, .int .i64 v.stamp, .int .i64 v.thread] 101)) := by simp
              have hb2A := hb2.keeps hkA (by simp)
              have hb3A := HB3.out.keeps hkA (by simp)
              have HB3A := Lib.hid hb3A
              have x2 : (wr.alloc (.cells #[.int .i64 (sn : Int), .int .i64 v.gen, .int .i64 v.stamp, .int .i64 v.thread] 101)).cell? ⟨sb + 1, sn, none⟩ = some (.bool true) := ((hb2A.cell sn).trans (bools_get _ sn (by omega))).trans (by rw [vl])
              have x1 : (wr.alloc (.cells #[.int .i64 (sn : Int), .int .i64 v.gen, .int .i64 v.stamp, .int .i64 v.thread] 101)).cell? ⟨sb, sn, none⟩ = some (.bool (rest st vs i3 sn)) := (hb3A.cell sn).trans (bools_get _ sn (by omega))
              have y1 := hb3A.frozen sn
              have nsb : sb ≠ wr.heap.size := by have := HB3.out.lt; omega
              have nsb2 : sb + 1 ≠ wr.heap.size := by have := hb2.lt; omega
              have hro := own_keeps R0.out hK8 (fun q hq hx => by
                simp at hx; subst hx
                have e1 := own_tyOf R0.out (k := q) hq
                rw [B1.out.tyOf] at e1
                revert e1; decide)
              obtain ⟨r0, _⟩ := slC_get S.H S.W sn (by have := HLN.out; omega) (by have := HLN.out; omega)
              have rl := (List.getElem?_eq_some_iff.1 r0).1
              rw [slC_len (by have := HLN.out; omega)] at rl
              have b0 := ((own_keeps hro hkA (by simp)).cellAt (sn * 8) (by have := HLN.out.1; omega)).trans r0
              have na2 : a2 ≠ wr.heap.size := by have := own_lt hro (k := a2) rfl; omega
              have hw3 : IntKind.i64.wrap ((i3 : Int) + 1) = (i3 : Int) + 1 := by rw [IntKind.wrap_i64]; omega
              have s0 : (0 : Int) ≤ (sn : Int) := by omega
              have s8 : (sn : Int) < 8 := by omega
              have c1 : decide ((sn : Int) ≤ last vs i3) = false := decide_eq_false (by omega)
              have c2' : decide ((7 : Int) < (sn : Int)) = false := decide_eq_false (by omega)
              have c3 : decide (v.gen < 1) = false := decide_eq_false (by omega)
              obtain ⟨la, hlae⟩ : ∃ la, last vs i3 = la := ⟨_, rfl⟩
              rw [hlae] at c1
              have HV := Lib.hid hv
              have HSN := Lib.hid hsn
              have HVST := Lib.hid vst
              clear hv v1 v8 vl vg vst hla hown hkw hb2 hro r0 rl hK8 hsn hgwl hkA hb2A hb3A
              obtain ⟨rs, hrs⟩ : ∃ q, rest st vs i3 (sn : Int) = q := ⟨_, rfl⟩
              rw [hrs] at x1
              rw [hlae]
              have FIN3 : Hid (∀ N, Blk (((wr.alloc (.cells #[.int .i64 (sn : Int), .int .i64 v.gen, .int .i64 v.stamp, .int .i64 v.thread] 101)).drewN N).setCell ⟨sb, sn, none⟩ (.bool false)) sb 73 (bools (rest st vs (i3 + 1))) ∧ Keeps [sb] w6 (((wr.alloc (.cells #[.int .i64 (sn : Int), .int .i64 v.gen, .int .i64 v.stamp, .int .i64 v.thread] 101)).drewN N).setCell ⟨sb, sn, none⟩ (.bool false))) := fun N => by
                refine ⟨?_, (HK3.out.alloc _).drewN N |>.setCell (.inl (by simp)) _⟩
                have e1 := (HB3A.out.keeps ((Keeps.refl [] _).drewN N) (by simp)).set_ sn (.bool false)
                rw [bools_set _ sn (by omega)] at e1
                rw [rest_next HV.out, HSN.out]
                exact e1
              cases rs
              · clear hrs hlae
                go_wp2_with fail
                go_quiet (fail)
                go_wp2_with fail
                exact ⟨⟨i3 + 1, by omega, by simp, by rw [last_next HV.out, HSN.out], (FIN3.out nq).1, (FIN3.out nq).2⟩, by simp [intOf]; omega⟩
              · have hge : (hd S.H (sn : Int)).gen = v.gen := (HVST.out (by have := hrs; unfold rest at this; simp only [Bool.and_eq_true] at this; exact this.1)).symm
                rw [hge] at b0
                have c4 : (v.gen != v.gen) = false := by simp
                clear hrs hlae hge
                go_wp2_with fail
                go_quiet (fail)
                go_wp2_with fail
                exact ⟨⟨i3 + 1, by omega, by simp, by rw [last_next HV.out, HSN.out], (FIN3.out nq).1, (FIN3.out nq).2⟩, by simp [intOf]; omega⟩
            · obtain ⟨w10, hw10⟩ : ∃ q, q = wr := ⟨_, rfl⟩
              subst hw10
              have he3 : i3 = vs.length := by omega
              have hb := HB3.out
              rw [he3] at hb
              have HB4 := Lib.hid hb
              clear hb he3
              go_wp2_with fail
              go_loopw [26] (fun i wr => ∃ q : Nat, 1 ≤ q ∧ q ≤ 8 ∧ i = .int .i64 q ∧ Keeps [] w10 wr) (fun i _ => 8 - (intOf i).toNat)
              case atStart => exact ⟨1, Nat.le_refl _, by decide, rfl, Keeps.refl _ _⟩
              case round =>
                obtain ⟨q, q1, q8, rfl, hk4⟩ := hrel
                have HK4 := Lib.hid hk4
                clear hk4
                by_cases hlt4 : (q : Int) < 8
                · have q0 : (0 : Int) ≤ (q : Int) := by omega
                  have x1 : wr.cell? ⟨sb, q, none⟩ = some (.bool false) := (((HB4.out.keeps HK4.out (by simp)).cell q).trans (bools_get _ q (by omega))).trans (by rw [rest_all (FA.out q (by omega) hlt4)])
                  have hw4 : IntKind.i64.wrap ((q : Int) + 1) = (q : Int) + 1 := by rw [IntKind.wrap_i64]; omega
                  go_wp2_with fail
                  exact ⟨⟨q + 1, by omega, by omega, by simp, HK4.out⟩, by simp [intOf]; omega⟩
                · have hKE : Keeps [sb] w8c wr := ((HK6.out.mono (by simp)).trans HK3.out (by simp)).trans HK4.out (by simp)
                  have Q1 := Lib.hid (QDn.out wr hKE)
                  have HKF : Hid (Keeps [] w wr) := KE.out.trans hKE (fun y hy => by
                    simp at hy
                    have h1 := HKB.out.size; have h2 : wb.heap.size ≤ sb := HLO.out
                    exact .inr (by omega))
                  clear hKE
                  go_wp2_with fail
                  refine Q1.out.mono ?_
                  rintro e wq ⟨rfl, rfl⟩
                  go_wp2_with fail
                  go_ret
                  exact ⟨rfl, HKF.out.below (by simp) (Nat.le_refl _)⟩
        · have hd := HMS.out.done_
          rw [show (R == 0) = false by simp [hR0]] at hd
          have QD := Lib.hid hd
          have QS := Lib.hid (HMS.out.step hR0 (by omega))
          clear hd
          by_cases hge : (n1 : Int) ≤ (i' : Int)
          · go_wp2_with fail
            refine QD.out.mono ?_
            rintro e wq ⟨rfl, rfl⟩
            go_wp2_with fail
            refine QS.out.mono ?_
            rintro e w9 ⟨a, R', rfl, hR', hms⟩
            go_wp2_with fail
            exact ⟨⟨i' + 1, R', k + 1, st, lv, by omega, by simp, hms, by omega, by omega, by omega⟩, by simp [intOf]; omega⟩
          · have q0 : (0 : Int) ≤ (i' : Int) := by omega
            have hlt2 : (i' : Int) < (n1 : Int) := by omega
            obtain ⟨gb, off, p, rfl, hp, hat⟩ := HM.out.at_ (k := i') (by omega)
            obtain ⟨t0, t1, t2, t3, wk, ws, wx⟩ := hat wr HMS.out.keep
            have HAT := Lib.hid hat
            have HWX := Lib.hid wx
            clear hat hp wk ws wx
            cases hpg : p.go
            · rw [hpg] at t0
              have m7 := i64_and7 p.slot
              obtain ⟨q7, hq7, q7l⟩ : ∃ q : Nat, p.slot % 8 = q ∧ q < 8 := ⟨(p.slot % 8).toNat, by omega, by omega⟩
              rw [hq7] at m7
              obtain ⟨m, hm, m7l⟩ : ∃ m : Nat, q7 % 7 = m ∧ m < 7 := ⟨_, rfl, Nat.mod_lt _ (by decide)⟩
              have m77 : Int.tmod (q7 : Int) 7 = (m : Int) := by rw [Int.tmod_eq_emod_of_nonneg (by omega)]; omega
              obtain ⟨at', hat', at1, at8⟩ : ∃ u : Nat, IntKind.i64.wrap (1 + (m : Int)) = (u : Int) ∧ 1 ≤ u ∧ u < 8 := ⟨1 + m, by rw [IntKind.wrap_i64]; omega, by omega, by omega⟩
              have a0 : (0 : Int) ≤ (at' : Int) := by omega
              have a8 : (at' : Int) < 8 := by omega
              clear hq7 hm
              have QN := Lib.hid HMS.out.now
              go_wp2_with fail
              refine QD.out.mono ?_
              rintro e wq ⟨rfl, rfl⟩
              go_wp2_with fail
              refine QN.out.mono ?_
              rintro e w9 ⟨ga, gc, Hn, Wn, rfl, hon, hnl, hnw, hkn⟩
              have hw2 : Wn.length = 2 * Hn.length := by omega
              obtain ⟨n0, n1', n2, n3, n4, n5, _, _⟩ := slC_get Hn Wn at' hw2 (by omega)
              have hll := slC_len hw2
              rw [hnl] at hll
              have hc : ∀ i u, (slC Hn Wn)[i]? = some u → w9.cell? ⟨ga, i, none⟩ = some u := fun i u hu => by
                have hi := (List.getElem?_eq_some_iff.1 hu).1
                rw [hll] at hi
                exact (hon.cellAt i (by omega)).trans hu
              obtain ⟨x, hx⟩ : ∃ x, hd Hn (at' : Int) = x := ⟨_, rfl⟩
              rw [hx] at n0 n1' n2 n3 n4 n5
              have b0 := hc _ _ n0
              have b1 := hc _ _ n1'
              have b2 := hc _ _ n2
              have b3 := hc _ _ n3
              have b4 := hc _ _ n4
              have b5 := hc _ _ n5
              have hgl : ga < w9.heap.size := World.block_lt_of_cell? w9 _ b0
              have hgn : ga ≠ w9.heap.size := by omega
              obtain ⟨t0', t1', t2', t3', _, _, _⟩ := HAT.out w9 (HMS.out.keep.trans hkn (by simp))
              have HM9 := Lib.hid (HMS.out.calm hkn)
              have gl : gb < w9.heap.size := World.block_lt_of_cell? w9 _ t1'
              have gn : gb ≠ w9.heap.size := by omega
              have hka : Keeps [] w9 (w9.alloc (.cells #[.int .i64 x.gen, .int .i64 x.state, .int .i64 x.stamp, .int .i64 x.thread, .bool x.doomed, .int .i64 x.who] 54)) := by simp
              have MA := Lib.hid (HM9.out.calm hka)
              have k3 := and3 p.kind
              clear hc n0 n1' n2 n3 n4 n5 hll hw2 hon hnl hnw hkn hx QN QS QD t0 t1 t2 t3 HMS t0' hka
              rcases (by omega : p.kind % 4 = 0 ∨ p.kind % 4 = 1 ∨ p.kind % 4 = 2 ∨ p.kind % 4 = 3) with hk4 | hk4 | hk4 | hk4
              · rw [hk4] at k3
                clear hk4
                have hcl := MA.out.free (by omega) (i := at') (by omega) x.gen
                have QF := Lib.hid hcl
                clear hcl
                go_wp2_with fail
                refine QF.out.mono ?_
                rintro e w6 ⟨a, rfl, hms⟩
                obtain ⟨s0, s1⟩ := miss_s hms at' at8
                have HM6 := Lib.hid (hms.put_s hlo.out (by omega) at' at8 false)
                clear hms MA HM9
                go_wp2_with fail
                exact ⟨⟨i' + 1, R, k + 1, fm.off st at', lv, by omega, by simp, HM6.out, by omega, by omega, by omega⟩, by simp [intOf]; omega⟩
              · rw [hk4] at k3
                clear hk4
                have hcl := MA.out.claim (by omega) (i := at') (by omega) (by omega) 3
                have QF := Lib.hid hcl
                clear hcl
                go_wp2_with fail
                refine QF.out.mono ?_
                rintro e w6 ⟨a, c, rfl, hms⟩
                have HM6 := Lib.hid hms
                clear hms MA HM9
                go_wp2_with fail
                exact ⟨⟨i' + 1, R, k + 1, st, lv, by omega, by simp, HM6.out, by omega, by omega, by omega⟩, by simp [intOf]; omega⟩
              · rw [hk4] at k3
                clear hk4
                have hcl := MA.out.ready (by omega) (i := at') (by omega) (by omega) x.gen 5
                have QF := Lib.hid hcl
                clear hcl
                go_wp2_with fail
                refine QF.out.mono ?_
                rintro e w6 ⟨a, rfl, hms⟩
                obtain ⟨s0, s1⟩ := miss_l hms at' at8
                have HM6 := Lib.hid (hms.put_l (by have := hlo.out; omega) (by omega) at' at8 true)
                clear hms MA HM9
                go_wp2_with fail
                exact ⟨⟨i' + 1, R, k + 1, st, fm.on lv at', by omega, by simp, HM6.out, by omega, by omega, by omega⟩, by simp [intOf]; omega⟩
              · rw [hk4] at k3
                clear hk4
                obtain ⟨X, hX, hX8⟩ := wf_u64 HWX.out
                rw [hX] at t3'
                have hX' := hX
                have hx1 := bits_and_u64_nat X 1 hX8 (by decide)
                obtain ⟨jn, hjn, jn2⟩ : ∃ jn : Nat, X &&& 1 = jn ∧ jn < 2 := ⟨_, rfl, by have : X &&& 1 ≤ 1 := Nat.and_le_right; omega⟩
                rw [hjn] at hx1
                have hx2 : bits .and .u64 (X : Int) 1 = (jn : Int) := hx1
                have hcw : IntKind.i64.wrap (jn : Int) = (jn : Int) := by rw [IntKind.wrap_i64]; omega
                have hcv : wrap64 (jn : Int) = (jn : Int) := by unfold wrap64; omega
                have hcl := MA.out.word (by omega) (i := at') (j := jn) (by omega) jn2
                have QF := Lib.hid hcl
                have HJ := Lib.hid (And.intro jn2 hX8)
                have HAT8 := Lib.hid at8
                clear hcl hX hjn hx1 jn2 hX8
                go_wp2_with fail
                refine QF.out.mono ?_
                rintro e w6 ⟨m, rfl, hm8, hmw⟩
                have HW : Hid (MissWd wb z b S.H S.W sg sb (sb + 1) a2 c2 st lv st lv R (k + 1) at' jn m w6) := hmw
                obtain ⟨_, _, _, y3, _, _, _⟩ := HAT.out w6 HW.out.keep
                rw [hX'] at y3
                have hor := bits_or_u64_nat m X hm8 HJ.out.2
                obtain ⟨V, hV⟩ : ∃ V, m ||| X = V := ⟨_, rfl⟩
                have QP := Lib.hid (fun w' (hk : Keeps [] w6 w') => (HW.out.calm hk).put (by omega) HAT8.out HJ.out.1 hm8 HJ.out.2)
                rw [hV] at hor
                have HV := Lib.hid hV
                clear hmw QF MA HM9 hV t1' t2' t3' b0 b1 b2 b3 b4 b5
                go_wp2_with fail
                have HC := Lib.hid (show ∀ w', Keeps [] w6 w' → w'.cell? ⟨gb, off + i' * 4 + 3, none⟩ = some (.int .u64 (X : Int)) from fun w' hk => by
                  obtain ⟨_, _, _, d3, _, _, _⟩ := HAT.out w' (HW.out.keep.trans hk (by simp))
                  rw [hX'] at d3
                  exact d3)
                have hkB : Keeps [] w6 w6 := Keeps.refl _ _
                have QPV : Hid (∀ w' (jv Vv : Int), Keeps [] w6 w' → jv = (jn : Int) → Vv = (V : Int) → Calls Try.prog 33 #[PT z.t.q, .int .i64 at', .int .i64 jv, .int .u64 Vv] w' fun e w'' => ∃ a : Int, e = .returned (.int .i64 a) ∧ Miss wb z b S.H S.W sg sb (sb + 1) a2 c2 st lv st lv R (k + 1 + 1) w'') := fun w' jv Vv hk h1 h2 => by
                  have := QP.out w' hk
                  rw [HV.out] at this
                  rw [h1, h2]
                  exact this
                clear QP
                go_region_held3 (fun w' => w'.cell? ⟨gb, off + i' * 4 + 3, none⟩ = some (.int .u64 (X : Int))) (first | with_reducible exact HC.out _ (by first | assumption | exact Keeps.drew (by assumption)) | exact d3 | go_keep) ((first
                  | (go_at_call 33; refine (QPV.out _ _ _ (by first | assumption | exact Keeps.drew (by assumption)) (by first | exact hcw | rfl) (by first | exact rfl | exact hor)).mono ?_; rintro e w7 ⟨a, rfl, hms⟩; obtain ⟨_, _, _, d3, _, _, _⟩ := HAT.out w7 hms.keep; rw [hX'] at d3; have HM6 := Lib.hid hms; clear hms)))
                go_wp2_with fail
                exact ⟨⟨i' + 1, R, k + 1 + 1, st, lv, by omega, by simp, HM6.out, by omega, by omega, by omega⟩, by simp [intOf]; omega⟩
            · rw [hpg] at t0
              go_wp2_with fail
              refine QD.out.mono ?_
              rintro e wq ⟨rfl, rfl⟩
              go_wp2_with fail
              refine QS.out.mono ?_
              rintro e w9 ⟨a, R', rfl, hR', hms⟩
              go_wp2_with fail
              exact ⟨⟨i' + 1, R', k + 1, st, lv, by omega, by simp, hms, by omega, by omega, by omega⟩, by simp [intOf]; omega⟩

theorem own : ownKnob Try.prog.godebug = none := by kernel_rfl
theorem laidOut : laidOutB Try.prog = true := by kernel_rfl
set_option maxRecDepth 100000 in
theorem lifted (os : Os) (started : os.Started) (H : Type) (enc : TypeId × Value → H) (F : Stop.Interp) :
    ReturnsInHanded {} Try.checked os 9 .any ((Rows.OpenSpec.upto Rows.lookMissesSpec).pre6 enc Try.prog Try.f9 Rows.lookMissesUptoRow.domain false) (((Rows.OpenSpec.upto Rows.lookMissesSpec).at F).post enc Try.prog Try.f9 false true false false) := by
  refine returnsInHanded_of_cond (C := Try.checked) (s := Rows.OpenSpec.upto Rows.lookMissesSpec) (k := Rows.uptoSmall) rfl own started (by kernel_rfl) Try.func9
    (OpenSpec.witness (enc := enc) (C := Try.checked) (s := Rows.OpenSpec.upto Rows.lookMissesSpec) (k := Rows.uptoSmall) rfl false ⟨#[], #[.agg #[.int .u64 0, .int .u64 0], .slice none 0 0, .slice none 0 0], []⟩ 8 (by kernel_rfl) (by kernel_rfl) (by kernel_rfl)
      (x := ([.agg [.lit (.int .u64 0), .lit (.int .u64 0)], .nil, .nil], [], [])) (by kernel_rfl) rfl (by kernel_rfl)) ?_
  intro W base args ds gs before hval0 hW _ hk _
  have hval : ∀ (j : Nat) t v, Try.f9.params[j]? = some t → args[j]? = some v → Value.okWide Try.prog W .any base t v := hval0
  have hW' := hW
  obtain ⟨p, q, hA0, hV, rfl, hfz, hnd⟩ := hW
  have hA : DataW.TrodAll enc Try.prog W 0 (fun _ => true) true Try.f9.params.toList args.toList ds p := hA0
  rw [Try.params9] at hA hval
  obtain ⟨v0, vs0, d0, ds0, p0, q0, hargs, rfl, rfl, h0, r0⟩ := trodAll_cons hA
  obtain ⟨v1, vs1, d1, ds1, p1, q1, rfl, rfl, rfl, h1, r1⟩ := trodAll_cons r0
  obtain ⟨v2, vs2, d2, ds2, p2, q2, rfl, rfl, rfl, h2, r2⟩ := trodAll_cons r1
  obtain ⟨rfl, rfl, rfl⟩ := trodAll_nil r2
  obtain rfl : args = #[v0, v1, v2] := by cases args; simp_all
  obtain ⟨rfl, rfl⟩ := trodVars_none hV
  have k0 := h0
  have lt0 : ∀ x ∈ p0, x.block < W.heap.size := by obtain ⟨m, hm⟩ := k0; exact DataW.trod_lt m _ _ _ hm
  obtain ⟨sg0, rfl, so0⟩ := sig_open (hval 0 57 v0 rfl rfl) h0
  have k1 := h1
  have lt1 : ∀ x ∈ p1, x.block < W.heap.size := by obtain ⟨m, hm⟩ := k1; exact DataW.trod_lt m _ _ _ hm
  obtain ⟨A1, n1, c1, rfl⟩ := okWide_slice Try.underlying92 (hval 1 92 v1 rfl rfl)
  obtain ⟨fl1, hf1⟩ := h1
  obtain ⟨l1, s1⟩ := lstSeat_open hf1
  have k2 := h2
  have lt2 : ∀ x ∈ p2, x.block < W.heap.size := by obtain ⟨m, hm⟩ := k2; exact DataW.trod_lt m _ _ _ hm
  obtain ⟨A2, n2, c2, rfl⟩ := okWide_slice Try.underlying108 (hval 2 108 v2 rfl rfl)
  obtain ⟨l2, s2⟩ : ∃ l, LstMove W A2 n2 c2 l := by
    obtain ⟨fl2, hf2⟩ := h2
    exact lstMove_open hf2 (bulks.small hk (by simp))
  clear hA0 hval0
  refine (walk sg0 A1 n1 c1 l1 A2 n2 c2 l2 W so0 s1 s2).mono fun e W' ⟨he, bel⟩ => ?_
  subst he
  exact ⟨_, rfl, _, _, _, [], _, [], hW', trodAll_mk1 (shut_bool Try.underlying4 _), (trodAll_cons_mk (Below.trod laidOut (by kernel_rfl) (of_decide_eq_true (by kernel_rfl)) k0 bel lt0) (trodAll_cons_mk (Below.trod laidOut (by kernel_rfl) (of_decide_eq_true (by kernel_rfl)) k1 bel lt1) (trodAll_cons_mk (Below.trod laidOut (by kernel_rfl) (of_decide_eq_true (by kernel_rfl)) k2 bel lt2) trodAll_mk0))), rfl, bel.frame _, fun h => by cases h⟩

/-- The statement: the second form. -/
theorem proved : Rows.LookMissesUptoSaid :=
  OpenClaim.holds_of_cond 9 Try.f9 rfl rfl rfl rfl rfl rfl rfl ⟨rfl, rfl, rfl, rfl, rfl⟩ rfl rfl rfl rfl rfl (by kernel_rfl) Try.func9 (by kernel_rfl)
    (of_decide_eq_true (by kernel_rfl)) (by unfold Func.isWrapper; first | (rw [if_pos (by decide +kernel)]; kernel_rfl) | (rw [if_neg (by decide +kernel)]; exact ⟨rfl, rfl⟩))
    (fun os started H enc _ F => lifted os started H enc F)
#print axioms proved
end Go.Proofs.Ytnednminpmiojaa.lookMisses
