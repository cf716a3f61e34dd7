/- SlotsWords: a word is what was put there last: the call returns true wherever what it reads is of bulk at most 1048576. -/
import Derived.Test.YtdkbdlhfhmgenaaRows
import Derived.Test.YtdkbdlhfhmgenaaSlotsRaw
import Derived.Test.YtdkbdlhfhmgenaaScript6
import Derived.Test.YtdkbdlhfhmgenaaSlc
import Derived.Deep.DeepCutAuto
import Derived.Deep.QuietTactic
import Derived.BigQuiet
import Derived.Deep.CutBlock
import Derived.JoinedCond
import Derived.WalkKit
import Derived.ProofKit
import Derived.OpenShut
import Derived.ShutString
import Derived.ChangeOld
import Derived.Below
import Derived.Carry
namespace Go.Proofs.Ytdkbdlhfhmgenaa.slotsWords
open Go.ChangeShapes Go.WideShapes Go.ChangeAt Go.RowKit
set_option linter.unusedVariables false


theorem range_keeps {S : List Nat} {w w' : World} {a o : Nat} {cs : List Value} (h : w.rangeAt a o cs) (hk : Keeps S w w') (ha : a ∉ S) : w'.rangeAt a o cs := fun j v hv => by
  have h1 := h j v hv
  exact (keeps_cell hk (World.block_lt_of_cell? w _ h1) ha).trans h1
/-- The words that were put, in block z. -/
def WArr (w : World) (z : Nat) (W : List Int) : Prop := Blk w z 72 (W.map (Value.int .u64)).toArray
theorem WArr.cell {w : World} {z : Nat} {W : List Int} (h : WArr w z W) {k : Nat} {x : Int} (hx : W[k]? = some x) : w.cell? ⟨z, k, none⟩ = some (.int .u64 x) := (Blk.cell h k).trans (by simp [hx])
theorem WArr.set {w : World} {z : Nat} {W : List Int} (h : WArr w z W) (k : Nat) (x : Int) : WArr (w.setCell ⟨z, k, none⟩ (.int .u64 x)) z (W.set k x) := by
  have h1 := Blk.set_ h k (.int .u64 x)
  unfold WArr
  simpa using h1
theorem gens_next {k : Nat} {H : List Hd} (h : Gens k H) : Gens (k + 1) H := fun j x hx => by have := h j x hx; omega
set_option maxRecDepth 100000 in
set_option maxHeartbeats 8000000 in
theorem walk (A : Option Addr) (n c : Nat) (ops : List Op6) (w : World) (hs : Script6 w A n c ops) :
    Calls Try.prog 7 #[.slice A n c] w fun e w' => e = .returned (.bool true) ∧ Below w.heap.size w w' := by
  have HSC := Lib.hid hs
  have hn := hs.2.2.1
  have hni : (n : Int) ≤ 1048576 := by omega
  clear hs
  go_enter Try.func7, Try.ntmps7
  go_wp2_with fail
  refine (awake6 _).mono ?_
  rintro e w1 ⟨rfl, hk1⟩
  have HK1 := Lib.hid hk1
  clear hk1
  go_wp2_with fail
  refine (ts_new w1 w1 (Keeps.refl _ _) 8 (by omega) (by omega)).mono ?_
  rintro e w2 ⟨t, rfl, hs, hk, hd⟩
  have HS := Lib.hid hs
  have HG : Hid (Gens 0 (List.replicate 8 Hd.zero)) := fun j x hx => by
    rw [List.getElem?_replicate] at hx
    split at hx
    · injection hx with hx; subst hx; exact ⟨by decide, by decide⟩
    · cases hx
  clear hs hk hd
  go_wp2_with fail
  have ht := HS.out.tab.lt
  have hz := HS.out.keep.size
  have ZD : Hid (w1.heap.size ≤ w2.heap.size ∧ w2.heap.size ≠ t.q ∧ w2.heap.size ≠ t.r ∧ w2.heap.size ≠ t.b ∧ w2.heap.size ≠ t.s ∧ w2.heap.size ≠ t.c) := by unfold Hid; omega
  have HS2 := Lib.hid (HS.out.calm ((Keeps.refl [] w2).alloc (.cells #[.int .u64 0, .int .u64 0, .int .u64 0, .int .u64 0, .int .u64 0, .int .u64 0, .int .u64 0, .int .u64 0, .int .u64 0, .int .u64 0, .int .u64 0, .int .u64 0, .int .u64 0, .int .u64 0, .int .u64 0, .int .u64 0] 72)))
  have HA := Lib.hid (show WArr (w2.alloc (.cells #[.int .u64 0, .int .u64 0, .int .u64 0, .int .u64 0, .int .u64 0, .int .u64 0, .int .u64 0, .int .u64 0, .int .u64 0, .int .u64 0, .int .u64 0, .int .u64 0, .int .u64 0, .int .u64 0, .int .u64 0, .int .u64 0] 72)) w2.heap.size (List.replicate (8 * 2) 0) from Blk.new _ _ _)
  clear ht hz
  go_loopw [7] (fun i wr => ∃ (k : Nat) (H : List Hd) (W : List Int), k ≤ n ∧ i = .int .i64 k ∧ TS w1 wr t H W ∧ Gens k H ∧ H.length = 8 ∧ WArr wr w2.heap.size W) (fun i _ => n - (intOf i).toNat)
  case atStart => exact ⟨0, _, _, Nat.zero_le _, rfl, HS2.out, HG.out, by simp, HA.out⟩
  case round =>
    obtain ⟨k, H, W, hk, rfl, hts, hg, hl, har⟩ := hrel
    have KW := Lib.hid (HK1.out.trans hts.keep (by simp))
    have hwl : W.length = 16 := by have := hts.tab.len; omega
    by_cases hlt : k < n
    · obtain ⟨ab, off, p, rfl, hp, hcell⟩ := HSC.out.at_ hlt
      have hop := hcell wr (KW.out.below (by simp) (Nat.le_refl _))
      have c0 := hop.c0
      have c1 := hop.c1
      have c2 := hop.c2
      have c3 := hop.c3
      have c4 := hop.c4
      have c5 := hop.c5
      clear hop hcell hp
      have k0 : (0 : Int) ≤ (k : Int) := by omega
      have k1 : (k : Int) < (n : Int) := by omega
      have kb : k + 1 ≤ 1048576 := by omega
      obtain ⟨po, kd, sl, gn, pn, px⟩ := p
      simp only at c0 c1 c2 c3 c4 c5
      have hb7 := i64_and7 sl
      obtain ⟨s, hsq⟩ : ∃ s : Nat, sl % 8 = s := ⟨(sl % 8).toNat, by omega⟩
      rw [hsq] at hb7
      have hs8 : s < 8 := by omega
      have hs0 : (0 : Int) ≤ (s : Int) := by omega
      have hsi : (s : Int) < 8 := by omega
      have hp7 := i64_and7 pn
      have hp1 := i64_and1 pn
      obtain ⟨p7, e7⟩ : ∃ p7 : Int, pn % 8 = p7 := ⟨_, rfl⟩
      obtain ⟨p1, e1⟩ : ∃ p1 : Nat, pn % 2 = p1 := ⟨(pn % 2).toNat, by omega⟩
      have t1 : 1 ≤ 1 + p7 := by omega
      have t2 : 1 + p7 ≤ 8 := by omega
      have t5 : p1 < 2 := by omega
      have t6 : (0 : Int) ≤ (p1 : Int) := by omega
      have t7 : (p1 : Int) < 2 := by omega
      rw [e7] at hp7
      rw [e1] at hp1
      clear hsq e7 e1
      go_upto_block 2 with fail
      have bo := Blk.new wr 58 #[.bool po, .int .i64 kd, .int .i64 sl, .int .i64 gn, .int .i64 pn, .int .u64 px]
      have d1 : (wr.alloc (.cells #[.bool po, .int .i64 kd, .int .i64 sl, .int .i64 gn, .int .i64 pn, .int .u64 px] 58)).cell? ⟨wr.heap.size, 1, none⟩ = some (.int .i64 kd) := (bo.cell 1).trans rfl
      have d3 : (wr.alloc (.cells #[.bool po, .int .i64 kd, .int .i64 sl, .int .i64 gn, .int .i64 pn, .int .u64 px] 58)).cell? ⟨wr.heap.size, 3, none⟩ = some (.int .i64 gn) := (bo.cell 3).trans rfl
      have d4 : (wr.alloc (.cells #[.bool po, .int .i64 kd, .int .i64 sl, .int .i64 gn, .int .i64 pn, .int .u64 px] 58)).cell? ⟨wr.heap.size, 4, none⟩ = some (.int .i64 pn) := (bo.cell 4).trans rfl
      have d5 : (wr.alloc (.cells #[.bool po, .int .i64 kd, .int .i64 sl, .int .i64 gn, .int .i64 pn, .int .u64 px] 58)).cell? ⟨wr.heap.size, 5, none⟩ = some (.int .u64 px) := (bo.cell 5).trans rfl
      have kB : Keeps [] wr (wr.alloc (.cells #[.bool po, .int .i64 kd, .int .i64 sl, .int .i64 gn, .int .i64 pn, .int .u64 px] 58)) := (Keeps.refl _ _).alloc _
      have TB := Lib.hid (hts.calm kB)
      have AB := Lib.hid (show WArr (wr.alloc (.cells #[.bool po, .int .i64 kd, .int .i64 sl, .int .i64 gn, .int .i64 pn, .int .u64 px] 58)) w2.heap.size W from Blk.keeps har kB (by simp))
      have BO := Lib.hid bo
      have GB := Lib.hid hg
      have LB := Lib.hid hl
      have LW := Lib.hid hwl
      have ZO : Hid (wr.heap.size ≠ t.b ∧ wr.heap.size ≠ t.c ∧ wr.heap.size ≠ w2.heap.size) := by have h1 := hts.tab.lt; have h2 := Blk.lt har; unfold Hid; omega
      generalize hwB : wr.alloc (.cells #[.bool po, .int .i64 kd, .int .i64 sl, .int .i64 gn, .int .i64 pn, .int .u64 px] 58) = wB at *
      clear hwB bo kB hts har hg hl hwl c0 c1 c2 c3 c4 c5
      go_cut [] (fun wx => ∃ H' W', TS w1 wx t H' W' ∧ Gens (k + 1) H' ∧ H'.length = 8 ∧ W'.length = 16 ∧ WArr wx w2.heap.size W')
      case first =>
        by_cases k2 : kd = 2
        · subst k2
          as_aux_lemma =>
            go_wp2_with fail
            refine (ts_claim_raw TB.out GB.out (by omega : k ≤ 4611686018427387904) (by have := LB.out; omega : s < H.length) (1 + p7)).mono ?_
            rintro e w4 ⟨_, _, H2, rfl, hs4, hm4, hk4⟩
            have hr4 : WArr w4 w2.heap.size W := Blk.keeps AB.out hk4 (by have := ZD.out; simp; omega)
            have HS4 := Lib.hid hs4
            have HM4 := Lib.hid hm4
            have HR4 := Lib.hid hr4
            clear hs4 hm4 hk4 hr4
            go_wp2_with fail
            go_meet
            exact ⟨H2, W, HS4.out, HM4.out.gens, HM4.out.len.trans LB.out, LW.out, HR4.out⟩
        · have n2 : (kd == 2) = false := by simpa using k2
          by_cases k3 : kd = 3
          · subst k3
            as_aux_lemma =>
              go_wp2_with fail
              refine (ts_ready_raw TB.out GB.out (by omega : k ≤ 4611686018427387904) (by have := LB.out; omega : s < H.length) gn 1).mono ?_
              rintro e w4 ⟨_, H2, rfl, hs4, hm4, hk4⟩
              have hr4 : WArr w4 w2.heap.size W := Blk.keeps AB.out hk4 (by have := ZD.out; simp; omega)
              have HS4 := Lib.hid hs4
              have HM4 := Lib.hid hm4
              have HR4 := Lib.hid hr4
              clear hs4 hm4 hk4 hr4
              go_wp2_with fail
              go_meet
              exact ⟨H2, W, HS4.out, HM4.out.gens, HM4.out.len.trans LB.out, LW.out, HR4.out⟩
          · have n3 : (kd == 3) = false := by simpa using k3
            by_cases k5 : kd = 5
            · subst k5
              as_aux_lemma =>
                go_wp2_with fail
                refine (ts_doom_raw TB.out GB.out (by omega : k ≤ 4611686018427387904) (by have := LB.out; omega : s < H.length) gn 1).mono ?_
                rintro e w4 ⟨_, H2, rfl, hs4, hm4, hk4⟩
                have hr4 : WArr w4 w2.heap.size W := Blk.keeps AB.out hk4 (by have := ZD.out; simp; omega)
                have HS4 := Lib.hid hs4
                have HM4 := Lib.hid hm4
                have HR4 := Lib.hid hr4
                clear hs4 hm4 hk4 hr4
                go_wp2_with fail
                go_meet
                exact ⟨H2, W, HS4.out, HM4.out.gens, HM4.out.len.trans LB.out, LW.out, HR4.out⟩
            · have n5 : (kd == 5) = false := by simpa using k5
              by_cases k6 : kd = 6
              · subst k6
                as_aux_lemma =>
                  go_wp2_with fail
                  refine (ts_free_raw TB.out GB.out (by omega : k ≤ 4611686018427387904) (by have := LB.out; omega : s < H.length) gn).mono ?_
                  rintro e w4 ⟨_, H2, rfl, hs4, hm4, hk4⟩
                  have hr4 : WArr w4 w2.heap.size W := Blk.keeps AB.out hk4 (by have := ZD.out; simp; omega)
                  have HS4 := Lib.hid hs4
                  have HM4 := Lib.hid hm4
                  have HR4 := Lib.hid hr4
                  clear hs4 hm4 hk4 hr4
                  go_wp2_with fail
                  go_meet
                  exact ⟨H2, W, HS4.out, HM4.out.gens, HM4.out.len.trans LB.out, LW.out, HR4.out⟩
              · have n6 : (kd == 6) = false := by simpa using k6
                as_aux_lemma =>
                  have QP := Lib.hid (TB.out.step (slots_put wB t none H W TB.out.tab 0 MS.zero (met0 _) room0 s p1 ⟨by have := LB.out; omega, t5⟩ px))
                  obtain ⟨x0, hx0⟩ : ∃ x, W[s * 2 + p1]? = some x := ⟨_, List.getElem?_eq_getElem (by have := LW.out; omega)⟩
                  go_wp2_with fail
                  refine QP.out.mono ?_
                  rintro e w4 ⟨rfl, hs4, hk4⟩
                  have hr4 : WArr w4 w2.heap.size W := Blk.keeps AB.out hk4 (by have := ZD.out; simp; omega)
                  have bo4 := BO.out.keeps hk4 (by have := ZO.out; simp; omega)
                  have f4 : w4.cell? ⟨wr.heap.size, 4, none⟩ = some (.int .i64 pn) := (bo4.cell 4).trans rfl
                  have f5 : w4.cell? ⟨wr.heap.size, 5, none⟩ = some (.int .u64 px) := (bo4.cell 5).trans rfl
                  have g1 : w4.cell? ⟨w2.heap.size, s * 2 + p1, none⟩ = some (.int .u64 x0) := hr4.cell hx0
                  have g2 : w4.frozen? ⟨w2.heap.size, s * 2 + p1, none⟩ = false := Blk.frozen hr4 _
                  have HS4 := Lib.hid hs4
                  have HR4 := Lib.hid hr4
                  clear hs4 hk4 hr4 bo4 QP hx0
                  go_wp2_with fail
                  go_region
                  go_wp2_with fail
                  go_meet
                  have kf : Keeps [w2.heap.size] w4 (w4.setCell ⟨w2.heap.size, s * 2 + p1, none⟩ (.int .u64 px)).drew := ((Keeps.refl _ _).setCell (.inl (by simp)) _).drew
                  have hwz : WArr (w4.setCell ⟨w2.heap.size, s * 2 + p1, none⟩ (.int .u64 px)).drew w2.heap.size (W.set (2 * s + p1) px) := by rw [Nat.mul_comm 2 s]; exact HR4.out.set _ _
                  exact ⟨H, W.set (2 * s + p1) px, HS4.out.far kf (fun z hz => by simp at hz; subst hz; exact ZD.out), gens_next GB.out, LB.out, by simpa using LW.out, hwz⟩
      case rest =>
        obtain ⟨H', W', hs5, hg5, hl5, hw5, ha5⟩ := hcut
        have HS5 := Lib.hid hs5
        have HG5 := Lib.hid hg5
        have HL5 := Lib.hid hl5
        obtain ⟨xa, hxa⟩ : ∃ x, W'[2 * s + 0]? = some x := ⟨_, List.getElem?_eq_getElem (by omega)⟩
        obtain ⟨xb, hxb⟩ : ∃ x, W'[2 * s + 1]? = some x := ⟨_, List.getElem?_eq_getElem (by omega)⟩
        have HXA := Lib.hid hxa
        have HXB := Lib.hid hxb
        have QA := Lib.hid (hs5.step (slots_word wc t none H' W' hs5.tab 0 MS.zero (met0 _) room0 s 0 (by omega) xa hxa))
        have HA5 := Lib.hid ha5
        clear hs5 hg5 hl5 hw5 ha5 hxa hxb d1 d3 d4 d5
        go_wp2_with fail
        refine QA.out.mono ?_
        rintro e w6 ⟨rfl, hs6, hk6⟩
        have QB := Lib.hid (hs6.step (slots_word w6 t none H' W' hs6.tab 0 MS.zero (met0 _) room0 s 1 (by have := HL5.out; omega) xb HXB.out))
        have ha6 : WArr w6 w2.heap.size W' := Blk.keeps HA5.out hk6 (by have := ZD.out; simp; omega)
        clear hs6 hk6 QA
        go_wp2_with fail
        refine QB.out.mono ?_
        rintro e w7 ⟨rfl, hs7, hk7⟩
        have ha7 : WArr w7 w2.heap.size W' := Blk.keeps ha6 hk7 (by have := ZD.out; simp; omega)
        have x1 : w7.cell? ⟨w2.heap.size, s * 2, none⟩ = some (.int .u64 xa) := ha7.cell (by rw [Nat.mul_comm]; exact HXA.out)
        have x2 : w7.cell? ⟨w2.heap.size, s * 2 + 1, none⟩ = some (.int .u64 xb) := ha7.cell (by rw [Nat.mul_comm]; exact HXB.out)
        have HS7 := Lib.hid hs7
        have HA7 := Lib.hid ha7
        clear hs7 hk7 ha6 ha7 QB
        as_aux_lemma =>
          go_wp2_with fail
          exact ⟨⟨k + 1, H', W', by omega, by simp, HS7.out, HG5.out, HL5.out, HA7.out⟩, by simp [intOf]; omega⟩
    · have hge : ¬ ((k : Int) < (n : Int)) := by omega
      have HTS2 := Lib.hid hts
      have HAR := Lib.hid har
      have HL := Lib.hid hl
      have HW := Lib.hid hwl
      clear hts har hg hwl
      go_wp2_with fail
      refine (ts_now HTS2.out).mono ?_
      rintro e w8 ⟨a2, c2, he, hs8, hna, hr8, hk8⟩
      rw [HL.out] at he
      subst he
      have HS8 := Lib.hid hs8
      have R2 := Lib.hid hr8
      have HA8 := Lib.hid (show WArr w8 w2.heap.size W from Blk.keeps HAR.out hk8 (by simp))
      clear hs8 hna hr8 hk8 hl
      go_wp2_with fail
      go_loopw [16] (fun i wr => ∃ r : Nat, r ≤ 8 ∧ i = .int .i64 r ∧ Keeps [] w8 wr) (fun i _ => 8 - (intOf i).toNat)
      case atStart => exact ⟨0, Nat.zero_le _, rfl, Keeps.refl _ _⟩
      case round =>
        obtain ⟨r, hr, rfl, hkr⟩ := hrel
        by_cases hlt3 : r < 8
        · have r0 : (0 : Int) ≤ (r : Int) := by omega
          have r1 : (r : Int) < 8 := by omega
          have hlh := HL.out
          have hlw := HW.out
          obtain ⟨x, hx⟩ : ∃ x, H[r]? = some x := ⟨_, List.getElem?_eq_getElem (by omega)⟩
          obtain ⟨ya, hya⟩ : ∃ a, W[2 * r]? = some a := ⟨_, List.getElem?_eq_getElem (by omega)⟩
          obtain ⟨yb, hyb⟩ : ∃ a, W[2 * r + 1]? = some a := ⟨_, List.getElem?_eq_getElem (by omega)⟩
          have hy1 := slL_get H W r x ya yb hx hya hyb
          have e1 := range_keeps (R2.out r _ hy1) hkr (by simp)
          have ha9 : WArr wr w2.heap.size W := Blk.keeps HA8.out hkr (by simp)
          have x6 : wr.cell? ⟨a2, r * 8 + 6, none⟩ = some (.int .u64 ya) := e1 6 _ rfl
          have x7 : wr.cell? ⟨a2, r * 8 + 6 + 1, none⟩ = some (.int .u64 yb) := e1 7 _ rfl
          have x8 : wr.cell? ⟨a2, r * 8 + 7, none⟩ = some (.int .u64 yb) := e1 7 _ rfl
          have y1 : wr.cell? ⟨w2.heap.size, r * 2, none⟩ = some (.int .u64 ya) := ha9.cell (by rw [Nat.mul_comm]; exact hya)
          have y2 : wr.cell? ⟨w2.heap.size, r * 2 + 1, none⟩ = some (.int .u64 yb) := ha9.cell (by rw [Nat.mul_comm]; exact hyb)
          have he := fun w => sig_same10 w ya yb
          clear e1 ha9 hy1 hx hya hyb hlh hlw
          as_aux_lemma =>
            go_wp2_with fail
            go_quiet (fail)
            go_wp2_with fail
            exact ⟨⟨r + 1, by omega, by simp, hkr.trans ((Keeps.refl [] _).drewN _) (by simp)⟩, by simp [intOf]; omega⟩
        · have hge3 : ¬ ((r : Int) < 8) := by omega
          go_wp2_with fail
          go_ret
          exact ⟨rfl, ((HK1.out.trans HS8.out.keep (by simp)).trans hkr (by simp)).below (by simp) (Nat.le_refl _)⟩

theorem own : ownKnob Try.prog.godebug = none := by kernel_rfl
theorem laidOut : laidOutB Try.prog = true := by kernel_rfl
set_option maxRecDepth 100000 in
theorem lifted (os : Os) (started : os.Started) (H : Type) (enc : TypeId × Value → H) (F : Stop.Interp) :
    ReturnsInHanded {} Try.checked os 7 .any ((Rows.OpenSpec.upto Rows.slotsWordsSpec).pre6 enc Try.prog Try.f7 Rows.slotsWordsUptoRow.domain false) (((Rows.OpenSpec.upto Rows.slotsWordsSpec).at F).post enc Try.prog Try.f7 false true false false) := by
  refine returnsInHanded_of_cond (C := Try.checked) (s := Rows.OpenSpec.upto Rows.slotsWordsSpec) (k := Rows.uptoSmall) rfl own started (by kernel_rfl) Try.func7
    (OpenSpec.witness (enc := enc) (C := Try.checked) (s := Rows.OpenSpec.upto Rows.slotsWordsSpec) (k := Rows.uptoSmall) rfl false ⟨#[], #[.slice none 0 0], []⟩ 8 (by kernel_rfl) (by kernel_rfl) (by kernel_rfl)
      (x := ([.nil], [], [])) (by kernel_rfl) rfl (by kernel_rfl)) ?_
  intro W base args ds gs before hval0 hW _ hk _
  have hval : ∀ (j : Nat) t v, Try.f7.params[j]? = some t → args[j]? = some v → Value.okWide Try.prog W .any base t v := hval0
  have hW' := hW
  obtain ⟨p, q, hA0, hV, rfl, hfz, hnd⟩ := hW
  have hA : DataW.TrodAll enc Try.prog W 0 (fun _ => true) true Try.f7.params.toList args.toList ds p := hA0
  rw [Try.params7] at hA hval
  obtain ⟨v0, vs0, d0, ds0, p0, q0, hargs, rfl, rfl, h0, r0⟩ := trodAll_cons hA
  obtain ⟨rfl, rfl, rfl⟩ := trodAll_nil r0
  obtain rfl : args = #[v0] := by cases args; simp_all
  obtain ⟨rfl, rfl⟩ := trodVars_none hV
  have k0 := h0
  have lt0 : ∀ x ∈ p0, x.block < W.heap.size := by obtain ⟨m, hm⟩ := k0; exact DataW.trod_lt m _ _ _ hm
  obtain ⟨A0, n0, c0, rfl⟩ := okWide_slice Try.underlying50 (hval 0 50 v0 rfl rfl)
  obtain ⟨ops0, s0⟩ : ∃ ops, Script6 W A0 n0 c0 ops := by
    obtain ⟨fuel, hf⟩ := h0
    exact script6_open hf (bulks.small hk (by simp))
  clear hA0 hval0
  refine (walk A0 n0 c0 ops0 W s0).mono fun e W' ⟨he, bel⟩ => ?_
  subst he
  exact ⟨_, rfl, _, _, _, [], _, [], hW', trodAll_mk1 (shut_bool Try.underlying4 _), (trodAll_cons_mk (Below.trod laidOut (by kernel_rfl) (of_decide_eq_true (by kernel_rfl)) k0 bel lt0) trodAll_mk0), rfl, bel.frame _, fun h => by cases h⟩

/-- The statement: the second form. -/
theorem proved : Rows.SlotsWordsUptoSaid :=
  OpenClaim.holds_of_cond 7 Try.f7 rfl rfl rfl rfl rfl rfl rfl ⟨rfl, rfl, rfl, rfl, rfl⟩ rfl rfl rfl rfl rfl (by kernel_rfl) Try.func7 (by kernel_rfl)
    (of_decide_eq_true (by kernel_rfl)) (by unfold Func.isWrapper; first | (rw [if_pos (by decide +kernel)]; kernel_rfl) | (rw [if_neg (by decide +kernel)]; exact ⟨rfl, rfl⟩))
    (fun os started H enc _ F => lifted os started H enc F)
#print axioms proved
end Go.Proofs.Ytdkbdlhfhmgenaa.slotsWords
