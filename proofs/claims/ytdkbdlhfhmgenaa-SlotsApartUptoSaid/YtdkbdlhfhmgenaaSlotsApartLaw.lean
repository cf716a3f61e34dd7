/- SlotsApart: what is done to one slot changes no other: the call returns true wherever what it reads is of bulk at most 1048576. -/
import Derived.Test.YtdkbdlhfhmgenaaRows
import Derived.Test.YtdkbdlhfhmgenaaSlotsRaw
import Derived.Test.YtdkbdlhfhmgenaaScript6
import Derived.Test.YtdkbdlhfhmgenaaSlc
import Derived.Deep.QuietTactic
import Derived.BigQuiet
import Derived.Deep.CutBlock
import Derived.JoinedCond
import Derived.WalkKit
import Derived.ProofKit
import Derived.OpenShut
import Derived.ShutString
import Derived.ChangeOld
import Derived.Below
import Derived.Carry
namespace Go.Proofs.Ytdkbdlhfhmgenaa.slotsApart
open Go.ChangeShapes Go.WideShapes Go.ChangeAt Go.RowKit
set_option linter.unusedVariables false


theorem range_keeps {S : List Nat} {w w' : World} {a o : Nat} {cs : List Value} (h : w.rangeAt a o cs) (hk : Keeps S w w') (ha : a ∉ S) : w'.rangeAt a o cs := fun j v hv => by
  have h1 := h j v hv
  exact (keeps_cell hk (World.block_lt_of_cell? w _ h1) ha).trans h1
/-- The slots of a list lie in block a. -/
def Rng (w : World) (a : Nat) (l : List Sl) : Prop := ∀ (k : Nat) (y : Sl), l[k]? = some y → w.rangeAt a (k * 8) y.cells
theorem Rng.keeps {S : List Nat} {w w' : World} {a : Nat} {l : List Sl} (h : Rng w a l) (hk : Keeps S w w') (ha : a ∉ S) : Rng w' a l := fun k y hy => range_keeps (h k y hy) hk ha
theorem gens_next {k : Nat} {H : List Hd} (h : Gens k H) : Gens (k + 1) H := fun j x hx => by have := h j x hx; omega
set_option maxRecDepth 100000 in
set_option maxHeartbeats 8000000 in
theorem walk (a0 a1' : Int) (A : Option Addr) (n c : Nat) (ops : List Op6) (w : World) (hb : (Lit.int IntKind.i64 a0).wf = true) (hb1 : (Lit.int IntKind.i64 a1').wf = true) (hs : Script6 w A n c ops) :
    Calls Try.prog 8 #[.int .i64 a0, .int .i64 a1', .slice A n c] w fun e w' => e = .returned (.bool true) ∧ Below w.heap.size w w' := by
  have HSC := Lib.hid hs
  have hn := hs.2.2.1
  have hni : (n : Int) ≤ 1048576 := by omega
  have hb7 := i64_and7 a0
  have hb8 := i64_and7 a1'
  obtain ⟨q, hq⟩ : ∃ q : Nat, a0 % 8 = q := ⟨(a0 % 8).toNat, by omega⟩
  obtain ⟨q1, hq1⟩ : ∃ q : Nat, a1' % 8 = q := ⟨(a1' % 8).toNat, by omega⟩
  rw [hq] at hb7
  rw [hq1] at hb8
  have hq2 : q < 8 := by omega
  obtain ⟨nn, hnn⟩ : ∃ nn : Nat, (1 : Int) + q = nn := ⟨1 + q, by omega⟩
  have nn1 : 1 ≤ nn := by omega
  have nn8 : nn ≤ 8 := by omega
  have ni8 : (nn : Int) ≤ 8 := by omega
  have nz1 : ((nn : Int) == 0) = false := by simp; omega
  have nz2 : ¬ (nn : Int) = 0 := by omega
  obtain ⟨s, hsq⟩ : ∃ s : Nat, q1 % nn = s := ⟨_, rfl⟩
  have hsn : s < nn := by rw [← hsq]; exact Nat.mod_lt _ (by omega)
  have hmod : (q1 : Int).tmod (nn : Int) = (s : Int) := by rw [Int.tmod_eq_emod_of_nonneg (by omega), ← Int.natCast_emod, hsq]
  clear hs hq hq1 hsq
  go_enter Try.func8, Try.ntmps8
  go_wp2_with fail
  refine (awake6 _).mono ?_
  rintro e w1 ⟨rfl, hk1⟩
  have HK1 := Lib.hid hk1
  clear hk1
  go_wp2_with fail
  refine (ts_new w1 w1 (Keeps.refl _ _) nn nn1 nn8).mono ?_
  rintro e w2 ⟨t, rfl, hs, hk, hd⟩
  have HS := Lib.hid hs
  have HG : Hid (Gens 0 (List.replicate nn Hd.zero)) := fun j x hx => by
    rw [List.getElem?_replicate] at hx
    split at hx
    · injection hx with hx; subst hx; exact ⟨by decide, by decide⟩
    · cases hx
  clear hs hk hd hnn hb7 hq2
  go_wp2_with fail
  go_loopw [11] (fun i wr => ∃ (k : Nat) (H : List Hd) (W : List Int), k ≤ nn ∧ i = .int .i64 k ∧ TS w1 wr t H W ∧ Gens (2 * k) H ∧ H.length = nn) (fun i _ => nn - (intOf i).toNat)
  case atStart => exact ⟨0, _, _, Nat.zero_le _, rfl, HS.out, HG.out, by simp⟩
  case round =>
    obtain ⟨k, H, W, hk, rfl, hts, hg, hl⟩ := hrel
    by_cases hlt : k < nn
    · have k0 : (0 : Int) ≤ (k : Int) := by omega
      have k1 : (k : Int) < (nn : Int) := by omega
      have hcv : (k : Int) % 18446744073709551616 = (k : Int) := by omega
      go_wp2_with fail
      refine (ts_claim_raw hts hg (by omega) (by omega : k < H.length) (1 + k)).mono ?_
      rintro e w4 ⟨_, _, H4, rfl, hs4, hm4, hk4⟩
      go_wp2_with fail
      refine (ts_put_raw hs4 (by have := hm4.len; omega : k < H4.length) 0 k).mono ?_
      rintro e w5 ⟨_, W5, rfl, hs5, hm5, hk5⟩
      go_wp2_with fail
      refine (ts_ready_raw hs5 hm4.gens (by omega) (by have := hm4.len; omega : k < H4.length) 1 (5 + k)).mono ?_
      rintro e w6 ⟨_, H6, rfl, hs6, hm6, hk6⟩
      have S6 := Lib.hid hs6
      have G6 := Lib.hid hm6.gens
      have L6 := Lib.hid (hm6.len.trans (hm4.len.trans hl))
      clear hs4 hm4 hk4 hs5 hm5 hk5 hs6 hm6 hk6 hts hg hl
      go_wp2_with fail
      exact ⟨⟨k + 1, H6, W5, by omega, by simp, S6.out, G6.out, L6.out⟩, by simp [intOf]; omega⟩
    · have hge : ¬ ((k : Int) < (nn : Int)) := by omega
      have ek : k = nn := by omega
      subst ek
      have HTS := Lib.hid hts
      have HGG := Lib.hid hg
      have HLL := Lib.hid hl
      clear hts hg hl
      go_wp2_with fail
      refine (ts_now HTS.out).mono ?_
      rintro e w5 ⟨a1, c1, he, hs5, hna, hr5, hk5⟩
      rw [HLL.out] at he
      subst he
      have ha1 : Hid (a1 ≠ t.b ∧ a1 ≠ t.c) := by have := HTS.out.tab.lt; unfold Hid; omega
      have HS5 := Lib.hid hs5
      have HR5 := Lib.hid (show Rng w5 a1 (slL H W) from hr5)
      clear hs5 hna hr5 hk5
      go_wp2_with fail
      go_loopw [14] (fun i wr => ∃ (q : Nat) (H' : List Hd) (W' : List Int), q ≤ n ∧ i = .int .i64 q ∧ TS w1 wr t H' W' ∧ Gens (2 * k + q) H' ∧ H'.length = k ∧ (∀ j, j ≠ s → H'[j]? = H[j]?) ∧ (∀ j, j ≠ 2 * s → j ≠ 2 * s + 1 → W'[j]? = W[j]?) ∧ Rng wr a1 (slL H W)) (fun i _ => n - (intOf i).toNat)
      case atStart => exact ⟨0, H, W, Nat.zero_le _, rfl, HS5.out, HGG.out, HLL.out, fun _ _ => rfl, fun _ _ _ => rfl, HR5.out⟩
      case round =>
        obtain ⟨q, H', W', hq, rfl, hts, hg', hl', ho', hw', hrg⟩ := hrel
        have KW := Lib.hid (HK1.out.trans hts.keep (by simp))
        by_cases hlt2 : q < n
        · obtain ⟨ab, off, p, rfl, hp, hcell⟩ := HSC.out.at_ hlt2
          have hop := hcell wr (KW.out.below (by simp) (Nat.le_refl _))
          have c0 := hop.c0
          have c1' := hop.c1
          have c2 := hop.c2
          have c3 := hop.c3
          have c4 := hop.c4
          have c5 := hop.c5
          clear hop hcell hp
          have k0 : (0 : Int) ≤ (q : Int) := by omega
          have k1 : (q : Int) < (n : Int) := by omega
          have kb : q + 1 ≤ 1048576 := by omega
          obtain ⟨po, kd, sl, gn, pn, px⟩ := p
          simp only at c0 c1' c2 c3 c4 c5
          go_upto_block 4 with fail
          have bo := Blk.new wr 58 #[.bool po, .int .i64 kd, .int .i64 sl, .int .i64 gn, .int .i64 pn, .int .u64 px]
          have d1 : (wr.alloc (.cells #[.bool po, .int .i64 kd, .int .i64 sl, .int .i64 gn, .int .i64 pn, .int .u64 px] 58)).cell? ⟨wr.heap.size, 1, none⟩ = some (.int .i64 kd) := (bo.cell 1).trans rfl
          have d3 : (wr.alloc (.cells #[.bool po, .int .i64 kd, .int .i64 sl, .int .i64 gn, .int .i64 pn, .int .u64 px] 58)).cell? ⟨wr.heap.size, 3, none⟩ = some (.int .i64 gn) := (bo.cell 3).trans rfl
          have d4 : (wr.alloc (.cells #[.bool po, .int .i64 kd, .int .i64 sl, .int .i64 gn, .int .i64 pn, .int .u64 px] 58)).cell? ⟨wr.heap.size, 4, none⟩ = some (.int .i64 pn) := (bo.cell 4).trans rfl
          have d5 : (wr.alloc (.cells #[.bool po, .int .i64 kd, .int .i64 sl, .int .i64 gn, .int .i64 pn, .int .u64 px] 58)).cell? ⟨wr.heap.size, 5, none⟩ = some (.int .u64 px) := (bo.cell 5).trans rfl
          have kB : Keeps [] wr (wr.alloc (.cells #[.bool po, .int .i64 kd, .int .i64 sl, .int .i64 gn, .int .i64 pn, .int .u64 px] 58)) := (Keeps.refl _ _).alloc _
          have TB := Lib.hid (hts.calm kB)
          have RB := Lib.hid (hrg.keeps kB (by simp))
          have GB := Lib.hid hg'
          have LB := Lib.hid hl'
          have OB := Lib.hid ho'
          have WB := Lib.hid hw'
          generalize hwB : wr.alloc (.cells #[.bool po, .int .i64 kd, .int .i64 sl, .int .i64 gn, .int .i64 pn, .int .u64 px] 58) = wB at *
          clear hwB bo kB hts hrg hg' hl' ho' hw' c0 c1' c2 c3 c4 c5
          by_cases k2 : kd = 2
          · subst k2
            as_aux_lemma =>
              go_wp2_with fail
              refine (ts_claim_raw TB.out GB.out (by omega : 2 * k + q ≤ 4611686018427387904) (by have := LB.out; omega : s < H'.length) pn).mono ?_
              rintro e w4 ⟨_, _, H2, rfl, hs4, hm4, hk4⟩
              have hr4 := RB.out.keeps hk4 (by have := ha1.out; simp; omega)
              have HS4 := Lib.hid hs4
              have HM4 := Lib.hid hm4
              have HR4 := Lib.hid hr4
              clear hs4 hm4 hk4 hr4
              go_wp2_with fail
              exact ⟨⟨q + 1, H2, W', by omega, by simp, HS4.out, HM4.out.gens, HM4.out.len.trans LB.out, fun j hj => (HM4.out.other j hj).trans (OB.out j hj), WB.out, HR4.out⟩, by simp [intOf]; omega⟩
          · have n2 : (kd == 2) = false := by simpa using k2
            by_cases k3 : kd = 3
            · subst k3
              as_aux_lemma =>
                go_wp2_with fail
                refine (ts_ready_raw TB.out GB.out (by omega : 2 * k + q ≤ 4611686018427387904) (by have := LB.out; omega : s < H'.length) gn pn).mono ?_
                rintro e w4 ⟨_, H2, rfl, hs4, hm4, hk4⟩
                have hr4 := RB.out.keeps hk4 (by have := ha1.out; simp; omega)
                have HS4 := Lib.hid hs4
                have HM4 := Lib.hid hm4
                have HR4 := Lib.hid hr4
                clear hs4 hm4 hk4 hr4
                go_wp2_with fail
                exact ⟨⟨q + 1, H2, W', by omega, by simp, HS4.out, HM4.out.gens, HM4.out.len.trans LB.out, fun j hj => (HM4.out.other j hj).trans (OB.out j hj), WB.out, HR4.out⟩, by simp [intOf]; omega⟩
            · have n3 : (kd == 3) = false := by simpa using k3
              by_cases k5 : kd = 5
              · subst k5
                as_aux_lemma =>
                  go_wp2_with fail
                  refine (ts_doom_raw TB.out GB.out (by omega : 2 * k + q ≤ 4611686018427387904) (by have := LB.out; omega : s < H'.length) gn pn).mono ?_
                  rintro e w4 ⟨_, H2, rfl, hs4, hm4, hk4⟩
                  have hr4 := RB.out.keeps hk4 (by have := ha1.out; simp; omega)
                  have HS4 := Lib.hid hs4
                  have HM4 := Lib.hid hm4
                  have HR4 := Lib.hid hr4
                  clear hs4 hm4 hk4 hr4
                  go_wp2_with fail
                  exact ⟨⟨q + 1, H2, W', by omega, by simp, HS4.out, HM4.out.gens, HM4.out.len.trans LB.out, fun j hj => (HM4.out.other j hj).trans (OB.out j hj), WB.out, HR4.out⟩, by simp [intOf]; omega⟩
              · have n5 : (kd == 5) = false := by simpa using k5
                by_cases k6 : kd = 6
                · subst k6
                  as_aux_lemma =>
                    go_wp2_with fail
                    refine (ts_free_raw TB.out GB.out (by omega : 2 * k + q ≤ 4611686018427387904) (by have := LB.out; omega : s < H'.length) gn).mono ?_
                    rintro e w4 ⟨_, H2, rfl, hs4, hm4, hk4⟩
                    have hr4 := RB.out.keeps hk4 (by have := ha1.out; simp; omega)
                    have HS4 := Lib.hid hs4
                    have HM4 := Lib.hid hm4
                    have HR4 := Lib.hid hr4
                    clear hs4 hm4 hk4 hr4
                    go_wp2_with fail
                    exact ⟨⟨q + 1, H2, W', by omega, by simp, HS4.out, HM4.out.gens, HM4.out.len.trans LB.out, fun j hj => (HM4.out.other j hj).trans (OB.out j hj), WB.out, HR4.out⟩, by simp [intOf]; omega⟩
                · have n6 : (kd == 6) = false := by simpa using k6
                  by_cases k8 : kd = 8
                  · subst k8
                    as_aux_lemma =>
                      go_wp2_with fail
                      refine (ts_put_raw TB.out (by have := LB.out; omega : s < H'.length) pn px).mono ?_
                      rintro e w4 ⟨_, W2, rfl, hs4, hm4, hk4⟩
                      have hr4 := RB.out.keeps hk4 (by have := ha1.out; simp; omega)
                      have HS4 := Lib.hid hs4
                      have HM4 := Lib.hid hm4
                      have HR4 := Lib.hid hr4
                      clear hs4 hm4 hk4 hr4
                      go_wp2_with fail
                      exact ⟨⟨q + 1, H', W2, by omega, by simp, HS4.out, (gens_next GB.out), LB.out, OB.out, fun j h1 h2 => (HM4.out.2 j h1 h2).trans (WB.out j h1 h2), HR4.out⟩, by simp [intOf]; omega⟩
                  · have n8 : (kd == 8) = false := by simpa using k8
                    as_aux_lemma =>
                      go_wp2_with fail
                      exact ⟨⟨q + 1, H', W', by omega, by simp, TB.out, (gens_next GB.out), LB.out, OB.out, WB.out, RB.out⟩, by simp [intOf]; omega⟩
        · have hge2 : ¬ ((q : Int) < (n : Int)) := by omega
          have HTS2 := Lib.hid hts
          have LB := Lib.hid hl'
          have OB := Lib.hid ho'
          have WB := Lib.hid hw'
          have RB := Lib.hid hrg
          clear hts hl' ho' hw' hrg hg'
          go_wp2_with fail
          refine (ts_now HTS2.out).mono ?_
          rintro e w8 ⟨a2, c2, he, hs8, hna, hr8, hk8⟩
          rw [LB.out] at he
          subst he
          have HS8 := Lib.hid hs8
          have R1 := Lib.hid (RB.out.keeps hk8 (by simp))
          have R2 := Lib.hid (show Rng w8 a2 (slL H' W') from hr8)
          clear hs8 hna hr8 hk8
          go_wp2_with fail
          go_loopw [17] (fun i wr => ∃ r : Nat, r ≤ k ∧ i = .int .i64 r ∧ Keeps [] w8 wr) (fun i _ => k - (intOf i).toNat)
          case atStart => exact ⟨0, Nat.zero_le _, rfl, Keeps.refl _ _⟩
          case round =>
            obtain ⟨r, hr, rfl, hkr⟩ := hrel
            by_cases hlt3 : r < k
            · have r0 : (0 : Int) ≤ (r : Int) := by omega
              have r1 : (r : Int) < (k : Int) := by omega
              by_cases hrs : r = s
              · subst hrs
                as_aux_lemma =>
                  go_wp2_with fail
                  go_quiet (fail)
                  go_wp2_with fail
                  exact ⟨⟨r + 1, by omega, by simp, hkr.trans ((Keeps.refl [] _).drewN _) (by simp)⟩, by simp [intOf]; omega⟩
              · have q1 : ((r : Int) == (s : Int)) = false := by simp; omega
                have q2 : ((r : Int) != (s : Int)) = true := by simp; omega
                have q3 : ¬ (r : Int) = (s : Int) := by omega
                have hlh : H.length = k := HLL.out
                have hlw := HS5.out.tab.len
                obtain ⟨x, hx⟩ : ∃ x, H[r]? = some x := ⟨_, List.getElem?_eq_getElem (by omega)⟩
                obtain ⟨ya, hya⟩ : ∃ a, W[2 * r]? = some a := ⟨_, List.getElem?_eq_getElem (by omega)⟩
                obtain ⟨yb, hyb⟩ : ∃ a, W[2 * r + 1]? = some a := ⟨_, List.getElem?_eq_getElem (by omega)⟩
                have hy1 := slL_get H W r x ya yb hx hya hyb
                have hy2 := slL_get H' W' r x ya yb ((OB.out r hrs).trans hx) ((WB.out (2 * r) (by omega) (by omega)).trans hya) ((WB.out (2 * r + 1) (by omega) (by omega)).trans hyb)
                have e1 := range_keeps (R1.out r _ hy1) hkr (by simp)
                have e2 := range_keeps (R2.out r _ hy2) hkr (by simp)
                obtain ⟨y, hy⟩ : ∃ y : Sl, y = ⟨x, ya, yb⟩ := ⟨_, rfl⟩
                rw [← hy] at e1 e2
                clear hy hy1 hy2 hx hya hyb hlh hlw
                have x0 : wr.cell? ⟨a1, r * 8, none⟩ = some (.int .i64 y.h.gen) := e1 0 _ rfl
                have y0 : wr.cell? ⟨a2, r * 8, none⟩ = some (.int .i64 y.h.gen) := e2 0 _ rfl
                have x1 : wr.cell? ⟨a1, r * 8 + 1, none⟩ = some (.int .i64 y.h.state) := e1 1 _ rfl
                have y1 : wr.cell? ⟨a2, r * 8 + 1, none⟩ = some (.int .i64 y.h.state) := e2 1 _ rfl
                have x2 : wr.cell? ⟨a1, r * 8 + 2, none⟩ = some (.int .i64 y.h.stamp) := e1 2 _ rfl
                have y2 : wr.cell? ⟨a2, r * 8 + 2, none⟩ = some (.int .i64 y.h.stamp) := e2 2 _ rfl
                have x3 : wr.cell? ⟨a1, r * 8 + 3, none⟩ = some (.int .i64 y.h.thread) := e1 3 _ rfl
                have y3 : wr.cell? ⟨a2, r * 8 + 3, none⟩ = some (.int .i64 y.h.thread) := e2 3 _ rfl
                have x4 : wr.cell? ⟨a1, r * 8 + 4, none⟩ = some (.bool y.h.doomed) := e1 4 _ rfl
                have y4 : wr.cell? ⟨a2, r * 8 + 4, none⟩ = some (.bool y.h.doomed) := e2 4 _ rfl
                have x5 : wr.cell? ⟨a1, r * 8 + 5, none⟩ = some (.int .i64 y.h.who) := e1 5 _ rfl
                have y5 : wr.cell? ⟨a2, r * 8 + 5, none⟩ = some (.int .i64 y.h.who) := e2 5 _ rfl
                have x6 : wr.cell? ⟨a1, r * 8 + 6, none⟩ = some (.int .u64 y.a) := e1 6 _ rfl
                have y6 : wr.cell? ⟨a2, r * 8 + 6, none⟩ = some (.int .u64 y.a) := e2 6 _ rfl
                have x7 : wr.cell? ⟨a1, r * 8 + 7, none⟩ = some (.int .u64 y.b) := e1 7 _ rfl
                have y7 : wr.cell? ⟨a2, r * 8 + 7, none⟩ = some (.int .u64 y.b) := e2 7 _ rfl
                have he : ∀ w, (Op.equalIn 10000 78 (.agg #[.int .i64 y.h.gen, .int .i64 y.h.state, .int .i64 y.h.stamp, .int .i64 y.h.thread, .bool y.h.doomed, .int .i64 y.h.who, .int .u64 y.a, .int .u64 y.b]) (.agg #[.int .i64 y.h.gen, .int .i64 y.h.state, .int .i64 y.h.stamp, .int .i64 y.h.thread, .bool y.h.doomed, .int .i64 y.h.who, .int .u64 y.a, .int .u64 y.b])).run Try.prog w = .ok true w := fun w => by simp [go_sem, sig_same9]
                clear e1 e2
                as_aux_lemma =>
                  go_wp2_with fail
                  go_quiet (fail)
                  go_wp2_with fail
                  exact ⟨⟨r + 1, by omega, by simp, hkr.trans ((Keeps.refl [] _).drewN _) (by simp)⟩, by simp [intOf]; omega⟩
            · have hge3 : ¬ ((r : Int) < (k : Int)) := by omega
              go_wp2_with fail
              go_ret
              exact ⟨rfl, ((HK1.out.trans HS8.out.keep (by simp)).trans hkr (by simp)).below (by simp) (Nat.le_refl _)⟩

theorem own : ownKnob Try.prog.godebug = none := by kernel_rfl
theorem laidOut : laidOutB Try.prog = true := by kernel_rfl
set_option maxRecDepth 100000 in
theorem lifted (os : Os) (started : os.Started) (H : Type) (enc : TypeId × Value → H) (F : Stop.Interp) :
    ReturnsInHanded {} Try.checked os 8 .any ((Rows.OpenSpec.upto Rows.slotsApartSpec).pre6 enc Try.prog Try.f8 Rows.slotsApartUptoRow.domain false) (((Rows.OpenSpec.upto Rows.slotsApartSpec).at F).post enc Try.prog Try.f8 false true false false) := by
  refine returnsInHanded_of_cond (C := Try.checked) (s := Rows.OpenSpec.upto Rows.slotsApartSpec) (k := Rows.uptoSmall) rfl own started (by kernel_rfl) Try.func8
    (OpenSpec.witness (enc := enc) (C := Try.checked) (s := Rows.OpenSpec.upto Rows.slotsApartSpec) (k := Rows.uptoSmall) rfl false ⟨#[], #[.int .i64 0, .int .i64 0, .slice none 0 0], []⟩ 8 (by kernel_rfl) (by kernel_rfl) (by kernel_rfl)
      (x := ([.lit (.int .i64 0), .lit (.int .i64 0), .nil], [], [])) (by kernel_rfl) rfl (by kernel_rfl)) ?_
  intro W base args ds gs before hval0 hW _ hk _
  have hval : ∀ (j : Nat) t v, Try.f8.params[j]? = some t → args[j]? = some v → Value.okWide Try.prog W .any base t v := hval0
  have hW' := hW
  obtain ⟨p, q, hA0, hV, rfl, hfz, hnd⟩ := hW
  have hA : DataW.TrodAll enc Try.prog W 0 (fun _ => true) true Try.f8.params.toList args.toList ds p := hA0
  rw [Try.params8] at hA hval
  obtain ⟨v0, vs0, d0, ds0, p0, q0, hargs, rfl, rfl, h0, r0⟩ := trodAll_cons hA
  obtain ⟨v1, vs1, d1, ds1, p1, q1, rfl, rfl, rfl, h1, r1⟩ := trodAll_cons r0
  obtain ⟨v2, vs2, d2, ds2, p2, q2, rfl, rfl, rfl, h2, r2⟩ := trodAll_cons r1
  obtain ⟨rfl, rfl, rfl⟩ := trodAll_nil r2
  obtain rfl : args = #[v0, v1, v2] := by cases args; simp_all
  obtain ⟨rfl, rfl⟩ := trodVars_none hV
  obtain ⟨a0, rfl, rfl, rfl, w0⟩ := open_int Try.underlying3 (hval 0 3 v0 rfl rfl) h0
  obtain ⟨a1, rfl, rfl, rfl, w1⟩ := open_int Try.underlying3 (hval 1 3 v1 rfl rfl) h1
  have k2 := h2
  have lt2 : ∀ x ∈ p2, x.block < W.heap.size := by obtain ⟨m, hm⟩ := k2; exact DataW.trod_lt m _ _ _ hm
  obtain ⟨A2, n2, c2, rfl⟩ := okWide_slice Try.underlying50 (hval 2 50 v2 rfl rfl)
  obtain ⟨ops2, s2⟩ : ∃ ops, Script6 W A2 n2 c2 ops := by
    obtain ⟨fuel, hf⟩ := h2
    exact script6_open hf (bulks.small hk (by simp))
  clear hA0 hval0
  refine (walk a0 a1 A2 n2 c2 ops2 W w0 w1 s2).mono fun e W' ⟨he, bel⟩ => ?_
  subst he
  exact ⟨_, rfl, _, _, _, [], _, [], hW', trodAll_mk1 (shut_bool Try.underlying4 _), (trodAll_cons_mk (shut_int Try.underlying3 w0) (trodAll_cons_mk (shut_int Try.underlying3 w1) (trodAll_cons_mk (Below.trod laidOut (by kernel_rfl) (of_decide_eq_true (by kernel_rfl)) k2 bel lt2) trodAll_mk0))), rfl, bel.frame _, fun h => by cases h⟩

/-- The statement: the second form. -/
theorem proved : Rows.SlotsApartUptoSaid :=
  OpenClaim.holds_of_cond 8 Try.f8 rfl rfl rfl rfl rfl rfl rfl ⟨rfl, rfl, rfl, rfl, rfl⟩ rfl rfl rfl rfl rfl (by kernel_rfl) Try.func8 (by kernel_rfl)
    (of_decide_eq_true (by kernel_rfl)) (by unfold Func.isWrapper; first | (rw [if_pos (by decide +kernel)]; kernel_rfl) | (rw [if_neg (by decide +kernel)]; exact ⟨rfl, rfl⟩))
    (fun os started H enc _ F => lifted os started H enc F)
#print axioms proved
end Go.Proofs.Ytdkbdlhfhmgenaa.slotsApart
