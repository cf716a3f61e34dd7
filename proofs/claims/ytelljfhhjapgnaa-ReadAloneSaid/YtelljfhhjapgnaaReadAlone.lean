/- ReadAlone: with nobody else at work a read gives the value, by the steps and the bits told: the call returns true for every int, cells and places. -/
import Derived.Test.YtelljfhhjapgnaaRows
import Derived.Test.YtelljfhhjapgnaaAloneB
import Derived.Test.YtelljfhhjapgnaaAw11
import Derived.Deep.QuietTactic
import Derived.BigQuiet
import Derived.Deep.RegionHeld3
import Derived.Test.YtelljfhhjapgnaaRegL
import Derived.WalkKit
import Derived.ProofKit
import Derived.OpenShut
import Derived.ShutString
import Derived.ChangeOld
import Derived.Below
import Derived.Carry
namespace Go.Proofs.Ytelljfhhjapgnaa.readAlone
open Go.ChangeShapes Go.WideShapes Go.ChangeAt Go.RowKit
set_option linter.unusedVariables false
set_option linter.unusedSimpArgs false

theorem and127 (n : Int) : bits .and .i64 n 127 = n % 128 := by
  have hm : (BitVec.ofInt 64 127).toNat = 2 ^ 7 - 1 := by decide
  have key : (BitVec.ofInt 64 n &&& BitVec.ofInt 64 127).toNat = (n % ((2 ^ 64 : Nat) : Int)).toNat % 2 ^ 7 := by
    rw [BitVec.toNat_and, BitVec.toNat_ofInt, hm, Nat.and_two_pow_sub_one_eq_mod]
  show IntKind.i64.wrap ((BitVec.ofInt 64 n &&& BitVec.ofInt 64 127).toNat : Nat) = n % 128
  rw [key, IntKind.wrap_i64]
  omega
theorem and255 (n : Int) : bits .and .i64 n 255 = n % 256 := by
  have hm : (BitVec.ofInt 64 255).toNat = 2 ^ 8 - 1 := by decide
  have key : (BitVec.ofInt 64 n &&& BitVec.ofInt 64 255).toNat = (n % ((2 ^ 64 : Nat) : Int)).toNat % 2 ^ 8 := by
    rw [BitVec.toNat_and, BitVec.toNat_ofInt, hm, Nat.and_two_pow_sub_one_eq_mod]
  show IntKind.i64.wrap ((BitVec.ofInt 64 n &&& BitVec.ofInt 64 255).toNat : Nat) = n % 256
  rw [key, IntKind.wrap_i64]
  omega
theorem slc_src' {w : World} {A : Option Addr} {xs : List Int} (h : Slc w A xs) : Src w A xs := fun h0 => by
  rcases h.2 with rfl | ⟨b, off, rfl, _, hc⟩
  · simp at h0
  · refine ⟨_, rfl, fun j v hv => ?_⟩
    rw [List.getElem?_map] at hv
    cases hx : xs[j]? with
    | none => simp [hx] at hv
    | some x =>
      simp [hx] at hv
      have e : (⟨b, off, none⟩ : Addr).add j = ⟨b, off + j, none⟩ := by unfold Addr.add; split <;> simp_all
      rw [e, ← hv]
      exact hc j x hx
/-- What the cells are. -/
def LX (xs : List Int) (n : Int) : List Int := xs ++ (List.replicate n.toNat 0).drop xs.length
theorem LX_in {xs : List Int} {n : Int} {j : Nat} {y : Int} (h : xs[j]? = some y) : (nth (LX xs n) (j : Int)).getD 0 = y := by
  have hj := (List.getElem?_eq_some_iff.1 h).1
  unfold nth LX
  rw [if_pos (by omega), Int.toNat_natCast, List.getElem?_append_left hj, h]
  rfl
theorem LX_out {xs : List Int} {n : Int} {j : Nat} (h : xs.length ≤ j) : (nth (LX xs n) (j : Int)).getD 0 = 0 := by
  unfold nth LX
  rw [if_pos (by omega), Int.toNat_natCast, List.getElem?_append_right h, List.getElem?_drop, List.getElem?_replicate]
  split <;> rfl
set_option maxRecDepth 100000 in
set_option maxHeartbeats 16000000 in
theorem walk (bits_ : Int) (A : Option Addr) (ca : Nat) (xs : List Int) (B : Option Addr) (cb : Nat) (ys : List Int) (w : World) (_ : (Lit.int IntKind.i64 bits_).wf = true) (hA : Slc w A xs) (hB : Slc w B ys) : Calls Try.prog 3 #[.int .i64 bits_, .slice A xs.length ca, .slice B ys.length cb] w fun e w' => e = .returned (.bool true) ∧ Below w.heap.size w w' := by
  have m1 := and127 bits_
  have m2 := and255 (xs.length : Int)
  obtain ⟨bb, hbb, bb1, bb8⟩ : ∃ q : Int, bits_ % 128 = q ∧ 0 ≤ q ∧ q ≤ 127 := ⟨_, rfl, by omega, by omega⟩
  rw [hbb] at m1
  obtain ⟨nb, mw, nb1, nb8⟩ : ∃ q : Int, IntKind.i64.wrap (1 + bb) = q ∧ 1 ≤ q ∧ q ≤ 128 := ⟨1 + bb, by rw [IntKind.wrap_i64]; omega, by omega, by omega⟩
  obtain ⟨qq, hqq, qq1, qq8⟩ : ∃ q : Int, (xs.length : Int) % 256 = q ∧ 0 ≤ q ∧ q ≤ 255 := ⟨_, rfl, by omega, by omega⟩
  rw [hqq] at m2
  obtain ⟨n, nw, hn1, n1, n8⟩ : ∃ q : Int, IntKind.i64.wrap (1 + qq) = q ∧ q = 1 + qq ∧ 1 ≤ q ∧ q ≤ 256 := ⟨1 + qq, by rw [IntKind.wrap_i64]; omega, rfl, by omega, by omega⟩
  have hlx := hA.1
  have hly := hB.1
  have HA0 := Lib.hid hA
  have HB0 := Lib.hid hB
  have HQ := Lib.hid (And.intro hqq hn1)
  clear hbb hA hB hqq hn1
  go_enter Try.func3, Try.ntmps3
  go_wp2_with fail
  refine (awake11 _).mono ?_
  rintro e wb ⟨rfl, hk⟩
  have HKB := Lib.hid hk
  have HA := Lib.hid (HA0.out.keeps hk)
  have HB := Lib.hid (HB0.out.keeps hk)
  clear hk HA0 HB0
  go_wp2_with fail
  refine (reader_any wb n nb n1 n8 nb1 nb8).mono ?_
  rintro e w1 ⟨z, F, rfl, hs, hf⟩
  have hc2 := sp11_is n nb
  obtain ⟨S2, hS2⟩ : ∃ S, sp11 n nb = S := ⟨_, rfl⟩
  rw [hS2] at hs hf hc2
  have HS := Lib.hid hs
  have HF := Lib.hid hf
  have HC2 := Lib.hid hc2
  clear hs hf hc2 hS2
  by_cases hl : (255 : Int) < (xs.length : Int)
  · have hl2 : decide (255 < xs.length) = true := decide_eq_true (by omega)
    go_wp2_with fail
    go_ret
    exact ⟨rfl, (HKB.out.trans HS.out.keep (by simp)).below (by simp) (Nat.le_refl _)⟩
  · have hl2 : decide (255 < xs.length) = false := decide_eq_false (by omega)
    have hxl : xs.length ≤ 255 := by omega
    have hqn : Hid (n = (xs.length : Int) + 1) := by have := HQ.out; unfold Hid; omega
    have hfl := sp_fill HS.out A xs ca (slc_src' (HA.out.keeps HS.out.keep)) hlx
    have hfr : (S2.fill xs).1 = 0 ∧ (S2.fill xs).2.c = c11 n nb ∧ (S2.fill xs).2.gate.number = 0 ∧ (S2.fill xs).2.cells = LX xs n ∧ (S2.fill xs).2.H = [hd0] ∧ (S2.fill xs).2.W = [0, 0] := by
      obtain ⟨p1, p2, p3, p4, p5⟩ := HC2.out
      have hle : xs.length ≤ S2.cells.length := by rw [p3, List.length_replicate]; have := hqn.out; omega
      unfold Sp.fill
      rw [if_pos hle]
      exact ⟨rfl, p1, p2, by show xs ++ S2.cells.drop xs.length = _; rw [p3]; rfl, p4, p5⟩
    rw [hfr.1] at hfl
    have QF := Lib.hid hfl
    have HFR := Lib.hid hfr
    clear hfl hfr
    go_wp2_with fail
    refine QF.out.mono ?_
    rintro e w2 ⟨rfl, F2, hs2, _, _⟩
    have hid : Id3 wb z (c11 n nb) (LX xs n) ⟨0, 0⟩ 10 [] w2 := ⟨F2, _, hs2, (HF.out.fill xs).wide (by decide), HFR.out.2.1, HFR.out.2.2.1, HFR.out.2.2.2.1, HFR.out.2.2.2.2.1, HFR.out.2.2.2.2.2, fun l hl => by simp at hl⟩
    have HI0 := Lib.hid (hid.add 34 #[.int .i64 0, .int .i64 1, .int .i64 1, .int .u64 0, .int .u64 0])
    have HBL : Hid (wb.heap.size ≤ w2.heap.size) := hs2.keep.size
    clear hid hs2 QF HFR HF HS HC2
    go_wp2_with fail
    obtain ⟨bf, hbf⟩ : ∃ q, w2.heap.size = q := ⟨_, rfl⟩
    obtain ⟨w3, hw3⟩ : ∃ q, w2.alloc (.cells #[.int .i64 0, .int .i64 1, .int .i64 1, .int .u64 0, .int .u64 0] 34) = q := ⟨_, rfl⟩
    rw [hbf] at HI0 HBL
    rw [hw3] at HI0
    rw [hw3, hbf]
    clear hw3 hbf
    go_loopw [13] (fun i wr => ∃ (i' : Nat) (sig : Sg) (seen : Int), i' ≤ 300 ∧ i' ≤ ys.length ∧ i = .int .i64 i' ∧ sig.ok ∧ (seen = 0 ∨ seen = 1) ∧ Id3 wb z (c11 n nb) (LX xs n) sig (10 + 10 * i') [(bf, 34, #[.int .i64 0, .int .i64 1, .int .i64 seen, .int .u64 (sig.a : Int), .int .u64 (sig.b : Int)])] wr) (fun i _ => 300 - (intOf i).toNat)
    case atStart => exact ⟨0, ⟨0, 0⟩, 1, by decide, Nat.zero_le _, rfl, ⟨by decide, by decide⟩, .inr rfl, HI0.out⟩
    case round =>
      obtain ⟨i', sig, seen, hi', hiy, rfl, hso, hse, hid⟩ := hrel
      have HI := Lib.hid hid
      have HSO := Lib.hid hso
      clear hid hso HI0
      have hw1 : IntKind.i64.wrap ((i' : Int) + 1) = (i' : Int) + 1 := by rw [IntKind.wrap_i64]; omega
      by_cases hlt : (i' : Int) < (ys.length : Int) ∧ (i' : Int) < 300
      · obtain ⟨hlt1, hlt2⟩ := hlt
        have q0 : (0 : Int) ≤ (i' : Int) := by omega
        have hB' := HB.out.keeps HI.out.keep
        obtain ⟨y, hy⟩ : ∃ y, ys[i']? = some y := ⟨_, List.getElem?_eq_getElem (by omega)⟩
        obtain ⟨gb, go, rfl, hgl, hgc⟩ : ∃ b off, B = some ⟨b, off, none⟩ ∧ b < wr.heap.size ∧ ∀ k x, ys[k]? = some x → wr.cell? ⟨b, off + k, none⟩ = some (.int .i64 x) := by
          rcases hB'.2 with h | h
          · rw [h] at hy; simp at hy
          · exact h
        have t0 := hgc i' y hy
        have k1 := and255 y
        obtain ⟨y8, hy8, y80, y88⟩ : ∃ q : Int, y % 256 = q ∧ 0 ≤ q ∧ q ≤ 255 := ⟨_, rfl, by omega, by omega⟩
        rw [hy8] at k1
        have k2 : Int.tmod y8 n = y8 % n := Int.tmod_eq_emod_of_nonneg y80
        have k3 := Int.emod_nonneg y8 (b := n) (by omega)
        have k4 := Int.emod_lt_of_pos y8 (b := n) (by omega)
        obtain ⟨ce, hce⟩ : ∃ ce : Nat, y8 % n = ce := ⟨(y8 % n).toNat, by omega⟩
        rw [hce] at k2 k3 k4
        have nz : n ≠ 0 := by omega
        have nz2 : (n == 0) = false := by simp [nz]
        have nz3 : n ≠ -1 := by omega
        clear hB' hgc hy hce hy8
        have QO := Lib.hid (of_one _ _ (ce : Int) nb (slc_1 wr (ce : Int) _ rfl) k3 (by omega) nb1 nb8)
        have HOK := Lib.hid (ownSg_ok nb1 nb8 (ce : Int))
        obtain ⟨own, hown⟩ : ∃ o, ownSg nb (ce : Int) = o := ⟨_, rfl⟩
        rw [hown] at QO HOK
        have HOWN := Lib.hid hown
        unfold Sg.val at QO
        clear hown
        rcases hse with rfl | rfl
        · go_wp2_with fail
          refine QO.out.mono ?_
          rintro e w4 ⟨rfl, hk4⟩
          have hk5 : Keeps [] wr w4 := ((Keeps.refl [] wr).alloc _).trans hk4 (by simp)
          have hi5 := (HI.out.calm hk5).add 32 #[.int .u64 (own.a : Int), .int .u64 (own.b : Int)]
          have HI5 : Hid (Id3 wb z (c11 n nb) (LX xs n) sig (10 + 10 * i') [(w4.heap.size, 32, #[.int .u64 (own.a : Int), .int .u64 (own.b : Int)]), (bf, 34, #[.int .i64 0, .int .i64 1, .int .i64 0, .int .u64 (sig.a : Int), .int .u64 (sig.b : Int)])] (w4.alloc (.cells #[.int .u64 (own.a : Int), .int .u64 (own.b : Int)] 32))) := hi5
          have b1 := hi5.loc (q := w4.heap.size) (t := 32) (cs := #[.int .u64 (own.a : Int), .int .u64 (own.b : Int)]) (by simp)
          have b2 := hi5.loc (q := bf) (t := 34) (cs := #[.int .i64 0, .int .i64 1, .int .i64 0, .int .u64 (sig.a : Int), .int .u64 (sig.b : Int)]) (by simp)
          have x0 : (w4.alloc (.cells #[.int .u64 (own.a : Int), .int .u64 (own.b : Int)] 32)).cell? ⟨w4.heap.size, 0, none⟩ = some (.int .u64 (own.a : Int)) := (b1.cell 0).trans rfl
          have x1 : (w4.alloc (.cells #[.int .u64 (own.a : Int), .int .u64 (own.b : Int)] 32)).cell? ⟨w4.heap.size, 1, none⟩ = some (.int .u64 (own.b : Int)) := (b1.cell 1).trans rfl
          have x3 : (w4.alloc (.cells #[.int .u64 (own.a : Int), .int .u64 (own.b : Int)] 32)).cell? ⟨bf, 3, none⟩ = some (.int .u64 (sig.a : Int)) := (b2.cell 3).trans rfl
          have x4 : (w4.alloc (.cells #[.int .u64 (own.a : Int), .int .u64 (own.b : Int)] 32)).cell? ⟨bf, 4, none⟩ = some (.int .u64 (sig.b : Int)) := (b2.cell 4).trans rfl
          have QT : Hid (Calls Try.prog 12 #[.agg #[.int .u64 (sig.a : Int), .int .u64 (sig.b : Int)], .agg #[.int .u64 (own.a : Int), .int .u64 (own.b : Int)]] (w4.alloc (.cells #[.int .u64 (own.a : Int), .int .u64 (own.b : Int)] 32)) fun e w' => ∃ v, e = .returned v ∧ RowAt (w4.alloc (.cells #[.int .u64 (own.a : Int), .int .u64 (own.b : Int)] 32)) w' v (wordsL (own.minus sig))) := touched_any _ sig own HSO.out HOK.out
          have hwl := wordsL_len (own.minus sig)
          obtain ⟨ws, hws⟩ : ∃ l, wordsL (own.minus sig) = l := ⟨_, rfl⟩
          rw [hws] at QT hwl
          have HWS := Lib.hid hws
          clear hk4 hk5 hi5 b1 b2 QO hws t0
          go_wp2_with fail
          refine QT.out.mono ?_
          rintro e w6 ⟨v, rfl, hrow, hk6⟩
          obtain ⟨Aw, cw, rfl⟩ := row_form hrow
          have HI6 := Lib.hid (HI5.out.calm hk6)
          have b2 := HI6.out.loc (q := bf) (t := 34) (cs := #[.int .i64 0, .int .i64 1, .int .i64 0, .int .u64 (sig.a : Int), .int .u64 (sig.b : Int)]) (by simp)
          have y0 : w6.cell? ⟨bf, 0, none⟩ = some (.int .i64 0) := (b2.cell 0).trans rfl
          have y1 : w6.cell? ⟨bf, 1, none⟩ = some (.int .i64 1) := (b2.cell 1).trans rfl
          have y2 : w6.cell? ⟨bf, 2, none⟩ = some (.int .i64 0) := (b2.cell 2).trans rfl
          have y3 : w6.cell? ⟨bf, 3, none⟩ = some (.int .u64 (sig.a : Int)) := (b2.cell 3).trans rfl
          have y4 : w6.cell? ⟨bf, 4, none⟩ = some (.int .u64 (sig.b : Int)) := (b2.cell 4).trans rfl
          obtain ⟨R3, hR3, hR3b⟩ : ∃ R : Nat, IntKind.i64.wrap (3 + (ws.length : Int)) = (R : Int) ∧ R = ws.length + 3 := ⟨ws.length + 3, by rw [IntKind.wrap_i64]; omega, rfl⟩
          obtain ⟨R, hR, hRb⟩ : ∃ R : Nat, IntKind.i64.wrap ((R3 : Int) + 2) = (R : Int) ∧ R = ws.length + 5 := ⟨ws.length + 5, by rw [IntKind.wrap_i64]; omega, rfl⟩
          have hnew := HI6.out.new (cell := (ce : Int)) (own := own) (v := ((nth (LX xs n) (ce : Int)).getD 0)) 0 HOWN.out HSO.out HOK.out k3 k4 (by show (0 : Int) < 1; decide) rfl
          have QN : Hid (Calls Try.prog 13 #[PT z.p, .agg #[.int .i64 0, .int .i64 1, .int .i64 0, .int .u64 (sig.a : Int), .int .u64 (sig.b : Int)], .int .i64 ce] w6 fun e w' => ∃ b, e = .returned (.tuple #[PT b, .int .i64 0]) ∧ Al3 wb z b (c11 n nb) (LX xs n) ((nth (LX xs n) (ce : Int)).getD 0) ce (sig.join own) R3 (10 + 10 * i') [(w4.heap.size, 32, #[.int .u64 (own.a : Int), .int .u64 (own.b : Int)]), (bf, 34, #[.int .i64 0, .int .i64 1, .int .i64 0, .int .u64 (sig.a : Int), .int .u64 (sig.b : Int)])] w') := by
            rw [HWS.out] at hnew
            have e : ws.length + (if (0 : Int) = 0 then 3 else 5) = R3 := by rw [if_pos rfl]; omega
            rw [e] at hnew
            exact hnew
          clear hrow hk6 hnew b2 x0 x1 x3 x4 QT HI5
          go_wp2_with fail
          refine QN.out.mono ?_
          rintro e w7 ⟨b, rfl, ha7⟩
          have HA7 := Lib.hid ha7
          clear ha7 QN y0 y1 y2 y3 y4 HI6
          obtain ⟨vv, hvv⟩ : ∃ q, ((nth (LX xs n) (ce : Int)).getD 0) = q := ⟨_, rfl⟩
          rw [hvv] at HA7
          have HVV := Lib.hid hvv
          obtain ⟨bo, hbo⟩ : ∃ q, sig.join own = q := ⟨_, rfl⟩
          rw [hbo] at HA7
          have HBO := Lib.hid hbo
          have hbok : bo.ok := by rw [← hbo]; exact ⟨or_lt _ _ HSO.out.1 HOK.out.1, or_lt _ _ HSO.out.2 HOK.out.2⟩
          have HBOK := Lib.hid hbok
          obtain ⟨po, hpo⟩ : ∃ q, w4.heap.size = q := ⟨_, rfl⟩
          rw [hpo] at HA7
          obtain ⟨wo, hwo⟩ : ∃ q, q = wr := ⟨_, rfl⟩
          subst hwo
          clear hvv hbo hbok
          go_wp2_with fail
          clear hpo
          go_loopw [20] (fun kk wr => ∃ j : Nat, j ≤ R3 ∧ kk = .int .i64 j ∧ Al3 wb z b (c11 n nb) (LX xs n) vv ce bo (R3 - j) (10 + 10 * i' + j) [(po, 32, #[.int .u64 (own.a : Int), .int .u64 (own.b : Int)]), (bf, 34, #[.int .i64 0, .int .i64 1, .int .i64 0, .int .u64 (sig.a : Int), .int .u64 (sig.b : Int)])] wr) (fun kk _ => R3 - (intOf kk).toNat)
          case atStart => exact ⟨0, Nat.zero_le _, rfl, HA7.out⟩
          case round =>
            obtain ⟨j, hj, rfl, ha⟩ := hrel
            have HA8 := Lib.hid ha
            clear ha HA7
            have hwj : IntKind.i64.wrap ((j : Int) + 1) = (j : Int) + 1 := by rw [IntKind.wrap_i64]; omega
            have hd := HA8.out.done_
            by_cases hlj : (j : Int) < (R3 : Int)
            · have hRj : R3 - j ≠ 0 := by omega
              rw [show ((R3 - j) == 0) = false by simp; omega] at hd
              have QD := Lib.hid hd
              have QS := Lib.hid (HA8.out.step hRj (by omega))
              clear hd
              go_wp2_with fail
              refine QD.out.mono ?_
              rintro e wq ⟨rfl, rfl⟩
              go_wp2_with fail
              refine QS.out.mono ?_
              rintro e w9 ⟨rfl, ha9⟩
              rw [show R3 - j - 1 = R3 - (j + 1) by omega] at ha9
              have HA9 := Lib.hid ha9
              clear ha9 QS QD
              go_wp2_with fail
              exact ⟨⟨j + 1, by omega, by simp, HA9.out⟩, by simp [intOf]; omega⟩
            · have hR0 : R3 - j = 0 := by omega
              have ha := HA8.out
              rw [hR0] at ha
              obtain ⟨w8, hw8⟩ : ∃ q, q = wr := ⟨_, rfl⟩
              subst hw8
              have HA9 := Lib.hid ha
              clear ha hd
              go_wp2_with fail
              refine HA9.out.value.mono ?_
              rintro e w9 ⟨rfl, hk9⟩
              have HA10 := Lib.hid (HA9.out.calm hk9)
              have hAc := HA.out.keeps HA10.out.keep
              have HJ := Lib.hid hj
              clear hk9 HA9 HA8 hR0 hj
              by_cases hin : ce < xs.length
              · obtain ⟨xv, hxv⟩ : ∃ y, xs[ce]? = some y := ⟨_, List.getElem?_eq_getElem hin⟩
                have hvx : vv = xv := by rw [← HVV.out]; exact LX_in hxv
                obtain ⟨ab, ao, rfl, _, hac⟩ : ∃ b off, A = some ⟨b, off, none⟩ ∧ b < w9.heap.size ∧ ∀ k x, xs[k]? = some x → w9.cell? ⟨b, off + k, none⟩ = some (.int .i64 x) := by
                  rcases hAc.2 with h | h
                  · rw [h] at hxv; simp at hxv
                  · exact h
                have tx := hac ce xv hxv
                subst hvx
                have hin2 : (ce : Int) < (xs.length : Int) := by omega
                clear hac hxv hAc
                go_wp2_with fail
                refine HA10.out.done_.mono ?_
                rintro e wq ⟨rfl, rfl⟩
                go_wp2_with fail
                refine HA10.out.from_.mono ?_
                rintro e w11 ⟨rfl, hk11⟩
                have hid := (HA10.out.calm hk11).idle
                have hia := hid.add 34 #[.int .i64 0, .int .i64 1, .int .i64 0, .int .u64 (bo.a : Int), .int .u64 (bo.b : Int)]
                have HIA : Hid (Id3 wb z (c11 n nb) (LX xs n) bo (10 + 10 * i' + j) ((w11.heap.size, 34, #[.int .i64 0, .int .i64 1, .int .i64 0, .int .u64 (bo.a : Int), .int .u64 (bo.b : Int)]) :: [(po, 32, #[.int .u64 (own.a : Int), .int .u64 (own.b : Int)]), (bf, 34, #[.int .i64 0, .int .i64 1, .int .i64 0, .int .u64 (sig.a : Int), .int .u64 (sig.b : Int)])]) (w11.alloc (.cells #[.int .i64 0, .int .i64 1, .int .i64 0, .int .u64 (bo.a : Int), .int .u64 (bo.b : Int)] 34))) := hia
                have c0 := hia.loc (q := w11.heap.size) (t := 34) (cs := #[.int .i64 0, .int .i64 1, .int .i64 0, .int .u64 (bo.a : Int), .int .u64 (bo.b : Int)]) (by simp)
                have c1 := hia.loc (q := bf) (t := 34) (cs := #[.int .i64 0, .int .i64 1, .int .i64 0, .int .u64 (sig.a : Int), .int .u64 (sig.b : Int)]) (by simp)
                have c2 := hia.loc (q := po) (t := 32) (cs := #[.int .u64 (own.a : Int), .int .u64 (own.b : Int)]) (by simp)
                have HC := Lib.hid (show ∀ w', Keeps [] (w11.alloc (.cells #[.int .i64 0, .int .i64 1, .int .i64 0, .int .u64 (bo.a : Int), .int .u64 (bo.b : Int)] 34)) w' → w'.cell? ⟨w11.heap.size, 0, none⟩ = some (.int .i64 0) ∧ w'.cell? ⟨w11.heap.size, 1, none⟩ = some (.int .i64 1) ∧ w'.cell? ⟨w11.heap.size, 2, none⟩ = some (.int .i64 0) ∧ w'.cell? ⟨w11.heap.size, 3, none⟩ = some (.int .u64 (bo.a : Int)) ∧ w'.cell? ⟨w11.heap.size, 4, none⟩ = some (.int .u64 (bo.b : Int)) ∧ w'.cell? ⟨bf, 3, none⟩ = some (.int .u64 (sig.a : Int)) ∧ w'.cell? ⟨bf, 4, none⟩ = some (.int .u64 (sig.b : Int)) ∧ w'.cell? ⟨po, 0, none⟩ = some (.int .u64 (own.a : Int)) ∧ w'.cell? ⟨po, 1, none⟩ = some (.int .u64 (own.b : Int)) from fun w' hk => ⟨((c0.keeps hk (by simp)).cell 0).trans rfl, ((c0.keeps hk (by simp)).cell 1).trans rfl, ((c0.keeps hk (by simp)).cell 2).trans rfl, ((c0.keeps hk (by simp)).cell 3).trans rfl, ((c0.keeps hk (by simp)).cell 4).trans rfl, ((c1.keeps hk (by simp)).cell 3).trans rfl, ((c1.keeps hk (by simp)).cell 4).trans rfl, ((c2.keeps hk (by simp)).cell 0).trans rfl, ((c2.keeps hk (by simp)).cell 1).trans rfl⟩)
                have QJ : Hid (∀ w', Keeps [] (w11.alloc (.cells #[.int .i64 0, .int .i64 1, .int .i64 0, .int .u64 (bo.a : Int), .int .u64 (bo.b : Int)] 34)) w' → Calls Try.prog 18 #[.agg #[.int .u64 (sig.a : Int), .int .u64 (sig.b : Int)], .agg #[.int .u64 (own.a : Int), .int .u64 (own.b : Int)]] w' fun e w'' => e = .returned (.agg #[.int .u64 (bo.a : Int), .int .u64 (bo.b : Int)]) ∧ Keeps [] (w11.alloc (.cells #[.int .i64 0, .int .i64 1, .int .i64 0, .int .u64 (bo.a : Int), .int .u64 (bo.b : Int)] 34)) w'') := fun w' hk => by
                  refine (join_any w' sig own HSO.out HOK.out).mono ?_
                  rintro e w'' ⟨he, h2⟩
                  rw [HBO.out] at he
                  exact ⟨he, hk.trans h2 (by simp)⟩
                have QV : Hid (∀ w', Keeps [] (w11.alloc (.cells #[.int .i64 0, .int .i64 1, .int .i64 0, .int .u64 (bo.a : Int), .int .u64 (bo.b : Int)] 34)) w' → Calls Try.prog 19 #[PT z.p] w' fun e w'' => ∃ (v0 : Value) (n o : Int) (a2 c2 : Nat), e = .returned (.agg #[v0, .int .i64 n, .int .i64 o, .slice (some ⟨a2, 0, none⟩) 1 c2]) ∧ w''.cell? ⟨a2, 6, none⟩ = some (.int .u64 (bo.a : Int)) ∧ w''.cell? ⟨a2, 7, none⟩ = some (.int .u64 (bo.b : Int)) ∧ Keeps [] (w11.alloc (.cells #[.int .i64 0, .int .i64 1, .int .i64 0, .int .u64 (bo.a : Int), .int .u64 (bo.b : Int)] 34)) w'') := fun w' hk => by
                  refine (HIA.out.calm hk).view.mono ?_
                  rintro e w'' ⟨v0, n', o, a2, c2, he, h1, h2, h3⟩
                  exact ⟨v0, n', o, a2, c2, he, h1, h2, hk.trans h3 (by simp)⟩
                have hq1 := fun w => from_eq w 0 1 0 (bo.a : Int) (bo.b : Int)
                have hq2 := fun w => sig_same10 w (bo.a : Int) (bo.b : Int)
                have hfd : ∀ (v0 : Value) (n' o : Int) (s : Value) (w : World), (Instr.field 54 (.agg #[v0, .int .i64 n', .int .i64 o, s]) 2).run Try.prog w = .ok s w := fun v0 n' o s w => by kernel_rfl
                have hkB : Keeps [] (w11.alloc (.cells #[.int .i64 0, .int .i64 1, .int .i64 0, .int .u64 (bo.a : Int), .int .u64 (bo.b : Int)] 34)) (w11.alloc (.cells #[.int .i64 0, .int .i64 1, .int .i64 0, .int .u64 (bo.a : Int), .int .u64 (bo.b : Int)] 34)) := Keeps.refl _ _
                clear hid hia c0 c1 c2 hk11
                go_wp2_with fail
                refine wp_region_noPanic ?_
                refine wp_region_L 99 (fun w' => w'.cell? ⟨w11.heap.size, 0, none⟩ = some (.int .i64 0) ∧ w'.cell? ⟨w11.heap.size, 1, none⟩ = some (.int .i64 1) ∧ w'.cell? ⟨w11.heap.size, 2, none⟩ = some (.int .i64 0) ∧ w'.cell? ⟨w11.heap.size, 3, none⟩ = some (.int .u64 (bo.a : Int)) ∧ w'.cell? ⟨w11.heap.size, 4, none⟩ = some (.int .u64 (bo.b : Int)) ∧ w'.cell? ⟨bf, 3, none⟩ = some (.int .u64 (sig.a : Int)) ∧ w'.cell? ⟨bf, 4, none⟩ = some (.int .u64 (sig.b : Int)) ∧ w'.cell? ⟨po, 0, none⟩ = some (.int .u64 (own.a : Int)) ∧ w'.cell? ⟨po, 1, none⟩ = some (.int .u64 (own.b : Int))) (by kernel_rfl) ?_
                have hHeld := HC.out _ hkB.drew
                refine wpAnyL_take (i := 0) (v := ?rva00) rfl (by kernel_rfl) (by kernel_rfl) (by kernel_rfl) (by kernel_rfl) (fun _ _ _ h => h) (Or.inl ⟨by rfl, ?rya00⟩) hHeld ?rra00
                case rya00 => (intro w' hSw; obtain ⟨x0, x1, x2, x3, x4, x5, x6, x7, x8⟩ := hSw; go_simp; first | done | with_reducible rfl)
                case' rra00 => (try simp only [Act.put, List.setIfInBounds_toArray, List.set_cons_zero, List.set_cons_succ])
                refine wpAnyL_take (i := 1) (v := ?rva01) rfl (by kernel_rfl) (by kernel_rfl) (by kernel_rfl) (by kernel_rfl) (fun _ _ _ h => h) (Or.inl ⟨by rfl, ?rya01⟩) hHeld ?rra01
                case rya01 => (intro w' hSw; obtain ⟨x0, x1, x2, x3, x4, x5, x6, x7, x8⟩ := hSw; go_simp; first | done | with_reducible rfl)
                case' rra01 => (try simp only [Act.put, List.setIfInBounds_toArray, List.set_cons_zero, List.set_cons_succ])
                refine wpAnyL_take (i := 2) (v := ?rva02) rfl (by kernel_rfl) (by kernel_rfl) (by kernel_rfl) (by kernel_rfl) (fun _ _ _ h => h) (Or.inl ⟨by rfl, ?rya02⟩) hHeld ?rra02
                case rya02 => (intro w' hSw; obtain ⟨x0, x1, x2, x3, x4, x5, x6, x7, x8⟩ := hSw; go_simp; first | done | with_reducible rfl)
                case' rra02 => (try simp only [Act.put, List.setIfInBounds_toArray, List.set_cons_zero, List.set_cons_succ])
                refine wpAnyL_take (i := 3) (v := ?rva03) rfl (by kernel_rfl) (by kernel_rfl) (by kernel_rfl) (by kernel_rfl) (fun _ _ _ h => h) (Or.inl ⟨by rfl, ?rya03⟩) hHeld ?rra03
                case rya03 => (intro w' hSw; obtain ⟨x0, x1, x2, x3, x4, x5, x6, x7, x8⟩ := hSw; go_simp; first | done | with_reducible rfl)
                case' rra03 => (try simp only [Act.put, List.setIfInBounds_toArray, List.set_cons_zero, List.set_cons_succ])
                refine wpAnyL_one (i := 4) (by kernel_rfl) rfl (fun K hK => ?_)
                go_simp
                go_at_call 18
                refine (QJ.out _ hkB.drew).mono ?_
                rintro e wc ⟨rfl, hkc⟩
                go_simp
                refine hK.out _ _ (fun _ => HC.out _ hkc) ?_
                clear hK K
                try simp only [Act.put, List.setIfInBounds_toArray, List.set_cons_zero, List.set_cons_succ]
                replace hHeld := HC.out _ hkc
                refine wpAnyL_take (i := 5) (v := ?rva05) rfl (by kernel_rfl) (by kernel_rfl) (by kernel_rfl) (by kernel_rfl) (fun _ _ _ h => h) (Or.inl ⟨by rfl, ?rya05⟩) hHeld ?rra05
                case rya05 => (intro w' hSw; obtain ⟨x0, x1, x2, x3, x4, x5, x6, x7, x8⟩ := hSw; go_simp; first | done | with_reducible rfl)
                case' rra05 => (try simp only [Act.put, List.setIfInBounds_toArray, List.set_cons_zero, List.set_cons_succ])
                refine wpAnyL_take (i := 6) (v := ?rva06) rfl (by kernel_rfl) (by kernel_rfl) (by kernel_rfl) (by kernel_rfl) (fun _ _ _ h => h) (Or.inl ⟨by rfl, ?rya06⟩) hHeld ?rra06
                case rya06 => (intro w' hSw; obtain ⟨x0, x1, x2, x3, x4, x5, x6, x7, x8⟩ := hSw; go_simp; first | done | with_reducible rfl)
                case' rra06 => (try simp only [Act.put, List.setIfInBounds_toArray, List.set_cons_zero, List.set_cons_succ])
                refine wpAnyL_take (i := 7) (v := ?rva07) rfl (by kernel_rfl) (by kernel_rfl) (by kernel_rfl) (by kernel_rfl) (fun _ _ _ h => h) (Or.inl ⟨by rfl, ?rya07⟩) hHeld ?rra07
                case rya07 => (intro w' hSw; obtain ⟨x0, x1, x2, x3, x4, x5, x6, x7, x8⟩ := hSw; go_simp; first | done | with_reducible rfl)
                case' rra07 => (try simp only [Act.put, List.setIfInBounds_toArray, List.set_cons_zero, List.set_cons_succ])
                refine wpAnyL_take (i := 8) (v := ?rva08) rfl (by kernel_rfl) (by kernel_rfl) (by kernel_rfl) (by kernel_rfl) (fun _ _ _ h => h) (Or.inl ⟨by rfl, ?rya08⟩) hHeld ?rra08
                case rya08 => (intro w' hSw; obtain ⟨x0, x1, x2, x3, x4, x5, x6, x7, x8⟩ := hSw; go_simp; first | done | with_reducible rfl)
                case' rra08 => (try simp only [Act.put, List.setIfInBounds_toArray, List.set_cons_zero, List.set_cons_succ])
                refine wpAnyL_take (i := 14) (v := ?rva014) rfl (by kernel_rfl) (by kernel_rfl) (by kernel_rfl) (by kernel_rfl) (fun _ _ _ h => h) (Or.inl ⟨by rfl, ?rya014⟩) hHeld ?rra014
                case rya014 => (intro w' hSw; obtain ⟨x0, x1, x2, x3, x4, x5, x6, x7, x8⟩ := hSw; go_simp; first | done | with_reducible rfl)
                case' rra014 => (try simp only [Act.put, List.setIfInBounds_toArray, List.set_cons_zero, List.set_cons_succ])
                refine wpAnyL_take (i := 15) (v := ?rva015) rfl (by kernel_rfl) (by kernel_rfl) (by kernel_rfl) (by kernel_rfl) (fun _ _ _ h => h) (Or.inl ⟨by rfl, ?rya015⟩) hHeld ?rra015
                case rya015 => (intro w' hSw; obtain ⟨x0, x1, x2, x3, x4, x5, x6, x7, x8⟩ := hSw; go_simp; first | done | with_reducible rfl)
                case' rra015 => (try simp only [Act.put, List.setIfInBounds_toArray, List.set_cons_zero, List.set_cons_succ])
                refine wpAnyL_one (i := 9) (by kernel_rfl) rfl (fun K hK => ?_)
                go_simp
                go_at_call 19
                refine (QV.out _ hkc).mono ?_
                rintro e wd ⟨v0, vn, vo, a2, c2, rfl, g6, g7, hkd⟩
                go_simp
                refine hK.out _ _ (fun _ => HC.out _ hkd) ?_
                clear hK K
                try simp only [Act.put, List.setIfInBounds_toArray, List.set_cons_zero, List.set_cons_succ]
                replace hHeld := HC.out _ hkd
                refine wpAnyL_take (i := 10) (v := ?rva010) rfl (by kernel_rfl) (by kernel_rfl) (by kernel_rfl) (by kernel_rfl) (fun _ _ _ h => h) (Or.inl ⟨by rfl, ?rya010⟩) hHeld ?rra010
                case rya010 => (intro w' hSw; obtain ⟨x0, x1, x2, x3, x4, x5, x6, x7, x8⟩ := hSw; go_simp; first | done | with_reducible rfl)
                case' rra010 => (try simp only [Act.put, List.setIfInBounds_toArray, List.set_cons_zero, List.set_cons_succ])
                refine wpAnyL_take (i := 11) (v := ?rva011) rfl (by kernel_rfl) (by kernel_rfl) (by kernel_rfl) (by kernel_rfl) (fun _ _ _ h => h) (Or.inl ⟨by rfl, ?rya011⟩) hHeld ?rra011
                case rya011 => (intro w' hSw; obtain ⟨x0, x1, x2, x3, x4, x5, x6, x7, x8⟩ := hSw; go_simp; first | done | with_reducible rfl)
                case' rra011 => (try simp only [Act.put, List.setIfInBounds_toArray, List.set_cons_zero, List.set_cons_succ])
                refine wpAnyL_take (i := 12) (v := ?rva012) rfl (by kernel_rfl) (by kernel_rfl) (by kernel_rfl) (by kernel_rfl) (fun _ _ _ h => h) (Or.inl ⟨by rfl, ?rya012⟩) hHeld ?rra012
                case rya012 => (intro w' hSw; obtain ⟨x0, x1, x2, x3, x4, x5, x6, x7, x8⟩ := hSw; go_simp; first | done | with_reducible rfl)
                case' rra012 => (try simp only [Act.put, List.setIfInBounds_toArray, List.set_cons_zero, List.set_cons_succ])
                refine wpAnyL_one (i := 13) (by kernel_rfl) rfl (fun K hK => ?_)
                go_simp
                refine hK.out _ _ (fun _ => HC.out _ hkd) ?_
                clear hK K
                try simp only [Act.put, List.setIfInBounds_toArray, List.set_cons_zero, List.set_cons_succ]
                refine wpAnyL_take (i := 16) (v := ?rva016) rfl (by kernel_rfl) (by kernel_rfl) (by kernel_rfl) (by kernel_rfl) (fun _ _ _ h => h) (Or.inl ⟨by rfl, ?rya016⟩) hHeld ?rra016
                case rya016 => (intro w' hSw; obtain ⟨x0, x1, x2, x3, x4, x5, x6, x7, x8⟩ := hSw; go_simp; first | done | with_reducible rfl)
                case' rra016 => (try simp only [Act.put, List.setIfInBounds_toArray, List.set_cons_zero, List.set_cons_succ])
                refine wpAnyL_take (i := 17) (v := ?rva017) rfl (by kernel_rfl) (by kernel_rfl) (by kernel_rfl) (by kernel_rfl) (fun _ _ _ h => h) (Or.inl ⟨by rfl, ?rya017⟩) hHeld ?rra017
                case rya017 => (intro w' hSw; obtain ⟨x0, x1, x2, x3, x4, x5, x6, x7, x8⟩ := hSw; go_simp; first | done | with_reducible rfl)
                case' rra017 => (try simp only [Act.put, List.setIfInBounds_toArray, List.set_cons_zero, List.set_cons_succ])
                refine wpAnyL_done (by kernel_rfl) ?_ _
                refine NoPanic.normal ?_
                simp only [List.getElem_toArray, List.getElem_cons_succ, List.getElem_cons_zero, Act.put, List.setIfInBounds_toArray, List.set_cons_zero, List.set_cons_succ]
                have hidw := HIA.out.calm hkd
                have e1 := hidw.loc (q := bf) (t := 34) (cs := #[.int .i64 0, .int .i64 1, .int .i64 0, .int .u64 (sig.a : Int), .int .u64 (sig.b : Int)]) (by simp)
                obtain ⟨u0, u1, u2, u3, u4, _, _, _, _⟩ := HC.out _ hkd
                have v0' : wd.cell? ⟨bf, 0, none⟩ = some (.int .i64 0) := (e1.cell 0).trans rfl
                have v1' : wd.cell? ⟨bf, 1, none⟩ = some (.int .i64 1) := (e1.cell 1).trans rfl
                have v2' : wd.cell? ⟨bf, 2, none⟩ = some (.int .i64 0) := (e1.cell 2).trans rfl
                have v3' : wd.cell? ⟨bf, 3, none⟩ = some (.int .u64 (sig.a : Int)) := (e1.cell 3).trans rfl
                have v4' : wd.cell? ⟨bf, 4, none⟩ = some (.int .u64 (sig.b : Int)) := (e1.cell 4).trans rfl
                have f0 := e1.frozen 0
                have f1 := e1.frozen 1
                have f2 := e1.frozen 2
                have f3 := e1.frozen 3
                have f4 := e1.frozen 4
                have hkf : Keeps [bf] wd (((((wd.setCell ⟨bf, 0, none⟩ (.int .i64 0)).setCell ⟨bf, 1, none⟩ (.int .i64 1)).setCell ⟨bf, 2, none⟩ (.int .i64 0)).setCell ⟨bf, 3, none⟩ (.int .u64 (bo.a : Int))).setCell ⟨bf, 4, none⟩ (.int .u64 (bo.b : Int))) := (((((Keeps.refl [bf] wd).setCell (.inl (by simp)) _).setCell (.inl (by simp)) _).setCell (.inl (by simp)) _).setCell (.inl (by simp)) _).setCell (.inl (by simp)) _
                have hbf2 : Blk (((((wd.setCell ⟨bf, 0, none⟩ (.int .i64 0)).setCell ⟨bf, 1, none⟩ (.int .i64 1)).setCell ⟨bf, 2, none⟩ (.int .i64 0)).setCell ⟨bf, 3, none⟩ (.int .u64 (bo.a : Int))).setCell ⟨bf, 4, none⟩ (.int .u64 (bo.b : Int))) bf 34 #[.int .i64 0, .int .i64 1, .int .i64 0, .int .u64 (bo.a : Int), .int .u64 (bo.b : Int)] := ((((e1.set_ 0 (.int .i64 0)).set_ 1 (.int .i64 1)).set_ 2 (.int .i64 0)).set_ 3 (.int .u64 (bo.a : Int))).set_ 4 (.int .u64 (bo.b : Int))
                have hidf := ((hidw.less (l' := [(bf, 34, #[.int .i64 0, .int .i64 1, .int .i64 0, .int .u64 (sig.a : Int), .int .u64 (sig.b : Int)])]) (fun x hx => by simp at hx; subst hx; simp)).put HBL.out (by decide) hkf hbf2).wide (j := 10 + 10 * (i' + 1)) (by have := HJ.out; omega)
                have HIF := Lib.hid hidf
                clear hidw e1 hkf hbf2 hidf
                go_wp2_with fail
                exact ⟨⟨i' + 1, bo, 0, by omega, by omega, by simp, HBOK.out, .inl rfl, HIF.out⟩, by simp [intOf]; omega⟩
              · have hvx : vv = 0 := by rw [← HVV.out]; exact LX_out (by omega)
                subst hvx
                clear hAc
                go_wp2_with fail
                refine HA10.out.done_.mono ?_
                rintro e wq ⟨rfl, rfl⟩
                go_wp2_with fail
                refine HA10.out.from_.mono ?_
                rintro e w11 ⟨rfl, hk11⟩
                have hid := (HA10.out.calm hk11).idle
                have hia := hid.add 34 #[.int .i64 0, .int .i64 1, .int .i64 0, .int .u64 (bo.a : Int), .int .u64 (bo.b : Int)]
                have HIA : Hid (Id3 wb z (c11 n nb) (LX xs n) bo (10 + 10 * i' + j) ((w11.heap.size, 34, #[.int .i64 0, .int .i64 1, .int .i64 0, .int .u64 (bo.a : Int), .int .u64 (bo.b : Int)]) :: [(po, 32, #[.int .u64 (own.a : Int), .int .u64 (own.b : Int)]), (bf, 34, #[.int .i64 0, .int .i64 1, .int .i64 0, .int .u64 (sig.a : Int), .int .u64 (sig.b : Int)])]) (w11.alloc (.cells #[.int .i64 0, .int .i64 1, .int .i64 0, .int .u64 (bo.a : Int), .int .u64 (bo.b : Int)] 34))) := hia
                have c0 := hia.loc (q := w11.heap.size) (t := 34) (cs := #[.int .i64 0, .int .i64 1, .int .i64 0, .int .u64 (bo.a : Int), .int .u64 (bo.b : Int)]) (by simp)
                have c1 := hia.loc (q := bf) (t := 34) (cs := #[.int .i64 0, .int .i64 1, .int .i64 0, .int .u64 (sig.a : Int), .int .u64 (sig.b : Int)]) (by simp)
                have c2 := hia.loc (q := po) (t := 32) (cs := #[.int .u64 (own.a : Int), .int .u64 (own.b : Int)]) (by simp)
                have HC := Lib.hid (show ∀ w', Keeps [] (w11.alloc (.cells #[.int .i64 0, .int .i64 1, .int .i64 0, .int .u64 (bo.a : Int), .int .u64 (bo.b : Int)] 34)) w' → w'.cell? ⟨w11.heap.size, 0, none⟩ = some (.int .i64 0) ∧ w'.cell? ⟨w11.heap.size, 1, none⟩ = some (.int .i64 1) ∧ w'.cell? ⟨w11.heap.size, 2, none⟩ = some (.int .i64 0) ∧ w'.cell? ⟨w11.heap.size, 3, none⟩ = some (.int .u64 (bo.a : Int)) ∧ w'.cell? ⟨w11.heap.size, 4, none⟩ = some (.int .u64 (bo.b : Int)) ∧ w'.cell? ⟨bf, 3, none⟩ = some (.int .u64 (sig.a : Int)) ∧ w'.cell? ⟨bf, 4, none⟩ = some (.int .u64 (sig.b : Int)) ∧ w'.cell? ⟨po, 0, none⟩ = some (.int .u64 (own.a : Int)) ∧ w'.cell? ⟨po, 1, none⟩ = some (.int .u64 (own.b : Int)) from fun w' hk => ⟨((c0.keeps hk (by simp)).cell 0).trans rfl, ((c0.keeps hk (by simp)).cell 1).trans rfl, ((c0.keeps hk (by simp)).cell 2).trans rfl, ((c0.keeps hk (by simp)).cell 3).trans rfl, ((c0.keeps hk (by simp)).cell 4).trans rfl, ((c1.keeps hk (by simp)).cell 3).trans rfl, ((c1.keeps hk (by simp)).cell 4).trans rfl, ((c2.keeps hk (by simp)).cell 0).trans rfl, ((c2.keeps hk (by simp)).cell 1).trans rfl⟩)
                have QJ : Hid (∀ w', Keeps [] (w11.alloc (.cells #[.int .i64 0, .int .i64 1, .int .i64 0, .int .u64 (bo.a : Int), .int .u64 (bo.b : Int)] 34)) w' → Calls Try.prog 18 #[.agg #[.int .u64 (sig.a : Int), .int .u64 (sig.b : Int)], .agg #[.int .u64 (own.a : Int), .int .u64 (own.b : Int)]] w' fun e w'' => e = .returned (.agg #[.int .u64 (bo.a : Int), .int .u64 (bo.b : Int)]) ∧ Keeps [] (w11.alloc (.cells #[.int .i64 0, .int .i64 1, .int .i64 0, .int .u64 (bo.a : Int), .int .u64 (bo.b : Int)] 34)) w'') := fun w' hk => by
                  refine (join_any w' sig own HSO.out HOK.out).mono ?_
                  rintro e w'' ⟨he, h2⟩
                  rw [HBO.out] at he
                  exact ⟨he, hk.trans h2 (by simp)⟩
                have QV : Hid (∀ w', Keeps [] (w11.alloc (.cells #[.int .i64 0, .int .i64 1, .int .i64 0, .int .u64 (bo.a : Int), .int .u64 (bo.b : Int)] 34)) w' → Calls Try.prog 19 #[PT z.p] w' fun e w'' => ∃ (v0 : Value) (n o : Int) (a2 c2 : Nat), e = .returned (.agg #[v0, .int .i64 n, .int .i64 o, .slice (some ⟨a2, 0, none⟩) 1 c2]) ∧ w''.cell? ⟨a2, 6, none⟩ = some (.int .u64 (bo.a : Int)) ∧ w''.cell? ⟨a2, 7, none⟩ = some (.int .u64 (bo.b : Int)) ∧ Keeps [] (w11.alloc (.cells #[.int .i64 0, .int .i64 1, .int .i64 0, .int .u64 (bo.a : Int), .int .u64 (bo.b : Int)] 34)) w'') := fun w' hk => by
                  refine (HIA.out.calm hk).view.mono ?_
                  rintro e w'' ⟨v0, n', o, a2, c2, he, h1, h2, h3⟩
                  exact ⟨v0, n', o, a2, c2, he, h1, h2, hk.trans h3 (by simp)⟩
                have hq1 := fun w => from_eq w 0 1 0 (bo.a : Int) (bo.b : Int)
                have hq2 := fun w => sig_same10 w (bo.a : Int) (bo.b : Int)
                have hfd : ∀ (v0 : Value) (n' o : Int) (s : Value) (w : World), (Instr.field 54 (.agg #[v0, .int .i64 n', .int .i64 o, s]) 2).run Try.prog w = .ok s w := fun v0 n' o s w => by kernel_rfl
                have hkB : Keeps [] (w11.alloc (.cells #[.int .i64 0, .int .i64 1, .int .i64 0, .int .u64 (bo.a : Int), .int .u64 (bo.b : Int)] 34)) (w11.alloc (.cells #[.int .i64 0, .int .i64 1, .int .i64 0, .int .u64 (bo.a : Int), .int .u64 (bo.b : Int)] 34)) := Keeps.refl _ _
                clear hid hia c0 c1 c2 hk11
                go_wp2_with fail
                refine wp_region_noPanic ?_
                refine wp_region_L 99 (fun w' => w'.cell? ⟨w11.heap.size, 0, none⟩ = some (.int .i64 0) ∧ w'.cell? ⟨w11.heap.size, 1, none⟩ = some (.int .i64 1) ∧ w'.cell? ⟨w11.heap.size, 2, none⟩ = some (.int .i64 0) ∧ w'.cell? ⟨w11.heap.size, 3, none⟩ = some (.int .u64 (bo.a : Int)) ∧ w'.cell? ⟨w11.heap.size, 4, none⟩ = some (.int .u64 (bo.b : Int)) ∧ w'.cell? ⟨bf, 3, none⟩ = some (.int .u64 (sig.a : Int)) ∧ w'.cell? ⟨bf, 4, none⟩ = some (.int .u64 (sig.b : Int)) ∧ w'.cell? ⟨po, 0, none⟩ = some (.int .u64 (own.a : Int)) ∧ w'.cell? ⟨po, 1, none⟩ = some (.int .u64 (own.b : Int))) (by kernel_rfl) ?_
                have hHeld := HC.out _ hkB.drew
                refine wpAnyL_take (i := 0) (v := ?rvb00) rfl (by kernel_rfl) (by kernel_rfl) (by kernel_rfl) (by kernel_rfl) (fun _ _ _ h => h) (Or.inl ⟨by rfl, ?ryb00⟩) hHeld ?rrb00
                case ryb00 => (intro w' hSw; obtain ⟨x0, x1, x2, x3, x4, x5, x6, x7, x8⟩ := hSw; go_simp; first | done | with_reducible rfl)
                case' rrb00 => (try simp only [Act.put, List.setIfInBounds_toArray, List.set_cons_zero, List.set_cons_succ])
                refine wpAnyL_take (i := 1) (v := ?rvb01) rfl (by kernel_rfl) (by kernel_rfl) (by kernel_rfl) (by kernel_rfl) (fun _ _ _ h => h) (Or.inl ⟨by rfl, ?ryb01⟩) hHeld ?rrb01
                case ryb01 => (intro w' hSw; obtain ⟨x0, x1, x2, x3, x4, x5, x6, x7, x8⟩ := hSw; go_simp; first | done | with_reducible rfl)
                case' rrb01 => (try simp only [Act.put, List.setIfInBounds_toArray, List.set_cons_zero, List.set_cons_succ])
                refine wpAnyL_take (i := 2) (v := ?rvb02) rfl (by kernel_rfl) (by kernel_rfl) (by kernel_rfl) (by kernel_rfl) (fun _ _ _ h => h) (Or.inl ⟨by rfl, ?ryb02⟩) hHeld ?rrb02
                case ryb02 => (intro w' hSw; obtain ⟨x0, x1, x2, x3, x4, x5, x6, x7, x8⟩ := hSw; go_simp; first | done | with_reducible rfl)
                case' rrb02 => (try simp only [Act.put, List.setIfInBounds_toArray, List.set_cons_zero, List.set_cons_succ])
                refine wpAnyL_take (i := 3) (v := ?rvb03) rfl (by kernel_rfl) (by kernel_rfl) (by kernel_rfl) (by kernel_rfl) (fun _ _ _ h => h) (Or.inl ⟨by rfl, ?ryb03⟩) hHeld ?rrb03
                case ryb03 => (intro w' hSw; obtain ⟨x0, x1, x2, x3, x4, x5, x6, x7, x8⟩ := hSw; go_simp; first | done | with_reducible rfl)
                case' rrb03 => (try simp only [Act.put, List.setIfInBounds_toArray, List.set_cons_zero, List.set_cons_succ])
                refine wpAnyL_one (i := 4) (by kernel_rfl) rfl (fun K hK => ?_)
                go_simp
                go_at_call 18
                refine (QJ.out _ hkB.drew).mono ?_
                rintro e wc ⟨rfl, hkc⟩
                go_simp
                refine hK.out _ _ (fun _ => HC.out _ hkc) ?_
                clear hK K
                try simp only [Act.put, List.setIfInBounds_toArray, List.set_cons_zero, List.set_cons_succ]
                replace hHeld := HC.out _ hkc
                refine wpAnyL_take (i := 5) (v := ?rvb05) rfl (by kernel_rfl) (by kernel_rfl) (by kernel_rfl) (by kernel_rfl) (fun _ _ _ h => h) (Or.inl ⟨by rfl, ?ryb05⟩) hHeld ?rrb05
                case ryb05 => (intro w' hSw; obtain ⟨x0, x1, x2, x3, x4, x5, x6, x7, x8⟩ := hSw; go_simp; first | done | with_reducible rfl)
                case' rrb05 => (try simp only [Act.put, List.setIfInBounds_toArray, List.set_cons_zero, List.set_cons_succ])
                refine wpAnyL_take (i := 6) (v := ?rvb06) rfl (by kernel_rfl) (by kernel_rfl) (by kernel_rfl) (by kernel_rfl) (fun _ _ _ h => h) (Or.inl ⟨by rfl, ?ryb06⟩) hHeld ?rrb06
                case ryb06 => (intro w' hSw; obtain ⟨x0, x1, x2, x3, x4, x5, x6, x7, x8⟩ := hSw; go_simp; first | done | with_reducible rfl)
                case' rrb06 => (try simp only [Act.put, List.setIfInBounds_toArray, List.set_cons_zero, List.set_cons_succ])
                refine wpAnyL_take (i := 7) (v := ?rvb07) rfl (by kernel_rfl) (by kernel_rfl) (by kernel_rfl) (by kernel_rfl) (fun _ _ _ h => h) (Or.inl ⟨by rfl, ?ryb07⟩) hHeld ?rrb07
                case ryb07 => (intro w' hSw; obtain ⟨x0, x1, x2, x3, x4, x5, x6, x7, x8⟩ := hSw; go_simp; first | done | with_reducible rfl)
                case' rrb07 => (try simp only [Act.put, List.setIfInBounds_toArray, List.set_cons_zero, List.set_cons_succ])
                refine wpAnyL_take (i := 8) (v := ?rvb08) rfl (by kernel_rfl) (by kernel_rfl) (by kernel_rfl) (by kernel_rfl) (fun _ _ _ h => h) (Or.inl ⟨by rfl, ?ryb08⟩) hHeld ?rrb08
                case ryb08 => (intro w' hSw; obtain ⟨x0, x1, x2, x3, x4, x5, x6, x7, x8⟩ := hSw; go_simp; first | done | with_reducible rfl)
                case' rrb08 => (try simp only [Act.put, List.setIfInBounds_toArray, List.set_cons_zero, List.set_cons_succ])
                refine wpAnyL_take (i := 14) (v := ?rvb014) rfl (by kernel_rfl) (by kernel_rfl) (by kernel_rfl) (by kernel_rfl) (fun _ _ _ h => h) (Or.inl ⟨by rfl, ?ryb014⟩) hHeld ?rrb014
                case ryb014 => (intro w' hSw; obtain ⟨x0, x1, x2, x3, x4, x5, x6, x7, x8⟩ := hSw; go_simp; first | done | with_reducible rfl)
                case' rrb014 => (try simp only [Act.put, List.setIfInBounds_toArray, List.set_cons_zero, List.set_cons_succ])
                refine wpAnyL_take (i := 15) (v := ?rvb015) rfl (by kernel_rfl) (by kernel_rfl) (by kernel_rfl) (by kernel_rfl) (fun _ _ _ h => h) (Or.inl ⟨by rfl, ?ryb015⟩) hHeld ?rrb015
                case ryb015 => (intro w' hSw; obtain ⟨x0, x1, x2, x3, x4, x5, x6, x7, x8⟩ := hSw; go_simp; first | done | with_reducible rfl)
                case' rrb015 => (try simp only [Act.put, List.setIfInBounds_toArray, List.set_cons_zero, List.set_cons_succ])
                refine wpAnyL_one (i := 9) (by kernel_rfl) rfl (fun K hK => ?_)
                go_simp
                go_at_call 19
                refine (QV.out _ hkc).mono ?_
                rintro e wd ⟨v0, vn, vo, a2, c2, rfl, g6, g7, hkd⟩
                go_simp
                refine hK.out _ _ (fun _ => HC.out _ hkd) ?_
                clear hK K
                try simp only [Act.put, List.setIfInBounds_toArray, List.set_cons_zero, List.set_cons_succ]
                replace hHeld := HC.out _ hkd
                refine wpAnyL_take (i := 10) (v := ?rvb010) rfl (by kernel_rfl) (by kernel_rfl) (by kernel_rfl) (by kernel_rfl) (fun _ _ _ h => h) (Or.inl ⟨by rfl, ?ryb010⟩) hHeld ?rrb010
                case ryb010 => (intro w' hSw; obtain ⟨x0, x1, x2, x3, x4, x5, x6, x7, x8⟩ := hSw; go_simp; first | done | with_reducible rfl)
                case' rrb010 => (try simp only [Act.put, List.setIfInBounds_toArray, List.set_cons_zero, List.set_cons_succ])
                refine wpAnyL_take (i := 11) (v := ?rvb011) rfl (by kernel_rfl) (by kernel_rfl) (by kernel_rfl) (by kernel_rfl) (fun _ _ _ h => h) (Or.inl ⟨by rfl, ?ryb011⟩) hHeld ?rrb011
                case ryb011 => (intro w' hSw; obtain ⟨x0, x1, x2, x3, x4, x5, x6, x7, x8⟩ := hSw; go_simp; first | done | with_reducible rfl)
                case' rrb011 => (try simp only [Act.put, List.setIfInBounds_toArray, List.set_cons_zero, List.set_cons_succ])
                refine wpAnyL_take (i := 12) (v := ?rvb012) rfl (by kernel_rfl) (by kernel_rfl) (by kernel_rfl) (by kernel_rfl) (fun _ _ _ h => h) (Or.inl ⟨by rfl, ?ryb012⟩) hHeld ?rrb012
                case ryb012 => (intro w' hSw; obtain ⟨x0, x1, x2, x3, x4, x5, x6, x7, x8⟩ := hSw; go_simp; first | done | with_reducible rfl)
                case' rrb012 => (try simp only [Act.put, List.setIfInBounds_toArray, List.set_cons_zero, List.set_cons_succ])
                refine wpAnyL_one (i := 13) (by kernel_rfl) rfl (fun K hK => ?_)
                go_simp
                refine hK.out _ _ (fun _ => HC.out _ hkd) ?_
                clear hK K
                try simp only [Act.put, List.setIfInBounds_toArray, List.set_cons_zero, List.set_cons_succ]
                refine wpAnyL_take (i := 16) (v := ?rvb016) rfl (by kernel_rfl) (by kernel_rfl) (by kernel_rfl) (by kernel_rfl) (fun _ _ _ h => h) (Or.inl ⟨by rfl, ?ryb016⟩) hHeld ?rrb016
                case ryb016 => (intro w' hSw; obtain ⟨x0, x1, x2, x3, x4, x5, x6, x7, x8⟩ := hSw; go_simp; first | done | with_reducible rfl)
                case' rrb016 => (try simp only [Act.put, List.setIfInBounds_toArray, List.set_cons_zero, List.set_cons_succ])
                refine wpAnyL_take (i := 17) (v := ?rvb017) rfl (by kernel_rfl) (by kernel_rfl) (by kernel_rfl) (by kernel_rfl) (fun _ _ _ h => h) (Or.inl ⟨by rfl, ?ryb017⟩) hHeld ?rrb017
                case ryb017 => (intro w' hSw; obtain ⟨x0, x1, x2, x3, x4, x5, x6, x7, x8⟩ := hSw; go_simp; first | done | with_reducible rfl)
                case' rrb017 => (try simp only [Act.put, List.setIfInBounds_toArray, List.set_cons_zero, List.set_cons_succ])
                refine wpAnyL_done (by kernel_rfl) ?_ _
                refine NoPanic.normal ?_
                simp only [List.getElem_toArray, List.getElem_cons_succ, List.getElem_cons_zero, Act.put, List.setIfInBounds_toArray, List.set_cons_zero, List.set_cons_succ]
                have hidw := HIA.out.calm hkd
                have e1 := hidw.loc (q := bf) (t := 34) (cs := #[.int .i64 0, .int .i64 1, .int .i64 0, .int .u64 (sig.a : Int), .int .u64 (sig.b : Int)]) (by simp)
                obtain ⟨u0, u1, u2, u3, u4, _, _, _, _⟩ := HC.out _ hkd
                have v0' : wd.cell? ⟨bf, 0, none⟩ = some (.int .i64 0) := (e1.cell 0).trans rfl
                have v1' : wd.cell? ⟨bf, 1, none⟩ = some (.int .i64 1) := (e1.cell 1).trans rfl
                have v2' : wd.cell? ⟨bf, 2, none⟩ = some (.int .i64 0) := (e1.cell 2).trans rfl
                have v3' : wd.cell? ⟨bf, 3, none⟩ = some (.int .u64 (sig.a : Int)) := (e1.cell 3).trans rfl
                have v4' : wd.cell? ⟨bf, 4, none⟩ = some (.int .u64 (sig.b : Int)) := (e1.cell 4).trans rfl
                have f0 := e1.frozen 0
                have f1 := e1.frozen 1
                have f2 := e1.frozen 2
                have f3 := e1.frozen 3
                have f4 := e1.frozen 4
                have hkf : Keeps [bf] wd (((((wd.setCell ⟨bf, 0, none⟩ (.int .i64 0)).setCell ⟨bf, 1, none⟩ (.int .i64 1)).setCell ⟨bf, 2, none⟩ (.int .i64 0)).setCell ⟨bf, 3, none⟩ (.int .u64 (bo.a : Int))).setCell ⟨bf, 4, none⟩ (.int .u64 (bo.b : Int))) := (((((Keeps.refl [bf] wd).setCell (.inl (by simp)) _).setCell (.inl (by simp)) _).setCell (.inl (by simp)) _).setCell (.inl (by simp)) _).setCell (.inl (by simp)) _
                have hbf2 : Blk (((((wd.setCell ⟨bf, 0, none⟩ (.int .i64 0)).setCell ⟨bf, 1, none⟩ (.int .i64 1)).setCell ⟨bf, 2, none⟩ (.int .i64 0)).setCell ⟨bf, 3, none⟩ (.int .u64 (bo.a : Int))).setCell ⟨bf, 4, none⟩ (.int .u64 (bo.b : Int))) bf 34 #[.int .i64 0, .int .i64 1, .int .i64 0, .int .u64 (bo.a : Int), .int .u64 (bo.b : Int)] := ((((e1.set_ 0 (.int .i64 0)).set_ 1 (.int .i64 1)).set_ 2 (.int .i64 0)).set_ 3 (.int .u64 (bo.a : Int))).set_ 4 (.int .u64 (bo.b : Int))
                have hidf := ((hidw.less (l' := [(bf, 34, #[.int .i64 0, .int .i64 1, .int .i64 0, .int .u64 (sig.a : Int), .int .u64 (sig.b : Int)])]) (fun x hx => by simp at hx; subst hx; simp)).put HBL.out (by decide) hkf hbf2).wide (j := 10 + 10 * (i' + 1)) (by have := HJ.out; omega)
                have HIF := Lib.hid hidf
                clear hidw e1 hkf hbf2 hidf
                go_wp2_with fail
                exact ⟨⟨i' + 1, bo, 0, by omega, by omega, by simp, HBOK.out, .inl rfl, HIF.out⟩, by simp [intOf]; omega⟩
        · go_wp2_with fail
          refine QO.out.mono ?_
          rintro e w4 ⟨rfl, hk4⟩
          have hk5 : Keeps [] wr w4 := ((Keeps.refl [] wr).alloc _).trans hk4 (by simp)
          have hi5 := (HI.out.calm hk5).add 32 #[.int .u64 (own.a : Int), .int .u64 (own.b : Int)]
          have HI5 : Hid (Id3 wb z (c11 n nb) (LX xs n) sig (10 + 10 * i') [(w4.heap.size, 32, #[.int .u64 (own.a : Int), .int .u64 (own.b : Int)]), (bf, 34, #[.int .i64 0, .int .i64 1, .int .i64 1, .int .u64 (sig.a : Int), .int .u64 (sig.b : Int)])] (w4.alloc (.cells #[.int .u64 (own.a : Int), .int .u64 (own.b : Int)] 32))) := hi5
          have b1 := hi5.loc (q := w4.heap.size) (t := 32) (cs := #[.int .u64 (own.a : Int), .int .u64 (own.b : Int)]) (by simp)
          have b2 := hi5.loc (q := bf) (t := 34) (cs := #[.int .i64 0, .int .i64 1, .int .i64 1, .int .u64 (sig.a : Int), .int .u64 (sig.b : Int)]) (by simp)
          have x0 : (w4.alloc (.cells #[.int .u64 (own.a : Int), .int .u64 (own.b : Int)] 32)).cell? ⟨w4.heap.size, 0, none⟩ = some (.int .u64 (own.a : Int)) := (b1.cell 0).trans rfl
          have x1 : (w4.alloc (.cells #[.int .u64 (own.a : Int), .int .u64 (own.b : Int)] 32)).cell? ⟨w4.heap.size, 1, none⟩ = some (.int .u64 (own.b : Int)) := (b1.cell 1).trans rfl
          have x3 : (w4.alloc (.cells #[.int .u64 (own.a : Int), .int .u64 (own.b : Int)] 32)).cell? ⟨bf, 3, none⟩ = some (.int .u64 (sig.a : Int)) := (b2.cell 3).trans rfl
          have x4 : (w4.alloc (.cells #[.int .u64 (own.a : Int), .int .u64 (own.b : Int)] 32)).cell? ⟨bf, 4, none⟩ = some (.int .u64 (sig.b : Int)) := (b2.cell 4).trans rfl
          have QT : Hid (Calls Try.prog 12 #[.agg #[.int .u64 (sig.a : Int), .int .u64 (sig.b : Int)], .agg #[.int .u64 (own.a : Int), .int .u64 (own.b : Int)]] (w4.alloc (.cells #[.int .u64 (own.a : Int), .int .u64 (own.b : Int)] 32)) fun e w' => ∃ v, e = .returned v ∧ RowAt (w4.alloc (.cells #[.int .u64 (own.a : Int), .int .u64 (own.b : Int)] 32)) w' v (wordsL (own.minus sig))) := touched_any _ sig own HSO.out HOK.out
          have hwl := wordsL_len (own.minus sig)
          obtain ⟨ws, hws⟩ : ∃ l, wordsL (own.minus sig) = l := ⟨_, rfl⟩
          rw [hws] at QT hwl
          have HWS := Lib.hid hws
          clear hk4 hk5 hi5 b1 b2 QO hws t0
          go_wp2_with fail
          refine QT.out.mono ?_
          rintro e w6 ⟨v, rfl, hrow, hk6⟩
          obtain ⟨Aw, cw, rfl⟩ := row_form hrow
          have HI6 := Lib.hid (HI5.out.calm hk6)
          have b2 := HI6.out.loc (q := bf) (t := 34) (cs := #[.int .i64 0, .int .i64 1, .int .i64 1, .int .u64 (sig.a : Int), .int .u64 (sig.b : Int)]) (by simp)
          have y0 : w6.cell? ⟨bf, 0, none⟩ = some (.int .i64 0) := (b2.cell 0).trans rfl
          have y1 : w6.cell? ⟨bf, 1, none⟩ = some (.int .i64 1) := (b2.cell 1).trans rfl
          have y2 : w6.cell? ⟨bf, 2, none⟩ = some (.int .i64 1) := (b2.cell 2).trans rfl
          have y3 : w6.cell? ⟨bf, 3, none⟩ = some (.int .u64 (sig.a : Int)) := (b2.cell 3).trans rfl
          have y4 : w6.cell? ⟨bf, 4, none⟩ = some (.int .u64 (sig.b : Int)) := (b2.cell 4).trans rfl
          obtain ⟨R3, hR3, hR3b⟩ : ∃ R : Nat, IntKind.i64.wrap (3 + (ws.length : Int)) = (R : Int) ∧ R = ws.length + 3 := ⟨ws.length + 3, by rw [IntKind.wrap_i64]; omega, rfl⟩
          obtain ⟨R, hR, hRb⟩ : ∃ R : Nat, IntKind.i64.wrap ((R3 : Int) + 2) = (R : Int) ∧ R = ws.length + 5 := ⟨ws.length + 5, by rw [IntKind.wrap_i64]; omega, rfl⟩
          have hnew := HI6.out.new (cell := (ce : Int)) (own := own) (v := ((nth (LX xs n) (ce : Int)).getD 0)) 1 HOWN.out HSO.out HOK.out k3 k4 (by show (0 : Int) < 1; decide) rfl
          have QN : Hid (Calls Try.prog 13 #[PT z.p, .agg #[.int .i64 0, .int .i64 1, .int .i64 1, .int .u64 (sig.a : Int), .int .u64 (sig.b : Int)], .int .i64 ce] w6 fun e w' => ∃ b, e = .returned (.tuple #[PT b, .int .i64 0]) ∧ Al3 wb z b (c11 n nb) (LX xs n) ((nth (LX xs n) (ce : Int)).getD 0) ce (sig.join own) R (10 + 10 * i') [(w4.heap.size, 32, #[.int .u64 (own.a : Int), .int .u64 (own.b : Int)]), (bf, 34, #[.int .i64 0, .int .i64 1, .int .i64 1, .int .u64 (sig.a : Int), .int .u64 (sig.b : Int)])] w') := by
            rw [HWS.out] at hnew
            have e : ws.length + (if (1 : Int) = 0 then 3 else 5) = R := by rw [if_neg (by decide)]; omega
            rw [e] at hnew
            exact hnew
          clear hrow hk6 hnew b2 x0 x1 x3 x4 QT HI5
          go_wp2_with fail
          refine QN.out.mono ?_
          rintro e w7 ⟨b, rfl, ha7⟩
          have HA7 := Lib.hid ha7
          clear ha7 QN y0 y1 y2 y3 y4 HI6
          obtain ⟨vv, hvv⟩ : ∃ q, ((nth (LX xs n) (ce : Int)).getD 0) = q := ⟨_, rfl⟩
          rw [hvv] at HA7
          have HVV := Lib.hid hvv
          obtain ⟨bo, hbo⟩ : ∃ q, sig.join own = q := ⟨_, rfl⟩
          rw [hbo] at HA7
          have HBO := Lib.hid hbo
          have hbok : bo.ok := by rw [← hbo]; exact ⟨or_lt _ _ HSO.out.1 HOK.out.1, or_lt _ _ HSO.out.2 HOK.out.2⟩
          have HBOK := Lib.hid hbok
          obtain ⟨po, hpo⟩ : ∃ q, w4.heap.size = q := ⟨_, rfl⟩
          rw [hpo] at HA7
          obtain ⟨wo, hwo⟩ : ∃ q, q = wr := ⟨_, rfl⟩
          subst hwo
          clear hvv hbo hbok
          go_wp2_with fail
          clear hpo
          go_loopw [20] (fun kk wr => ∃ j : Nat, j ≤ R ∧ kk = .int .i64 j ∧ Al3 wb z b (c11 n nb) (LX xs n) vv ce bo (R - j) (10 + 10 * i' + j) [(po, 32, #[.int .u64 (own.a : Int), .int .u64 (own.b : Int)]), (bf, 34, #[.int .i64 0, .int .i64 1, .int .i64 1, .int .u64 (sig.a : Int), .int .u64 (sig.b : Int)])] wr) (fun kk _ => R - (intOf kk).toNat)
          case atStart => exact ⟨0, Nat.zero_le _, rfl, HA7.out⟩
          case round =>
            obtain ⟨j, hj, rfl, ha⟩ := hrel
            have HA8 := Lib.hid ha
            clear ha HA7
            have hwj : IntKind.i64.wrap ((j : Int) + 1) = (j : Int) + 1 := by rw [IntKind.wrap_i64]; omega
            have hd := HA8.out.done_
            by_cases hlj : (j : Int) < (R : Int)
            · have hRj : R - j ≠ 0 := by omega
              rw [show ((R - j) == 0) = false by simp; omega] at hd
              have QD := Lib.hid hd
              have QS := Lib.hid (HA8.out.step hRj (by omega))
              clear hd
              go_wp2_with fail
              refine QD.out.mono ?_
              rintro e wq ⟨rfl, rfl⟩
              go_wp2_with fail
              refine QS.out.mono ?_
              rintro e w9 ⟨rfl, ha9⟩
              rw [show R - j - 1 = R - (j + 1) by omega] at ha9
              have HA9 := Lib.hid ha9
              clear ha9 QS QD
              go_wp2_with fail
              exact ⟨⟨j + 1, by omega, by simp, HA9.out⟩, by simp [intOf]; omega⟩
            · have hR0 : R - j = 0 := by omega
              have ha := HA8.out
              rw [hR0] at ha
              obtain ⟨w8, hw8⟩ : ∃ q, q = wr := ⟨_, rfl⟩
              subst hw8
              have HA9 := Lib.hid ha
              clear ha hd
              go_wp2_with fail
              refine HA9.out.value.mono ?_
              rintro e w9 ⟨rfl, hk9⟩
              have HA10 := Lib.hid (HA9.out.calm hk9)
              have hAc := HA.out.keeps HA10.out.keep
              have HJ := Lib.hid hj
              clear hk9 HA9 HA8 hR0 hj
              by_cases hin : ce < xs.length
              · obtain ⟨xv, hxv⟩ : ∃ y, xs[ce]? = some y := ⟨_, List.getElem?_eq_getElem hin⟩
                have hvx : vv = xv := by rw [← HVV.out]; exact LX_in hxv
                obtain ⟨ab, ao, rfl, _, hac⟩ : ∃ b off, A = some ⟨b, off, none⟩ ∧ b < w9.heap.size ∧ ∀ k x, xs[k]? = some x → w9.cell? ⟨b, off + k, none⟩ = some (.int .i64 x) := by
                  rcases hAc.2 with h | h
                  · rw [h] at hxv; simp at hxv
                  · exact h
                have tx := hac ce xv hxv
                subst hvx
                have hin2 : (ce : Int) < (xs.length : Int) := by omega
                clear hac hxv hAc
                go_wp2_with fail
                refine HA10.out.done_.mono ?_
                rintro e wq ⟨rfl, rfl⟩
                go_wp2_with fail
                refine HA10.out.from_.mono ?_
                rintro e w11 ⟨rfl, hk11⟩
                have hid := (HA10.out.calm hk11).idle
                have hia := hid.add 34 #[.int .i64 0, .int .i64 1, .int .i64 0, .int .u64 (bo.a : Int), .int .u64 (bo.b : Int)]
                have HIA : Hid (Id3 wb z (c11 n nb) (LX xs n) bo (10 + 10 * i' + j) ((w11.heap.size, 34, #[.int .i64 0, .int .i64 1, .int .i64 0, .int .u64 (bo.a : Int), .int .u64 (bo.b : Int)]) :: [(po, 32, #[.int .u64 (own.a : Int), .int .u64 (own.b : Int)]), (bf, 34, #[.int .i64 0, .int .i64 1, .int .i64 1, .int .u64 (sig.a : Int), .int .u64 (sig.b : Int)])]) (w11.alloc (.cells #[.int .i64 0, .int .i64 1, .int .i64 0, .int .u64 (bo.a : Int), .int .u64 (bo.b : Int)] 34))) := hia
                have c0 := hia.loc (q := w11.heap.size) (t := 34) (cs := #[.int .i64 0, .int .i64 1, .int .i64 0, .int .u64 (bo.a : Int), .int .u64 (bo.b : Int)]) (by simp)
                have c1 := hia.loc (q := bf) (t := 34) (cs := #[.int .i64 0, .int .i64 1, .int .i64 1, .int .u64 (sig.a : Int), .int .u64 (sig.b : Int)]) (by simp)
                have c2 := hia.loc (q := po) (t := 32) (cs := #[.int .u64 (own.a : Int), .int .u64 (own.b : Int)]) (by simp)
                have HC := Lib.hid (show ∀ w', Keeps [] (w11.alloc (.cells #[.int .i64 0, .int .i64 1, .int .i64 0, .int .u64 (bo.a : Int), .int .u64 (bo.b : Int)] 34)) w' → w'.cell? ⟨w11.heap.size, 0, none⟩ = some (.int .i64 0) ∧ w'.cell? ⟨w11.heap.size, 1, none⟩ = some (.int .i64 1) ∧ w'.cell? ⟨w11.heap.size, 2, none⟩ = some (.int .i64 0) ∧ w'.cell? ⟨w11.heap.size, 3, none⟩ = some (.int .u64 (bo.a : Int)) ∧ w'.cell? ⟨w11.heap.size, 4, none⟩ = some (.int .u64 (bo.b : Int)) ∧ w'.cell? ⟨bf, 3, none⟩ = some (.int .u64 (sig.a : Int)) ∧ w'.cell? ⟨bf, 4, none⟩ = some (.int .u64 (sig.b : Int)) ∧ w'.cell? ⟨po, 0, none⟩ = some (.int .u64 (own.a : Int)) ∧ w'.cell? ⟨po, 1, none⟩ = some (.int .u64 (own.b : Int)) from fun w' hk => ⟨((c0.keeps hk (by simp)).cell 0).trans rfl, ((c0.keeps hk (by simp)).cell 1).trans rfl, ((c0.keeps hk (by simp)).cell 2).trans rfl, ((c0.keeps hk (by simp)).cell 3).trans rfl, ((c0.keeps hk (by simp)).cell 4).trans rfl, ((c1.keeps hk (by simp)).cell 3).trans rfl, ((c1.keeps hk (by simp)).cell 4).trans rfl, ((c2.keeps hk (by simp)).cell 0).trans rfl, ((c2.keeps hk (by simp)).cell 1).trans rfl⟩)
                have QJ : Hid (∀ w', Keeps [] (w11.alloc (.cells #[.int .i64 0, .int .i64 1, .int .i64 0, .int .u64 (bo.a : Int), .int .u64 (bo.b : Int)] 34)) w' → Calls Try.prog 18 #[.agg #[.int .u64 (sig.a : Int), .int .u64 (sig.b : Int)], .agg #[.int .u64 (own.a : Int), .int .u64 (own.b : Int)]] w' fun e w'' => e = .returned (.agg #[.int .u64 (bo.a : Int), .int .u64 (bo.b : Int)]) ∧ Keeps [] (w11.alloc (.cells #[.int .i64 0, .int .i64 1, .int .i64 0, .int .u64 (bo.a : Int), .int .u64 (bo.b : Int)] 34)) w'') := fun w' hk => by
                  refine (join_any w' sig own HSO.out HOK.out).mono ?_
                  rintro e w'' ⟨he, h2⟩
                  rw [HBO.out] at he
                  exact ⟨he, hk.trans h2 (by simp)⟩
                have QV : Hid (∀ w', Keeps [] (w11.alloc (.cells #[.int .i64 0, .int .i64 1, .int .i64 0, .int .u64 (bo.a : Int), .int .u64 (bo.b : Int)] 34)) w' → Calls Try.prog 19 #[PT z.p] w' fun e w'' => ∃ (v0 : Value) (n o : Int) (a2 c2 : Nat), e = .returned (.agg #[v0, .int .i64 n, .int .i64 o, .slice (some ⟨a2, 0, none⟩) 1 c2]) ∧ w''.cell? ⟨a2, 6, none⟩ = some (.int .u64 (bo.a : Int)) ∧ w''.cell? ⟨a2, 7, none⟩ = some (.int .u64 (bo.b : Int)) ∧ Keeps [] (w11.alloc (.cells #[.int .i64 0, .int .i64 1, .int .i64 0, .int .u64 (bo.a : Int), .int .u64 (bo.b : Int)] 34)) w'') := fun w' hk => by
                  refine (HIA.out.calm hk).view.mono ?_
                  rintro e w'' ⟨v0, n', o, a2, c2, he, h1, h2, h3⟩
                  exact ⟨v0, n', o, a2, c2, he, h1, h2, hk.trans h3 (by simp)⟩
                have hq1 := fun w => from_eq w 0 1 0 (bo.a : Int) (bo.b : Int)
                have hq2 := fun w => sig_same10 w (bo.a : Int) (bo.b : Int)
                have hfd : ∀ (v0 : Value) (n' o : Int) (s : Value) (w : World), (Instr.field 54 (.agg #[v0, .int .i64 n', .int .i64 o, s]) 2).run Try.prog w = .ok s w := fun v0 n' o s w => by kernel_rfl
                have hkB : Keeps [] (w11.alloc (.cells #[.int .i64 0, .int .i64 1, .int .i64 0, .int .u64 (bo.a : Int), .int .u64 (bo.b : Int)] 34)) (w11.alloc (.cells #[.int .i64 0, .int .i64 1, .int .i64 0, .int .u64 (bo.a : Int), .int .u64 (bo.b : Int)] 34)) := Keeps.refl _ _
                clear hid hia c0 c1 c2 hk11
                go_wp2_with fail
                refine wp_region_noPanic ?_
                refine wp_region_L 99 (fun w' => w'.cell? ⟨w11.heap.size, 0, none⟩ = some (.int .i64 0) ∧ w'.cell? ⟨w11.heap.size, 1, none⟩ = some (.int .i64 1) ∧ w'.cell? ⟨w11.heap.size, 2, none⟩ = some (.int .i64 0) ∧ w'.cell? ⟨w11.heap.size, 3, none⟩ = some (.int .u64 (bo.a : Int)) ∧ w'.cell? ⟨w11.heap.size, 4, none⟩ = some (.int .u64 (bo.b : Int)) ∧ w'.cell? ⟨bf, 3, none⟩ = some (.int .u64 (sig.a : Int)) ∧ w'.cell? ⟨bf, 4, none⟩ = some (.int .u64 (sig.b : Int)) ∧ w'.cell? ⟨po, 0, none⟩ = some (.int .u64 (own.a : Int)) ∧ w'.cell? ⟨po, 1, none⟩ = some (.int .u64 (own.b : Int))) (by kernel_rfl) ?_
                have hHeld := HC.out _ hkB.drew
                refine wpAnyL_take (i := 0) (v := ?rva10) rfl (by kernel_rfl) (by kernel_rfl) (by kernel_rfl) (by kernel_rfl) (fun _ _ _ h => h) (Or.inl ⟨by rfl, ?rya10⟩) hHeld ?rra10
                case rya10 => (intro w' hSw; obtain ⟨x0, x1, x2, x3, x4, x5, x6, x7, x8⟩ := hSw; go_simp; first | done | with_reducible rfl)
                case' rra10 => (try simp only [Act.put, List.setIfInBounds_toArray, List.set_cons_zero, List.set_cons_succ])
                refine wpAnyL_take (i := 1) (v := ?rva11) rfl (by kernel_rfl) (by kernel_rfl) (by kernel_rfl) (by kernel_rfl) (fun _ _ _ h => h) (Or.inl ⟨by rfl, ?rya11⟩) hHeld ?rra11
                case rya11 => (intro w' hSw; obtain ⟨x0, x1, x2, x3, x4, x5, x6, x7, x8⟩ := hSw; go_simp; first | done | with_reducible rfl)
                case' rra11 => (try simp only [Act.put, List.setIfInBounds_toArray, List.set_cons_zero, List.set_cons_succ])
                refine wpAnyL_take (i := 2) (v := ?rva12) rfl (by kernel_rfl) (by kernel_rfl) (by kernel_rfl) (by kernel_rfl) (fun _ _ _ h => h) (Or.inl ⟨by rfl, ?rya12⟩) hHeld ?rra12
                case rya12 => (intro w' hSw; obtain ⟨x0, x1, x2, x3, x4, x5, x6, x7, x8⟩ := hSw; go_simp; first | done | with_reducible rfl)
                case' rra12 => (try simp only [Act.put, List.setIfInBounds_toArray, List.set_cons_zero, List.set_cons_succ])
                refine wpAnyL_take (i := 3) (v := ?rva13) rfl (by kernel_rfl) (by kernel_rfl) (by kernel_rfl) (by kernel_rfl) (fun _ _ _ h => h) (Or.inl ⟨by rfl, ?rya13⟩) hHeld ?rra13
                case rya13 => (intro w' hSw; obtain ⟨x0, x1, x2, x3, x4, x5, x6, x7, x8⟩ := hSw; go_simp; first | done | with_reducible rfl)
                case' rra13 => (try simp only [Act.put, List.setIfInBounds_toArray, List.set_cons_zero, List.set_cons_succ])
                refine wpAnyL_one (i := 4) (by kernel_rfl) rfl (fun K hK => ?_)
                go_simp
                go_at_call 18
                refine (QJ.out _ hkB.drew).mono ?_
                rintro e wc ⟨rfl, hkc⟩
                go_simp
                refine hK.out _ _ (fun _ => HC.out _ hkc) ?_
                clear hK K
                try simp only [Act.put, List.setIfInBounds_toArray, List.set_cons_zero, List.set_cons_succ]
                replace hHeld := HC.out _ hkc
                refine wpAnyL_take (i := 5) (v := ?rva15) rfl (by kernel_rfl) (by kernel_rfl) (by kernel_rfl) (by kernel_rfl) (fun _ _ _ h => h) (Or.inl ⟨by rfl, ?rya15⟩) hHeld ?rra15
                case rya15 => (intro w' hSw; obtain ⟨x0, x1, x2, x3, x4, x5, x6, x7, x8⟩ := hSw; go_simp; first | done | with_reducible rfl)
                case' rra15 => (try simp only [Act.put, List.setIfInBounds_toArray, List.set_cons_zero, List.set_cons_succ])
                refine wpAnyL_take (i := 6) (v := ?rva16) rfl (by kernel_rfl) (by kernel_rfl) (by kernel_rfl) (by kernel_rfl) (fun _ _ _ h => h) (Or.inl ⟨by rfl, ?rya16⟩) hHeld ?rra16
                case rya16 => (intro w' hSw; obtain ⟨x0, x1, x2, x3, x4, x5, x6, x7, x8⟩ := hSw; go_simp; first | done | with_reducible rfl)
                case' rra16 => (try simp only [Act.put, List.setIfInBounds_toArray, List.set_cons_zero, List.set_cons_succ])
                refine wpAnyL_take (i := 7) (v := ?rva17) rfl (by kernel_rfl) (by kernel_rfl) (by kernel_rfl) (by kernel_rfl) (fun _ _ _ h => h) (Or.inl ⟨by rfl, ?rya17⟩) hHeld ?rra17
                case rya17 => (intro w' hSw; obtain ⟨x0, x1, x2, x3, x4, x5, x6, x7, x8⟩ := hSw; go_simp; first | done | with_reducible rfl)
                case' rra17 => (try simp only [Act.put, List.setIfInBounds_toArray, List.set_cons_zero, List.set_cons_succ])
                refine wpAnyL_take (i := 8) (v := ?rva18) rfl (by kernel_rfl) (by kernel_rfl) (by kernel_rfl) (by kernel_rfl) (fun _ _ _ h => h) (Or.inl ⟨by rfl, ?rya18⟩) hHeld ?rra18
                case rya18 => (intro w' hSw; obtain ⟨x0, x1, x2, x3, x4, x5, x6, x7, x8⟩ := hSw; go_simp; first | done | with_reducible rfl)
                case' rra18 => (try simp only [Act.put, List.setIfInBounds_toArray, List.set_cons_zero, List.set_cons_succ])
                refine wpAnyL_take (i := 14) (v := ?rva114) rfl (by kernel_rfl) (by kernel_rfl) (by kernel_rfl) (by kernel_rfl) (fun _ _ _ h => h) (Or.inl ⟨by rfl, ?rya114⟩) hHeld ?rra114
                case rya114 => (intro w' hSw; obtain ⟨x0, x1, x2, x3, x4, x5, x6, x7, x8⟩ := hSw; go_simp; first | done | with_reducible rfl)
                case' rra114 => (try simp only [Act.put, List.setIfInBounds_toArray, List.set_cons_zero, List.set_cons_succ])
                refine wpAnyL_take (i := 15) (v := ?rva115) rfl (by kernel_rfl) (by kernel_rfl) (by kernel_rfl) (by kernel_rfl) (fun _ _ _ h => h) (Or.inl ⟨by rfl, ?rya115⟩) hHeld ?rra115
                case rya115 => (intro w' hSw; obtain ⟨x0, x1, x2, x3, x4, x5, x6, x7, x8⟩ := hSw; go_simp; first | done | with_reducible rfl)
                case' rra115 => (try simp only [Act.put, List.setIfInBounds_toArray, List.set_cons_zero, List.set_cons_succ])
                refine wpAnyL_one (i := 9) (by kernel_rfl) rfl (fun K hK => ?_)
                go_simp
                go_at_call 19
                refine (QV.out _ hkc).mono ?_
                rintro e wd ⟨v0, vn, vo, a2, c2, rfl, g6, g7, hkd⟩
                go_simp
                refine hK.out _ _ (fun _ => HC.out _ hkd) ?_
                clear hK K
                try simp only [Act.put, List.setIfInBounds_toArray, List.set_cons_zero, List.set_cons_succ]
                replace hHeld := HC.out _ hkd
                refine wpAnyL_take (i := 10) (v := ?rva110) rfl (by kernel_rfl) (by kernel_rfl) (by kernel_rfl) (by kernel_rfl) (fun _ _ _ h => h) (Or.inl ⟨by rfl, ?rya110⟩) hHeld ?rra110
                case rya110 => (intro w' hSw; obtain ⟨x0, x1, x2, x3, x4, x5, x6, x7, x8⟩ := hSw; go_simp; first | done | with_reducible rfl)
                case' rra110 => (try simp only [Act.put, List.setIfInBounds_toArray, List.set_cons_zero, List.set_cons_succ])
                refine wpAnyL_take (i := 11) (v := ?rva111) rfl (by kernel_rfl) (by kernel_rfl) (by kernel_rfl) (by kernel_rfl) (fun _ _ _ h => h) (Or.inl ⟨by rfl, ?rya111⟩) hHeld ?rra111
                case rya111 => (intro w' hSw; obtain ⟨x0, x1, x2, x3, x4, x5, x6, x7, x8⟩ := hSw; go_simp; first | done | with_reducible rfl)
                case' rra111 => (try simp only [Act.put, List.setIfInBounds_toArray, List.set_cons_zero, List.set_cons_succ])
                refine wpAnyL_take (i := 12) (v := ?rva112) rfl (by kernel_rfl) (by kernel_rfl) (by kernel_rfl) (by kernel_rfl) (fun _ _ _ h => h) (Or.inl ⟨by rfl, ?rya112⟩) hHeld ?rra112
                case rya112 => (intro w' hSw; obtain ⟨x0, x1, x2, x3, x4, x5, x6, x7, x8⟩ := hSw; go_simp; first | done | with_reducible rfl)
                case' rra112 => (try simp only [Act.put, List.setIfInBounds_toArray, List.set_cons_zero, List.set_cons_succ])
                refine wpAnyL_one (i := 13) (by kernel_rfl) rfl (fun K hK => ?_)
                go_simp
                refine hK.out _ _ (fun _ => HC.out _ hkd) ?_
                clear hK K
                try simp only [Act.put, List.setIfInBounds_toArray, List.set_cons_zero, List.set_cons_succ]
                refine wpAnyL_take (i := 16) (v := ?rva116) rfl (by kernel_rfl) (by kernel_rfl) (by kernel_rfl) (by kernel_rfl) (fun _ _ _ h => h) (Or.inl ⟨by rfl, ?rya116⟩) hHeld ?rra116
                case rya116 => (intro w' hSw; obtain ⟨x0, x1, x2, x3, x4, x5, x6, x7, x8⟩ := hSw; go_simp; first | done | with_reducible rfl)
                case' rra116 => (try simp only [Act.put, List.setIfInBounds_toArray, List.set_cons_zero, List.set_cons_succ])
                refine wpAnyL_take (i := 17) (v := ?rva117) rfl (by kernel_rfl) (by kernel_rfl) (by kernel_rfl) (by kernel_rfl) (fun _ _ _ h => h) (Or.inl ⟨by rfl, ?rya117⟩) hHeld ?rra117
                case rya117 => (intro w' hSw; obtain ⟨x0, x1, x2, x3, x4, x5, x6, x7, x8⟩ := hSw; go_simp; first | done | with_reducible rfl)
                case' rra117 => (try simp only [Act.put, List.setIfInBounds_toArray, List.set_cons_zero, List.set_cons_succ])
                refine wpAnyL_done (by kernel_rfl) ?_ _
                refine NoPanic.normal ?_
                simp only [List.getElem_toArray, List.getElem_cons_succ, List.getElem_cons_zero, Act.put, List.setIfInBounds_toArray, List.set_cons_zero, List.set_cons_succ]
                have hidw := HIA.out.calm hkd
                have e1 := hidw.loc (q := bf) (t := 34) (cs := #[.int .i64 0, .int .i64 1, .int .i64 1, .int .u64 (sig.a : Int), .int .u64 (sig.b : Int)]) (by simp)
                obtain ⟨u0, u1, u2, u3, u4, _, _, _, _⟩ := HC.out _ hkd
                have v0' : wd.cell? ⟨bf, 0, none⟩ = some (.int .i64 0) := (e1.cell 0).trans rfl
                have v1' : wd.cell? ⟨bf, 1, none⟩ = some (.int .i64 1) := (e1.cell 1).trans rfl
                have v2' : wd.cell? ⟨bf, 2, none⟩ = some (.int .i64 1) := (e1.cell 2).trans rfl
                have v3' : wd.cell? ⟨bf, 3, none⟩ = some (.int .u64 (sig.a : Int)) := (e1.cell 3).trans rfl
                have v4' : wd.cell? ⟨bf, 4, none⟩ = some (.int .u64 (sig.b : Int)) := (e1.cell 4).trans rfl
                have f0 := e1.frozen 0
                have f1 := e1.frozen 1
                have f2 := e1.frozen 2
                have f3 := e1.frozen 3
                have f4 := e1.frozen 4
                have hkf : Keeps [bf] wd (((((wd.setCell ⟨bf, 0, none⟩ (.int .i64 0)).setCell ⟨bf, 1, none⟩ (.int .i64 1)).setCell ⟨bf, 2, none⟩ (.int .i64 0)).setCell ⟨bf, 3, none⟩ (.int .u64 (bo.a : Int))).setCell ⟨bf, 4, none⟩ (.int .u64 (bo.b : Int))) := (((((Keeps.refl [bf] wd).setCell (.inl (by simp)) _).setCell (.inl (by simp)) _).setCell (.inl (by simp)) _).setCell (.inl (by simp)) _).setCell (.inl (by simp)) _
                have hbf2 : Blk (((((wd.setCell ⟨bf, 0, none⟩ (.int .i64 0)).setCell ⟨bf, 1, none⟩ (.int .i64 1)).setCell ⟨bf, 2, none⟩ (.int .i64 0)).setCell ⟨bf, 3, none⟩ (.int .u64 (bo.a : Int))).setCell ⟨bf, 4, none⟩ (.int .u64 (bo.b : Int))) bf 34 #[.int .i64 0, .int .i64 1, .int .i64 0, .int .u64 (bo.a : Int), .int .u64 (bo.b : Int)] := ((((e1.set_ 0 (.int .i64 0)).set_ 1 (.int .i64 1)).set_ 2 (.int .i64 0)).set_ 3 (.int .u64 (bo.a : Int))).set_ 4 (.int .u64 (bo.b : Int))
                have hidf := ((hidw.less (l' := [(bf, 34, #[.int .i64 0, .int .i64 1, .int .i64 1, .int .u64 (sig.a : Int), .int .u64 (sig.b : Int)])]) (fun x hx => by simp at hx; subst hx; simp)).put HBL.out (by decide) hkf hbf2).wide (j := 10 + 10 * (i' + 1)) (by have := HJ.out; omega)
                have HIF := Lib.hid hidf
                clear hidw e1 hkf hbf2 hidf
                go_wp2_with fail
                exact ⟨⟨i' + 1, bo, 0, by omega, by omega, by simp, HBOK.out, .inl rfl, HIF.out⟩, by simp [intOf]; omega⟩
              · have hvx : vv = 0 := by rw [← HVV.out]; exact LX_out (by omega)
                subst hvx
                clear hAc
                go_wp2_with fail
                refine HA10.out.done_.mono ?_
                rintro e wq ⟨rfl, rfl⟩
                go_wp2_with fail
                refine HA10.out.from_.mono ?_
                rintro e w11 ⟨rfl, hk11⟩
                have hid := (HA10.out.calm hk11).idle
                have hia := hid.add 34 #[.int .i64 0, .int .i64 1, .int .i64 0, .int .u64 (bo.a : Int), .int .u64 (bo.b : Int)]
                have HIA : Hid (Id3 wb z (c11 n nb) (LX xs n) bo (10 + 10 * i' + j) ((w11.heap.size, 34, #[.int .i64 0, .int .i64 1, .int .i64 0, .int .u64 (bo.a : Int), .int .u64 (bo.b : Int)]) :: [(po, 32, #[.int .u64 (own.a : Int), .int .u64 (own.b : Int)]), (bf, 34, #[.int .i64 0, .int .i64 1, .int .i64 1, .int .u64 (sig.a : Int), .int .u64 (sig.b : Int)])]) (w11.alloc (.cells #[.int .i64 0, .int .i64 1, .int .i64 0, .int .u64 (bo.a : Int), .int .u64 (bo.b : Int)] 34))) := hia
                have c0 := hia.loc (q := w11.heap.size) (t := 34) (cs := #[.int .i64 0, .int .i64 1, .int .i64 0, .int .u64 (bo.a : Int), .int .u64 (bo.b : Int)]) (by simp)
                have c1 := hia.loc (q := bf) (t := 34) (cs := #[.int .i64 0, .int .i64 1, .int .i64 1, .int .u64 (sig.a : Int), .int .u64 (sig.b : Int)]) (by simp)
                have c2 := hia.loc (q := po) (t := 32) (cs := #[.int .u64 (own.a : Int), .int .u64 (own.b : Int)]) (by simp)
                have HC := Lib.hid (show ∀ w', Keeps [] (w11.alloc (.cells #[.int .i64 0, .int .i64 1, .int .i64 0, .int .u64 (bo.a : Int), .int .u64 (bo.b : Int)] 34)) w' → w'.cell? ⟨w11.heap.size, 0, none⟩ = some (.int .i64 0) ∧ w'.cell? ⟨w11.heap.size, 1, none⟩ = some (.int .i64 1) ∧ w'.cell? ⟨w11.heap.size, 2, none⟩ = some (.int .i64 0) ∧ w'.cell? ⟨w11.heap.size, 3, none⟩ = some (.int .u64 (bo.a : Int)) ∧ w'.cell? ⟨w11.heap.size, 4, none⟩ = some (.int .u64 (bo.b : Int)) ∧ w'.cell? ⟨bf, 3, none⟩ = some (.int .u64 (sig.a : Int)) ∧ w'.cell? ⟨bf, 4, none⟩ = some (.int .u64 (sig.b : Int)) ∧ w'.cell? ⟨po, 0, none⟩ = some (.int .u64 (own.a : Int)) ∧ w'.cell? ⟨po, 1, none⟩ = some (.int .u64 (own.b : Int)) from fun w' hk => ⟨((c0.keeps hk (by simp)).cell 0).trans rfl, ((c0.keeps hk (by simp)).cell 1).trans rfl, ((c0.keeps hk (by simp)).cell 2).trans rfl, ((c0.keeps hk (by simp)).cell 3).trans rfl, ((c0.keeps hk (by simp)).cell 4).trans rfl, ((c1.keeps hk (by simp)).cell 3).trans rfl, ((c1.keeps hk (by simp)).cell 4).trans rfl, ((c2.keeps hk (by simp)).cell 0).trans rfl, ((c2.keeps hk (by simp)).cell 1).trans rfl⟩)
                have QJ : Hid (∀ w', Keeps [] (w11.alloc (.cells #[.int .i64 0, .int .i64 1, .int .i64 0, .int .u64 (bo.a : Int), .int .u64 (bo.b : Int)] 34)) w' → Calls Try.prog 18 #[.agg #[.int .u64 (sig.a : Int), .int .u64 (sig.b : Int)], .agg #[.int .u64 (own.a : Int), .int .u64 (own.b : Int)]] w' fun e w'' => e = .returned (.agg #[.int .u64 (bo.a : Int), .int .u64 (bo.b : Int)]) ∧ Keeps [] (w11.alloc (.cells #[.int .i64 0, .int .i64 1, .int .i64 0, .int .u64 (bo.a : Int), .int .u64 (bo.b : Int)] 34)) w'') := fun w' hk => by
                  refine (join_any w' sig own HSO.out HOK.out).mono ?_
                  rintro e w'' ⟨he, h2⟩
                  rw [HBO.out] at he
                  exact ⟨he, hk.trans h2 (by simp)⟩
                have QV : Hid (∀ w', Keeps [] (w11.alloc (.cells #[.int .i64 0, .int .i64 1, .int .i64 0, .int .u64 (bo.a : Int), .int .u64 (bo.b : Int)] 34)) w' → Calls Try.prog 19 #[PT z.p] w' fun e w'' => ∃ (v0 : Value) (n o : Int) (a2 c2 : Nat), e = .returned (.agg #[v0, .int .i64 n, .int .i64 o, .slice (some ⟨a2, 0, none⟩) 1 c2]) ∧ w''.cell? ⟨a2, 6, none⟩ = some (.int .u64 (bo.a : Int)) ∧ w''.cell? ⟨a2, 7, none⟩ = some (.int .u64 (bo.b : Int)) ∧ Keeps [] (w11.alloc (.cells #[.int .i64 0, .int .i64 1, .int .i64 0, .int .u64 (bo.a : Int), .int .u64 (bo.b : Int)] 34)) w'') := fun w' hk => by
                  refine (HIA.out.calm hk).view.mono ?_
                  rintro e w'' ⟨v0, n', o, a2, c2, he, h1, h2, h3⟩
                  exact ⟨v0, n', o, a2, c2, he, h1, h2, hk.trans h3 (by simp)⟩
                have hq1 := fun w => from_eq w 0 1 0 (bo.a : Int) (bo.b : Int)
                have hq2 := fun w => sig_same10 w (bo.a : Int) (bo.b : Int)
                have hfd : ∀ (v0 : Value) (n' o : Int) (s : Value) (w : World), (Instr.field 54 (.agg #[v0, .int .i64 n', .int .i64 o, s]) 2).run Try.prog w = .ok s w := fun v0 n' o s w => by kernel_rfl
                have hkB : Keeps [] (w11.alloc (.cells #[.int .i64 0, .int .i64 1, .int .i64 0, .int .u64 (bo.a : Int), .int .u64 (bo.b : Int)] 34)) (w11.alloc (.cells #[.int .i64 0, .int .i64 1, .int .i64 0, .int .u64 (bo.a : Int), .int .u64 (bo.b : Int)] 34)) := Keeps.refl _ _
                clear hid hia c0 c1 c2 hk11
                go_wp2_with fail
                refine wp_region_noPanic ?_
                refine wp_region_L 99 (fun w' => w'.cell? ⟨w11.heap.size, 0, none⟩ = some (.int .i64 0) ∧ w'.cell? ⟨w11.heap.size, 1, none⟩ = some (.int .i64 1) ∧ w'.cell? ⟨w11.heap.size, 2, none⟩ = some (.int .i64 0) ∧ w'.cell? ⟨w11.heap.size, 3, none⟩ = some (.int .u64 (bo.a : Int)) ∧ w'.cell? ⟨w11.heap.size, 4, none⟩ = some (.int .u64 (bo.b : Int)) ∧ w'.cell? ⟨bf, 3, none⟩ = some (.int .u64 (sig.a : Int)) ∧ w'.cell? ⟨bf, 4, none⟩ = some (.int .u64 (sig.b : Int)) ∧ w'.cell? ⟨po, 0, none⟩ = some (.int .u64 (own.a : Int)) ∧ w'.cell? ⟨po, 1, none⟩ = some (.int .u64 (own.b : Int))) (by kernel_rfl) ?_
                have hHeld := HC.out _ hkB.drew
                refine wpAnyL_take (i := 0) (v := ?rvb10) rfl (by kernel_rfl) (by kernel_rfl) (by kernel_rfl) (by kernel_rfl) (fun _ _ _ h => h) (Or.inl ⟨by rfl, ?ryb10⟩) hHeld ?rrb10
                case ryb10 => (intro w' hSw; obtain ⟨x0, x1, x2, x3, x4, x5, x6, x7, x8⟩ := hSw; go_simp; first | done | with_reducible rfl)
                case' rrb10 => (try simp only [Act.put, List.setIfInBounds_toArray, List.set_cons_zero, List.set_cons_succ])
                refine wpAnyL_take (i := 1) (v := ?rvb11) rfl (by kernel_rfl) (by kernel_rfl) (by kernel_rfl) (by kernel_rfl) (fun _ _ _ h => h) (Or.inl ⟨by rfl, ?ryb11⟩) hHeld ?rrb11
                case ryb11 => (intro w' hSw; obtain ⟨x0, x1, x2, x3, x4, x5, x6, x7, x8⟩ := hSw; go_simp; first | done | with_reducible rfl)
                case' rrb11 => (try simp only [Act.put, List.setIfInBounds_toArray, List.set_cons_zero, List.set_cons_succ])
                refine wpAnyL_take (i := 2) (v := ?rvb12) rfl (by kernel_rfl) (by kernel_rfl) (by kernel_rfl) (by kernel_rfl) (fun _ _ _ h => h) (Or.inl ⟨by rfl, ?ryb12⟩) hHeld ?rrb12
                case ryb12 => (intro w' hSw; obtain ⟨x0, x1, x2, x3, x4, x5, x6, x7, x8⟩ := hSw; go_simp; first | done | with_reducible rfl)
                case' rrb12 => (try simp only [Act.put, List.setIfInBounds_toArray, List.set_cons_zero, List.set_cons_succ])
                refine wpAnyL_take (i := 3) (v := ?rvb13) rfl (by kernel_rfl) (by kernel_rfl) (by kernel_rfl) (by kernel_rfl) (fun _ _ _ h => h) (Or.inl ⟨by rfl, ?ryb13⟩) hHeld ?rrb13
                case ryb13 => (intro w' hSw; obtain ⟨x0, x1, x2, x3, x4, x5, x6, x7, x8⟩ := hSw; go_simp; first | done | with_reducible rfl)
                case' rrb13 => (try simp only [Act.put, List.setIfInBounds_toArray, List.set_cons_zero, List.set_cons_succ])
                refine wpAnyL_one (i := 4) (by kernel_rfl) rfl (fun K hK => ?_)
                go_simp
                go_at_call 18
                refine (QJ.out _ hkB.drew).mono ?_
                rintro e wc ⟨rfl, hkc⟩
                go_simp
                refine hK.out _ _ (fun _ => HC.out _ hkc) ?_
                clear hK K
                try simp only [Act.put, List.setIfInBounds_toArray, List.set_cons_zero, List.set_cons_succ]
                replace hHeld := HC.out _ hkc
                refine wpAnyL_take (i := 5) (v := ?rvb15) rfl (by kernel_rfl) (by kernel_rfl) (by kernel_rfl) (by kernel_rfl) (fun _ _ _ h => h) (Or.inl ⟨by rfl, ?ryb15⟩) hHeld ?rrb15
                case ryb15 => (intro w' hSw; obtain ⟨x0, x1, x2, x3, x4, x5, x6, x7, x8⟩ := hSw; go_simp; first | done | with_reducible rfl)
                case' rrb15 => (try simp only [Act.put, List.setIfInBounds_toArray, List.set_cons_zero, List.set_cons_succ])
                refine wpAnyL_take (i := 6) (v := ?rvb16) rfl (by kernel_rfl) (by kernel_rfl) (by kernel_rfl) (by kernel_rfl) (fun _ _ _ h => h) (Or.inl ⟨by rfl, ?ryb16⟩) hHeld ?rrb16
                case ryb16 => (intro w' hSw; obtain ⟨x0, x1, x2, x3, x4, x5, x6, x7, x8⟩ := hSw; go_simp; first | done | with_reducible rfl)
                case' rrb16 => (try simp only [Act.put, List.setIfInBounds_toArray, List.set_cons_zero, List.set_cons_succ])
                refine wpAnyL_take (i := 7) (v := ?rvb17) rfl (by kernel_rfl) (by kernel_rfl) (by kernel_rfl) (by kernel_rfl) (fun _ _ _ h => h) (Or.inl ⟨by rfl, ?ryb17⟩) hHeld ?rrb17
                case ryb17 => (intro w' hSw; obtain ⟨x0, x1, x2, x3, x4, x5, x6, x7, x8⟩ := hSw; go_simp; first | done | with_reducible rfl)
                case' rrb17 => (try simp only [Act.put, List.setIfInBounds_toArray, List.set_cons_zero, List.set_cons_succ])
                refine wpAnyL_take (i := 8) (v := ?rvb18) rfl (by kernel_rfl) (by kernel_rfl) (by kernel_rfl) (by kernel_rfl) (fun _ _ _ h => h) (Or.inl ⟨by rfl, ?ryb18⟩) hHeld ?rrb18
                case ryb18 => (intro w' hSw; obtain ⟨x0, x1, x2, x3, x4, x5, x6, x7, x8⟩ := hSw; go_simp; first | done | with_reducible rfl)
                case' rrb18 => (try simp only [Act.put, List.setIfInBounds_toArray, List.set_cons_zero, List.set_cons_succ])
                refine wpAnyL_take (i := 14) (v := ?rvb114) rfl (by kernel_rfl) (by kernel_rfl) (by kernel_rfl) (by kernel_rfl) (fun _ _ _ h => h) (Or.inl ⟨by rfl, ?ryb114⟩) hHeld ?rrb114
                case ryb114 => (intro w' hSw; obtain ⟨x0, x1, x2, x3, x4, x5, x6, x7, x8⟩ := hSw; go_simp; first | done | with_reducible rfl)
                case' rrb114 => (try simp only [Act.put, List.setIfInBounds_toArray, List.set_cons_zero, List.set_cons_succ])
                refine wpAnyL_take (i := 15) (v := ?rvb115) rfl (by kernel_rfl) (by kernel_rfl) (by kernel_rfl) (by kernel_rfl) (fun _ _ _ h => h) (Or.inl ⟨by rfl, ?ryb115⟩) hHeld ?rrb115
                case ryb115 => (intro w' hSw; obtain ⟨x0, x1, x2, x3, x4, x5, x6, x7, x8⟩ := hSw; go_simp; first | done | with_reducible rfl)
                case' rrb115 => (try simp only [Act.put, List.setIfInBounds_toArray, List.set_cons_zero, List.set_cons_succ])
                refine wpAnyL_one (i := 9) (by kernel_rfl) rfl (fun K hK => ?_)
                go_simp
                go_at_call 19
                refine (QV.out _ hkc).mono ?_
                rintro e wd ⟨v0, vn, vo, a2, c2, rfl, g6, g7, hkd⟩
                go_simp
                refine hK.out _ _ (fun _ => HC.out _ hkd) ?_
                clear hK K
                try simp only [Act.put, List.setIfInBounds_toArray, List.set_cons_zero, List.set_cons_succ]
                replace hHeld := HC.out _ hkd
                refine wpAnyL_take (i := 10) (v := ?rvb110) rfl (by kernel_rfl) (by kernel_rfl) (by kernel_rfl) (by kernel_rfl) (fun _ _ _ h => h) (Or.inl ⟨by rfl, ?ryb110⟩) hHeld ?rrb110
                case ryb110 => (intro w' hSw; obtain ⟨x0, x1, x2, x3, x4, x5, x6, x7, x8⟩ := hSw; go_simp; first | done | with_reducible rfl)
                case' rrb110 => (try simp only [Act.put, List.setIfInBounds_toArray, List.set_cons_zero, List.set_cons_succ])
                refine wpAnyL_take (i := 11) (v := ?rvb111) rfl (by kernel_rfl) (by kernel_rfl) (by kernel_rfl) (by kernel_rfl) (fun _ _ _ h => h) (Or.inl ⟨by rfl, ?ryb111⟩) hHeld ?rrb111
                case ryb111 => (intro w' hSw; obtain ⟨x0, x1, x2, x3, x4, x5, x6, x7, x8⟩ := hSw; go_simp; first | done | with_reducible rfl)
                case' rrb111 => (try simp only [Act.put, List.setIfInBounds_toArray, List.set_cons_zero, List.set_cons_succ])
                refine wpAnyL_take (i := 12) (v := ?rvb112) rfl (by kernel_rfl) (by kernel_rfl) (by kernel_rfl) (by kernel_rfl) (fun _ _ _ h => h) (Or.inl ⟨by rfl, ?ryb112⟩) hHeld ?rrb112
                case ryb112 => (intro w' hSw; obtain ⟨x0, x1, x2, x3, x4, x5, x6, x7, x8⟩ := hSw; go_simp; first | done | with_reducible rfl)
                case' rrb112 => (try simp only [Act.put, List.setIfInBounds_toArray, List.set_cons_zero, List.set_cons_succ])
                refine wpAnyL_one (i := 13) (by kernel_rfl) rfl (fun K hK => ?_)
                go_simp
                refine hK.out _ _ (fun _ => HC.out _ hkd) ?_
                clear hK K
                try simp only [Act.put, List.setIfInBounds_toArray, List.set_cons_zero, List.set_cons_succ]
                refine wpAnyL_take (i := 16) (v := ?rvb116) rfl (by kernel_rfl) (by kernel_rfl) (by kernel_rfl) (by kernel_rfl) (fun _ _ _ h => h) (Or.inl ⟨by rfl, ?ryb116⟩) hHeld ?rrb116
                case ryb116 => (intro w' hSw; obtain ⟨x0, x1, x2, x3, x4, x5, x6, x7, x8⟩ := hSw; go_simp; first | done | with_reducible rfl)
                case' rrb116 => (try simp only [Act.put, List.setIfInBounds_toArray, List.set_cons_zero, List.set_cons_succ])
                refine wpAnyL_take (i := 17) (v := ?rvb117) rfl (by kernel_rfl) (by kernel_rfl) (by kernel_rfl) (by kernel_rfl) (fun _ _ _ h => h) (Or.inl ⟨by rfl, ?ryb117⟩) hHeld ?rrb117
                case ryb117 => (intro w' hSw; obtain ⟨x0, x1, x2, x3, x4, x5, x6, x7, x8⟩ := hSw; go_simp; first | done | with_reducible rfl)
                case' rrb117 => (try simp only [Act.put, List.setIfInBounds_toArray, List.set_cons_zero, List.set_cons_succ])
                refine wpAnyL_done (by kernel_rfl) ?_ _
                refine NoPanic.normal ?_
                simp only [List.getElem_toArray, List.getElem_cons_succ, List.getElem_cons_zero, Act.put, List.setIfInBounds_toArray, List.set_cons_zero, List.set_cons_succ]
                have hidw := HIA.out.calm hkd
                have e1 := hidw.loc (q := bf) (t := 34) (cs := #[.int .i64 0, .int .i64 1, .int .i64 1, .int .u64 (sig.a : Int), .int .u64 (sig.b : Int)]) (by simp)
                obtain ⟨u0, u1, u2, u3, u4, _, _, _, _⟩ := HC.out _ hkd
                have v0' : wd.cell? ⟨bf, 0, none⟩ = some (.int .i64 0) := (e1.cell 0).trans rfl
                have v1' : wd.cell? ⟨bf, 1, none⟩ = some (.int .i64 1) := (e1.cell 1).trans rfl
                have v2' : wd.cell? ⟨bf, 2, none⟩ = some (.int .i64 1) := (e1.cell 2).trans rfl
                have v3' : wd.cell? ⟨bf, 3, none⟩ = some (.int .u64 (sig.a : Int)) := (e1.cell 3).trans rfl
                have v4' : wd.cell? ⟨bf, 4, none⟩ = some (.int .u64 (sig.b : Int)) := (e1.cell 4).trans rfl
                have f0 := e1.frozen 0
                have f1 := e1.frozen 1
                have f2 := e1.frozen 2
                have f3 := e1.frozen 3
                have f4 := e1.frozen 4
                have hkf : Keeps [bf] wd (((((wd.setCell ⟨bf, 0, none⟩ (.int .i64 0)).setCell ⟨bf, 1, none⟩ (.int .i64 1)).setCell ⟨bf, 2, none⟩ (.int .i64 0)).setCell ⟨bf, 3, none⟩ (.int .u64 (bo.a : Int))).setCell ⟨bf, 4, none⟩ (.int .u64 (bo.b : Int))) := (((((Keeps.refl [bf] wd).setCell (.inl (by simp)) _).setCell (.inl (by simp)) _).setCell (.inl (by simp)) _).setCell (.inl (by simp)) _).setCell (.inl (by simp)) _
                have hbf2 : Blk (((((wd.setCell ⟨bf, 0, none⟩ (.int .i64 0)).setCell ⟨bf, 1, none⟩ (.int .i64 1)).setCell ⟨bf, 2, none⟩ (.int .i64 0)).setCell ⟨bf, 3, none⟩ (.int .u64 (bo.a : Int))).setCell ⟨bf, 4, none⟩ (.int .u64 (bo.b : Int))) bf 34 #[.int .i64 0, .int .i64 1, .int .i64 0, .int .u64 (bo.a : Int), .int .u64 (bo.b : Int)] := ((((e1.set_ 0 (.int .i64 0)).set_ 1 (.int .i64 1)).set_ 2 (.int .i64 0)).set_ 3 (.int .u64 (bo.a : Int))).set_ 4 (.int .u64 (bo.b : Int))
                have hidf := ((hidw.less (l' := [(bf, 34, #[.int .i64 0, .int .i64 1, .int .i64 1, .int .u64 (sig.a : Int), .int .u64 (sig.b : Int)])]) (fun x hx => by simp at hx; subst hx; simp)).put HBL.out (by decide) hkf hbf2).wide (j := 10 + 10 * (i' + 1)) (by have := HJ.out; omega)
                have HIF := Lib.hid hidf
                clear hidw e1 hkf hbf2 hidf
                go_wp2_with fail
                exact ⟨⟨i' + 1, bo, 0, by omega, by omega, by simp, HBOK.out, .inl rfl, HIF.out⟩, by simp [intOf]; omega⟩
      · go_wp2_with fail
        all_goals
          go_ret
          exact ⟨rfl, (HKB.out.trans HI.out.keep (by simp)).below (by simp) (Nat.le_refl _)⟩

theorem own : ownKnob Try.prog.godebug = none := by kernel_rfl
theorem laidOut : laidOutB Try.prog = true := by kernel_rfl

set_option maxRecDepth 100000 in
theorem lifted (os : Os) (started : os.Started) (H : Type) (enc : TypeId × Value → H) :
    ReturnsInHanded {} Try.checked os 3 .any (Rows.readAloneSpec.pre6 enc Try.prog Try.f3 Rows.readAloneRow.domain false) (Rows.readAloneSpec.post enc Try.prog Try.f3 false true false false) := by
  refine returnsInHanded_of_change (C := Try.checked) own started (by kernel_rfl) Try.func3
    (ChangeSpec.witness6 (enc := enc) (C := Try.checked) false ⟨#[], #[.int .i64 0, .slice none 0 0, .slice none 0 0], []⟩ 8 (by kernel_rfl) (by kernel_rfl) (by kernel_rfl) (by kernel_rfl)) ?_
  intro W base args ds gs before hval0 hW hcnd _
  have hval : ∀ (j : Nat) t v, Try.f3.params[j]? = some t → args[j]? = some v → Value.okWide Try.prog W .any base t v := hval0
  have hW' := hW
  obtain ⟨p, q, hA0, hV, rfl, hfz, hnd⟩ := hW
  have hA : DataW.TrodAll enc Try.prog W 0 (fun _ => true) true Try.f3.params.toList args.toList ds p := hA0
  rw [Try.params3] at hA hval
  obtain ⟨v0, vs0, d0, ds0, p0, q0, hargs, rfl, rfl, h0, r0⟩ := trodAll_cons hA
  obtain ⟨v1, vs1, d1, ds1, p1, q1, rfl, rfl, rfl, h1, r1⟩ := trodAll_cons r0
  obtain ⟨v2, vs2, d2, ds2, p2, q2, rfl, rfl, rfl, h2, r2⟩ := trodAll_cons r1
  obtain ⟨rfl, rfl, rfl⟩ := trodAll_nil r2
  obtain rfl : args = #[v0, v1, v2] := by cases args; simp_all
  obtain ⟨rfl, rfl⟩ := trodVars_none hV
  obtain ⟨a0, rfl, rfl, rfl, w0⟩ := open_int Try.underlying3 (hval 0 3 v0 rfl rfl) h0
  have k1 := h1
  have lt1 : ∀ x ∈ p1, x.block < W.heap.size := by obtain ⟨m, hm⟩ := k1; exact DataW.trod_lt m _ _ _ hm
  obtain ⟨A1, n1, c1, rfl⟩ := okWide_slice Try.underlying22 (hval 1 22 v1 rfl rfl)
  obtain ⟨fl1, hf1⟩ := h1
  obtain ⟨⟨xs1, s1⟩, z1⟩ := ints_open Try.underlying22 Try.underlying2 (by kernel_rfl) hf1
  obtain rfl := s1.1
  have k2 := h2
  have lt2 : ∀ x ∈ p2, x.block < W.heap.size := by obtain ⟨m, hm⟩ := k2; exact DataW.trod_lt m _ _ _ hm
  obtain ⟨A2, n2, c2, rfl⟩ := okWide_slice Try.underlying23 (hval 2 23 v2 rfl rfl)
  obtain ⟨fl2, hf2⟩ := h2
  obtain ⟨⟨xs2, s2⟩, z2⟩ := ints_open Try.underlying23 Try.underlying3 (by kernel_rfl) hf2
  obtain rfl := s2.1
  clear hA0 hval0
  refine (walk a0 A1 c1 xs1 A2 c2 xs2 W w0 (Slc.of_ints s1) (Slc.of_ints s2)).mono fun e W' ⟨he, bel⟩ => ?_
  subst he
  exact ⟨_, rfl, _, _, _, [], _, [], hW', trodAll_mk1 (shut_bool Try.underlying4 _), (trodAll_cons_mk (shut_int Try.underlying3 w0) (trodAll_cons_mk (Below.trod laidOut (by kernel_rfl) (of_decide_eq_true (by kernel_rfl)) k1 bel lt1) (trodAll_cons_mk (Below.trod laidOut (by kernel_rfl) (of_decide_eq_true (by kernel_rfl)) k2 bel lt2) trodAll_mk0))), rfl, bel.frame _, fun h => by cases h⟩

theorem over : Rows.readAloneRow.holds Try.pinned (OpenSpec.ofChange Rows.readAloneSpec) :=
  OpenClaim.holds_of_wide 3 Try.f3 rfl rfl rfl rfl rfl rfl rfl ⟨rfl, rfl, rfl, rfl, rfl⟩ rfl rfl rfl rfl rfl (by kernel_rfl) Try.func3 (by kernel_rfl)
    (of_decide_eq_true (by kernel_rfl)) (by unfold Func.isWrapper; first | (rw [if_pos (by decide +kernel)]; kernel_rfl) | (rw [if_neg (by decide +kernel)]; exact ⟨rfl, rfl⟩))
    (fun os started H enc _ => lifted os started H enc)

/-- The statement. -/
theorem proved : Rows.ReadAloneSaid := over
#print axioms proved
end Go.Proofs.Ytelljfhhjapgnaa.readAlone
