/- ReadHolds: what one reader has read stands while nobody holds the gate and it is not doomed, whatever a committer does between its steps: the call returns true wherever what it reads is of bulk at most 1048576. -/
import Derived.Test.YtelljfhhjapgnaaRows
import Derived.Test.YtelljfhhjapgnaaHoldF
import Derived.Test.YtelljfhhjapgnaaAw11
import Derived.Deep.QuietTactic
import Derived.BigQuiet
import Derived.Deep.RegionHeld3
import Derived.Deep.DeepCutAuto
import Derived.Deep.CutBlock
import Derived.Test.YtelljfhhjapgnaaRegT
import Derived.JoinedCond
import Derived.WalkKit
import Derived.ProofKit
import Derived.OpenShut
import Derived.ShutString
import Derived.ChangeOld
import Derived.Below
import Derived.Carry
namespace Go.Proofs.Ytelljfhhjapgnaa.readHolds
open Go.ChangeShapes Go.WideShapes Go.ChangeAt Go.RowKit
set_option linter.unusedVariables false
set_option linter.unusedSimpArgs false

theorem and127 (n : Int) : bits .and .i64 n 127 = n % 128 := by
  have hm : (BitVec.ofInt 64 127).toNat = 2 ^ 7 - 1 := by decide
  have key : (BitVec.ofInt 64 n &&& BitVec.ofInt 64 127).toNat = (n % ((2 ^ 64 : Nat) : Int)).toNat % 2 ^ 7 := by
    rw [BitVec.toNat_and, BitVec.toNat_ofInt, hm, Nat.and_two_pow_sub_one_eq_mod]
  show IntKind.i64.wrap ((BitVec.ofInt 64 n &&& BitVec.ofInt 64 127).toNat : Nat) = n % 128
  rw [key, IntKind.wrap_i64]
  omega
theorem and1 (n : Int) : bits .and .i64 n 1 = n % 2 := by
  have hm : (BitVec.ofInt 64 1).toNat = 2 ^ 1 - 1 := by decide
  have key : (BitVec.ofInt 64 n &&& BitVec.ofInt 64 1).toNat = (n % ((2 ^ 64 : Nat) : Int)).toNat % 2 ^ 1 := by
    rw [BitVec.toNat_and, BitVec.toNat_ofInt, hm, Nat.and_two_pow_sub_one_eq_mod]
  show IntKind.i64.wrap ((BitVec.ofInt 64 n &&& BitVec.ofInt 64 1).toNat : Nat) = n % 2
  rw [key, IntKind.wrap_i64]
  omega
theorem deed_keeps {w w' : World} {A : Option Addr} {n cap : Nat} {l : List ElDeed} (h : LstDeed w A n cap l) (hk : Keeps [] w w') : LstDeed w' A n cap l := by
  obtain ⟨h1, h2, h3, h5, h4⟩ := h
  refine ⟨h1, h2, h3, h5, fun hn => ?_⟩
  obtain ⟨b, off, hA, hb, hc⟩ := h4 hn
  exact ⟨b, off, hA, Nat.lt_of_lt_of_le hb hk.size, fun i p hp => (hc i p hp).keeps hb hk⟩
theorem and15 (n : Int) : bits .and .i64 n 15 = n % 16 := by
  have hm : (BitVec.ofInt 64 15).toNat = 2 ^ 4 - 1 := by decide
  have key : (BitVec.ofInt 64 n &&& BitVec.ofInt 64 15).toNat = (n % ((2 ^ 64 : Nat) : Int)).toNat % 2 ^ 4 := by
    rw [BitVec.toNat_and, BitVec.toNat_ofInt, hm, Nat.and_two_pow_sub_one_eq_mod]
  show IntKind.i64.wrap ((BitVec.ofInt 64 n &&& BitVec.ofInt 64 15).toNat : Nat) = n % 16
  rw [key, IntKind.wrap_i64]
  omega
/-- A cell's place. -/
def m15 (x : Int) : Int := x % 16
theorem m15_in (x : Int) : 0 ≤ m15 x ∧ m15 x ≤ 15 := by unfold m15; omega
theorem map15 {xs : List Int} {k : Nat} {z : Int} (h : xs[k]? = some z) : (xs.take (k + 1)).map m15 = (xs.take k).map m15 ++ [m15 z] := by rw [List.take_add_one, h]; simp
theorem Try.infoI64 : (Try.prog.info? 2).map (fun i => (i.zero, i.size, i.bytes)) = some (some (.int .i64 0), 1, 8) := by kernel_rfl
theorem store_seen {wb w7 : World} {z : Sb} {nb ce : Int} {xp vc vv : Value} {P : List (Int × Int)} {sig sf : Sg} {d tk gv : Bool} {k bd bp bf rg ro cl dc m : Nat} {dA : Option Addr} {xs l : List Int} {X s c : Int} (h : Hu wb z nb xp ce P sig d k ((bd, 91, #[.bool tk, .bool gv, .slice dA xs.length dc, .int .i64 X]) :: [(bp, 89, #[vc, vv]), (bf, 34, #[.int .i64 0, .int .i64 1, .int .i64 s, .int .u64 (sf.a : Int), .int .u64 (sf.b : Int)])]) ((3, .slice (some ⟨rg, ro, none⟩) l.length cl, iv l) :: [(3, vc, iv (P.map (·.1))), (2, vv, iv (P.map (·.2)))]) w7) (hc : l[m]? = some c) : w7.cell? ⟨rg, ro + m, none⟩ = some (.int .i64 c) ∧ w7.cell? ⟨bd, 3, none⟩ = some (.int .i64 X) := by
  have hm := (List.getElem?_eq_some_iff.1 hc).1
  refine ⟨?_, ((h.loc (q := bd) (t := 91) (cs := #[.bool tk, .bool gv, .slice dA xs.length dc, .int .i64 X]) (by simp)).cell 3).trans rfl⟩
  have hr := h.row (t := 3) (v := .slice (some ⟨rg, ro, none⟩) l.length cl) (xs := iv l) (by simp)
  have hll : (iv l).length = l.length := List.length_map _
  rw [hll] at hr
  rcases hr.2 with ⟨e, _⟩ | ⟨g, cap, cur, e, _⟩
  · injection e with e; cases e
  · injection e with e
    injection e with e
    injection e with e1 e2
    subst e1 e2
    have := hr.cellAt m (by simp [iv]; exact hm)
    rw [Nat.zero_add]
    exact this.trans (by simp [iv, hc])
theorem blk_ne {w : World} {a b : Nat} {t u : TypeId} {cs ds : Array Value} (h1 : Blk w a t cs) (h2 : Blk w b u ds) (h : t ≠ u) : a ≠ b := fun e => by
  subst e
  have e1 := h1.tyOf
  rw [h2.tyOf] at e1
  injection e1 with e1
  exact h e1.symm
theorem slc_cell {w : World} {b off : Nat} {xs : List Int} (h : Slc w (some ⟨b, off, none⟩) xs) {j : Nat} {x : Int} (hx : xs[j]? = some x) : w.cell? ⟨b, off + j, none⟩ = some (.int .i64 x) := by
  obtain ⟨b', off', e, _, hc⟩ := h.at_ hx
  injection e with e
  injection e with e1 e2
  subst e1 e2
  exact hc
set_option maxRecDepth 100000 in
set_option maxHeartbeats 16000000 in
theorem walk (bits_ : Int) (C : Option Addr) (cc : Nat) (ys : List Int) (A : Option Addr) (n cap : Nat) (l : List ElDeed) (w : World) (_ : (Lit.int IntKind.i64 bits_).wf = true) (hC : Slc w C ys) (hl0 : LstDeed w A n cap l) : Calls Try.prog 7 #[.int .i64 bits_, .slice C ys.length cc, .slice A n cap] w fun e w' => e = .returned (.bool true) ∧ Below w.heap.size w w' := by
  have m1 := and127 bits_
  obtain ⟨bb, hbb, bb1, bb8⟩ : ∃ q : Int, bits_ % 128 = q ∧ 0 ≤ q ∧ q ≤ 127 := ⟨_, rfl, by omega, by omega⟩
  rw [hbb] at m1
  obtain ⟨nb, mw, nb1, nb8⟩ : ∃ q : Int, IntKind.i64.wrap (1 + bb) = q ∧ 1 ≤ q ∧ q ≤ 128 := ⟨1 + bb, by rw [IntKind.wrap_i64]; omega, by omega, by omega⟩
  have HL0 := Lib.hid hl0
  have HC0 := Lib.hid hC
  have hn20 := hl0.2.2.1
  have hnc := hl0.2.1
  have hyl := hC.1
  obtain ⟨i0, hi, hz0, hz1, hz2⟩ := info_parts Try.infoIntR
  have HI0 := Lib.hid (And.intro hi (And.intro hz0 (And.intro hz1 hz2)))
  clear hi hz0 hz1 hz2
  obtain ⟨i1, hi, hz0, hz1, hz2⟩ := info_parts Try.infoI64
  have HI1 := Lib.hid (And.intro hi (And.intro hz0 (And.intro hz1 hz2)))
  clear hbb hl0 hC hi hz0 hz1 hz2
  go_enter Try.func7, Try.ntmps7
  go_wp2_with fail
  refine (awake11 _).mono ?_
  rintro e wb ⟨rfl, hk⟩
  have HKB := Lib.hid hk
  have HL := Lib.hid (deed_keeps HL0.out hk)
  have HY := Lib.hid (HC0.out.keeps hk)
  clear hk HL0 HC0
  go_wp2_with fail
  refine (reader_any wb 16 nb (by decide) (by decide) nb1 nb8).mono ?_
  rintro e w1 ⟨z, F, rfl, hs, hf⟩
  have hc2 := sp11_is 16 nb
  obtain ⟨S2, hS2⟩ : ∃ S, sp11 16 nb = S := ⟨_, rfl⟩
  rw [hS2] at hs hf hc2
  have hpi : Hu wb z nb (.pointer none) 0 [] ⟨0, 0⟩ false 10 [] [(3, .slice none 0 0, iv []), (2, .slice none 0 0, iv [])] w1 := ⟨F, [], S2, hs, hf.wide (by decide), hc2.1, ⟨⟨hd0, hc2.2.2.2.1, rfl, rfl, rfl⟩, hc2.2.2.2.2, by rw [hc2.2.2.1]; rfl, fun p hp => by simp at hp, fun _ p hp => by simp at hp⟩, ⟨by decide, by decide⟩, fun l hl => by simp at hl, fun r hr => by
    simp only [List.mem_cons, List.not_mem_nil, or_false] at hr
    rcases hr with rfl | rfl
    · exact ⟨World.ownsRow_nil _ _ _ _, fun q hq => by simp [Value.ownBlock] at hq⟩
    · exact ⟨World.ownsRow_nil _ _ _ _, fun q hq => by simp [Value.ownBlock] at hq⟩, .inl ⟨rfl, rfl⟩⟩
  have HP0 := Lib.hid ((hpi.add 34 #[.int .i64 0, .int .i64 1, .int .i64 1, .int .u64 0, .int .u64 0]).add 89 #[.slice none 0 0, .slice none 0 0])
  have HBL : Hid (wb.heap.size ≤ w1.heap.size) := hs.keep.size
  clear hpi hs hf hc2 hS2
  have hsz1 : (w1.alloc (.cells #[.int .i64 0, .int .i64 1, .int .i64 1, .int .u64 0, .int .u64 0] 34)).heap.size = w1.heap.size + 1 := by simp
  rw [hsz1] at HP0
  clear hsz1
  go_wp2_with fail
  obtain ⟨bf, hbf⟩ : ∃ q, w1.heap.size = q := ⟨_, rfl⟩
  obtain ⟨w3, hw3⟩ : ∃ q, (w1.alloc (.cells #[.int .i64 0, .int .i64 1, .int .i64 1, .int .u64 0, .int .u64 0] 34)).alloc (.cells #[.slice none 0 0, .slice none 0 0] 89) = q := ⟨_, rfl⟩
  rw [hbf] at HP0 HBL
  rw [hw3] at HP0
  rw [hw3, hbf]
  clear hw3 hbf
  obtain ⟨bp, hbp⟩ : ∃ q, bf + 1 = q := ⟨_, rfl⟩
  rw [hbp] at HP0
  rw [hbp]
  have HBP : Hid (bf < bp) := by unfold Hid; omega
  clear hbp
  go_loopw [13, 14, 15] (fun xp nx i wr => ∃ (i' q : Nat) (P : List (Int × Int)) (sig sf : Sg) (d : Bool) (s ce : Int) (vc vv xv : Value), xv = xp ∧ i' ≤ n ∧ i = .int .i64 i' ∧ nx = .int .i64 q ∧ q ≤ ys.length ∧ q ≤ i' ∧ P.length = q ∧ (xv = .pointer none ∧ sf = sig ∨ (∃ b, xv = PT b) ∧ ∃ y, ys[q]? = some y ∧ y % 16 = ce) ∧ Hu wb z nb xv ce P sig d (10 + 40 * i') [(bp, 89, #[vc, vv]), (bf, 34, #[.int .i64 0, .int .i64 1, .int .i64 s, .int .u64 (sf.a : Int), .int .u64 (sf.b : Int)])] [(3, vc, iv (P.map (·.1))), (2, vv, iv (P.map (·.2)))] wr) (fun _ _ i _ => n - (intOf i).toNat)
  case atStart => exact ⟨0, 0, [], ⟨0, 0⟩, ⟨0, 0⟩, false, 1, 0, _, _, _, rfl, Nat.zero_le _, rfl, rfl, Nat.zero_le _, Nat.zero_le _, rfl, .inl ⟨rfl, rfl⟩, HP0.out⟩
  case round =>
    obtain ⟨i', q, P, sig, sf, d, s, ce, vc, vv, xp, rfl, hi', rfl, rfl, hq, hqi, hPq, hxs, hst⟩ := hrel
    have HW := Lib.hid hst
    have HX0 := Lib.hid hxs
    clear hst HP0 hxs
    have hn48 : n ≤ 1048576 := hn20
    have hw1 : IntKind.i64.wrap ((i' : Int) + 1) = (i' : Int) + 1 := by rw [IntKind.wrap_i64]; omega
    by_cases hlt : (i' : Int) < (n : Int)
    · have q0 : (0 : Int) ≤ (i' : Int) := by omega
      obtain ⟨gb, off, p, rfl, hp, hat⟩ := HL.out.at_ (k := i') (by omega)
      obtain ⟨t0, t1, t2, t3, _⟩ := hat wr HW.out.keep
      have HSL := Lib.hid (hat wb (Keeps.refl _ _)).sl
      clear hat hp
      obtain ⟨tk, gv, dA, dc, xs, X⟩ := p
      simp only at t0 t1 t2 t3 HSL
      have hud := HW.out.add 91 #[.bool tk, .bool gv, .slice dA xs.length dc, .int .i64 X]
      have HD : Hid (Hu wb z nb xp ce P sig d (10 + 40 * i') ((wr.heap.size, 91, #[.bool tk, .bool gv, .slice dA xs.length dc, .int .i64 X]) :: [(bp, 89, #[vc, vv]), (bf, 34, #[.int .i64 0, .int .i64 1, .int .i64 s, .int .u64 (sf.a : Int), .int .u64 (sf.b : Int)])]) [(3, vc, iv (P.map (·.1))), (2, vv, iv (P.map (·.2)))] (wr.alloc (.cells #[.bool tk, .bool gv, .slice dA xs.length dc, .int .i64 X] 91))) := hud
      have c0 : (wr.alloc (.cells #[.bool tk, .bool gv, .slice dA xs.length dc, .int .i64 X] 91)).cell? ⟨wr.heap.size, 0, none⟩ = some (.bool tk) := ((hud.loc (q := wr.heap.size) (t := 91) (cs := #[.bool tk, .bool gv, .slice dA xs.length dc, .int .i64 X]) (by simp)).cell 0).trans rfl
      clear hud HW
      go_upto_if 53 with fail
      obtain ⟨wo, hwo⟩ : ∃ q, q = wr := ⟨_, rfl⟩
      subst hwo
      obtain ⟨bd, hbd⟩ : ∃ q, wo.heap.size = q := ⟨_, rfl⟩
      obtain ⟨wd, hwd⟩ : ∃ q, wo.alloc (.cells #[.bool tk, .bool gv, .slice dA xs.length dc, .int .i64 X] 91) = q := ⟨_, rfl⟩
      rw [hwd] at HD c0
      rw [hbd] at HD c0
      rw [hwd]
      try rw [hbd]
      clear hwd hbd t0 t1 t2 t3
      go_cut [] (fun wx => Hu wb z nb xp ce P sig d (10 + 40 * i' + 1) ((bd, 91, #[.bool tk, .bool gv, .slice dA xs.length dc, .int .i64 X]) :: [(bp, 89, #[vc, vv]), (bf, 34, #[.int .i64 0, .int .i64 1, .int .i64 s, .int .u64 (sf.a : Int), .int .u64 (sf.b : Int)])]) [(3, vc, iv (P.map (·.1))), (2, vv, iv (P.map (·.2)))] wx)
      case first =>
        cases tk
        · go_wp2_with fail
          go_meet
          exact HD.out.wide (by omega)
        · go_wp2_with fail
          refine HD.out.gate.mono ?_
          rintro e wq ⟨rfl, rfl⟩
          go_wp2_with fail
          refine (HD.out.take (by omega) 2).mono ?_
          rintro e w7 ⟨⟨a, c, rfl⟩, hwt⟩
          go_wp2_with fail
          go_meet
          exact hwt
      case rest => as_aux_lemma =>
        obtain ⟨wa, hwa⟩ : ∃ q, q = wc := ⟨_, rfl⟩
        subst hwa
        have HD2 := Lib.hid hcut
        have d2 : wa.cell? ⟨bd, 2, none⟩ = some (.slice dA xs.length dc) := ((hcut.loc (q := bd) (t := 91) (cs := #[.bool tk, .bool gv, .slice dA xs.length dc, .int .i64 X]) (by simp)).cell 2).trans rfl
        clear hcut HD c0
        go_upto_region 16 with fail
        go_cut [67] (fun v wx => ∃ bo : Bool, v = .bool bo ∧ Keeps [] wa wx ∧ (bo = true → 0 < xs.length))
        case first =>
          by_cases hx0 : (0 : Int) < (xs.length : Int)
          · go_wp2_with fail
            refine HD2.out.gate.mono ?_
            rintro e wq ⟨rfl, rfl⟩
            go_wp2_with fail
            refine HD2.out.now.mono ?_
            rintro e w4 ⟨⟨g, o, rfl⟩, hk4⟩
            have hfd : ∀ w, (Instr.field 51 (.agg #[.int .i64 g, .int .i64 o]) 1).run Try.prog w = .ok (.int .i64 o) w := fun w => by kernel_rfl
            by_cases ho : o = 2
            · subst ho
              go_wp2_with fail
              go_meet
              exact ⟨true, rfl, hk4, fun _ => by omega⟩
            · have ho2 : (o == 2) = false := by simp [ho]
              go_wp2_with fail
              go_meet
              exact ⟨false, rfl, hk4, fun h => by cases h⟩
          · go_wp2_with fail
            go_meet
            exact ⟨false, rfl, Keeps.refl _ _, fun h => by cases h⟩
        case rest => as_aux_lemma =>
          obtain ⟨bo, rfl, hk, hbo⟩ := hcut
          obtain ⟨we, hwe⟩ : ∃ q, q = wc := ⟨_, rfl⟩
          subst hwe
          have HD3 := Lib.hid (HD2.out.calm hk)
          clear HD2 d2 hk
          go_upto_if 67 with fail
          go_cut [] (fun wx => ∃ d', Hu wb z nb xp ce P sig d' (10 + 40 * i' + 30) ((bd, 91, #[.bool tk, .bool gv, .slice dA xs.length dc, .int .i64 X]) :: [(bp, 89, #[vc, vv]), (bf, 34, #[.int .i64 0, .int .i64 1, .int .i64 s, .int .u64 (sf.a : Int), .int .u64 (sf.b : Int)])]) [(3, vc, iv (P.map (·.1))), (2, vv, iv (P.map (·.2)))] wx)
          case first =>
            cases bo
            · go_wp2_with fail
              go_meet
              exact ⟨d, HD3.out.wide (by omega)⟩
            · as_aux_lemma =>
                have d2 : we.cell? ⟨bd, 2, none⟩ = some (.slice dA xs.length dc) := ((HD3.out.loc (q := bd) (t := 91) (cs := #[.bool tk, .bool gv, .slice dA xs.length dc, .int .i64 X]) (by simp)).cell 2).trans rfl
                clear hbo
                go_wp2_with fail
                go_loopw [17, 18] (fun lv kv wr => ∃ j : Nat, j ≤ xs.length ∧ j ≤ 16 ∧ kv = .int .i64 j ∧ RowAt we wr lv ((xs.take j).map m15)) (fun _ kv _ => xs.length - (intOf kv).toNat)
                case atStart => exact ⟨0, Nat.zero_le _, Nat.zero_le _, rfl, RowAt.nil (Keeps.refl _ _)⟩
                case round =>
                  obtain ⟨j, hj, hj16, rfl, hrow⟩ := hrel
                  have HR := Lib.hid hrow
                  have x2 : wr.cell? ⟨bd, 2, none⟩ = some (.slice dA xs.length dc) := (((HD3.out.calm hrow.2).loc (q := bd) (t := 91) (cs := #[.bool tk, .bool gv, .slice dA xs.length dc, .int .i64 X]) (by simp)).cell 2).trans rfl
                  have hwj : IntKind.i64.wrap ((j : Int) + 1) = (j : Int) + 1 := by rw [IntKind.wrap_i64]; omega
                  obtain ⟨b2, hb2⟩ : ∃ b : Bool, b = decide ((j : Int) < (xs.length : Int) ∧ (j : Int) < 16) := ⟨_, rfl⟩
                  clear hrow d2
                  go_upto_region 19 with fail
                  go_cut [76] (fun v wx => wr = wx ∧ v = .bool b2)
                  case first =>
                    by_cases h1 : (j : Int) < (xs.length : Int)
                    · by_cases h2 : (j : Int) < 16
                      · have e2 : b2 = true := by rw [hb2]; exact decide_eq_true ⟨h1, h2⟩
                        clear hb2
                        subst e2
                        go_wp2_with fail
                        go_meet
                        exact ⟨rfl, rfl⟩
                      · have e2 : b2 = false := by rw [hb2]; exact decide_eq_false (fun h => h2 h.2)
                        clear hb2
                        subst e2
                        go_wp2_with fail
                        go_meet
                        exact ⟨rfl, rfl⟩
                    · have e2 : b2 = false := by rw [hb2]; exact decide_eq_false (fun h => h1 h.1)
                      clear hb2
                      subst e2
                      go_wp2_with fail
                      go_meet
                      exact ⟨rfl, rfl⟩
                  case rest =>
                    obtain ⟨rfl, rfl⟩ := hcut
                    cases b2
                    · clear hb2 x2
                      obtain ⟨l, hl⟩ : ∃ q, (xs.take j).map m15 = q := ⟨_, rfl⟩
                      have hl16 : l.length ≤ 16 := by rw [← hl]; simp; omega
                      have HLI : Hid (∀ c, c ∈ l → 0 ≤ c ∧ c ≤ 15) := by
                        rw [← hl]
                        intro c hc
                        obtain ⟨y, _, rfl⟩ := List.mem_map.1 hc
                        exact m15_in y
                      rw [hl] at HR
                      clear hl
                      obtain ⟨w2, hw2⟩ : ∃ q, q = wr := ⟨_, rfl⟩
                      subst hw2
                      obtain ⟨Al, cl, hlv, _, hls⟩ := Slc.of_own HR.out.1 (by unfold maxLen; omega)
                      subst hlv
                      have HLS := Lib.hid hls
                      have HD4 : Hid (Hu wb z nb xp ce P sig d (10 + 40 * i' + 1) ((bd, 91, #[.bool tk, .bool gv, .slice dA xs.length dc, .int .i64 X]) :: [(bp, 89, #[vc, vv]), (bf, 34, #[.int .i64 0, .int .i64 1, .int .i64 s, .int .u64 (sf.a : Int), .int .u64 (sf.b : Int)])]) ((3, .slice Al l.length cl, iv l) :: [(3, vc, iv (P.map (·.1))), (2, vv, iv (P.map (·.2)))]) w2) := HD3.out.addRow (t := 3) (v := .slice Al l.length cl) (xs := iv l) HR.out.2 (by rw [show (iv l).length = l.length from List.length_map _]; exact HR.out.1)
                      clear hls HR HD3
                      obtain ⟨sw, hsw⟩ : ∃ q, ofL nb l = q := ⟨_, rfl⟩
                      have hof := of_row (c := cl) (m := l.length) HLS.out rfl HLI.out nb1 nb8
                      rw [hsw] at hof
                      have QO := Lib.hid hof
                      have HSWK : Hid (sw.ok ∧ ofL nb l = sw) := ⟨by rw [← hsw]; exact ofL_ok nb1 nb8 _, hsw⟩
                      clear hof hsw
                      go_wp2_with fail
                      refine QO.out.mono ?_
                      rintro e w3' ⟨rfl, hk3⟩
                      have hu5 := (HD4.out.calm hk3).add 32 #[.int .u64 (sw.a : Int), .int .u64 (sw.b : Int)]
                      have HD5 : Hid (Hu wb z nb xp ce P sig d (10 + 40 * i' + 1) ((w3'.heap.size, 32, #[.int .u64 (sw.a : Int), .int .u64 (sw.b : Int)]) :: ((bd, 91, #[.bool tk, .bool gv, .slice dA xs.length dc, .int .i64 X]) :: [(bp, 89, #[vc, vv]), (bf, 34, #[.int .i64 0, .int .i64 1, .int .i64 s, .int .u64 (sf.a : Int), .int .u64 (sf.b : Int)])])) ((3, .slice Al l.length cl, iv l) :: [(3, vc, iv (P.map (·.1))), (2, vv, iv (P.map (·.2)))]) (w3'.alloc (.cells #[.int .u64 (sw.a : Int), .int .u64 (sw.b : Int)] 32))) := hu5
                      clear hk3 hu5 HD4 QO HLS
                      go_wp2_with fail
                      obtain ⟨bw, hbw⟩ : ∃ q, w3'.heap.size = q := ⟨_, rfl⟩
                      obtain ⟨w4, hw4⟩ : ∃ q, w3'.alloc (.cells #[.int .u64 (sw.a : Int), .int .u64 (sw.b : Int)] 32) = q := ⟨_, rfl⟩
                      rw [hw4] at HD5
                      rw [hbw] at HD5
                      rw [hw4]
                      try rw [hbw]
                      clear hw4 hbw
                      obtain ⟨mt, hmt⟩ : ∃ q, (sw.meet sig).none = q := ⟨_, rfl⟩
                      have HC := Lib.hid (show ∀ w', Keeps [] w4 w' → w'.cell? ⟨bw, 0, none⟩ = some (.int .u64 (sw.a : Int)) ∧ w'.cell? ⟨bw, 1, none⟩ = some (.int .u64 (sw.b : Int)) from fun w' hk => by
                        have q1 := (HD5.out.calm hk).loc (q := bw) (t := 32) (cs := #[.int .u64 (sw.a : Int), .int .u64 (sw.b : Int)]) (by simp)
                        exact ⟨(q1.cell 0).trans rfl, (q1.cell 1).trans rfl⟩)
                      have hkB : Keeps [] w4 w4 := Keeps.refl _ _
                      have QV : Hid (∀ w', Keeps [] w4 w' → Calls Try.prog 19 #[PT z.p] w' fun e w'' => ∃ (L : List Int) (a1 c1 a2 c2 : Nat) (gn go : Int), e = .returned (.agg #[.slice (some ⟨a1, 0, none⟩) 16 c1, .int .i64 gn, .int .i64 go, .slice (some ⟨a2, 0, none⟩) 1 c2]) ∧ w''.cell? ⟨a2, 6, none⟩ = some (.int .u64 (sig.a : Int)) ∧ w''.cell? ⟨a2, 7, none⟩ = some (.int .u64 (sig.b : Int)) ∧ Keeps [] w4 w'') := fun w' hk => (HD5.out.calm hk).view.mono fun e w'' ⟨L, a1, c1, a2, c2, gn, go, he, _, _, _, _, _, _, g6, g7, _, h2⟩ => ⟨L, a1, c1, a2, c2, gn, go, he, g6, g7, hk.trans h2 (by simp)⟩
                      have QM : Hid (∀ w', Keeps [] w4 w' → Calls Try.prog 33 #[.agg #[.int .u64 (sw.a : Int), .int .u64 (sw.b : Int)], .agg #[.int .u64 (sig.a : Int), .int .u64 (sig.b : Int)]] w' fun e w'' => e = .returned (.bool (!mt)) ∧ Keeps [] w4 w'') := fun w' hk => (meets_any w' sw sig HSWK.out.1 HD5.out.ok.1).mono fun e w'' ⟨he, h2⟩ => ⟨by rw [he, hmt], hk.trans h2 (by simp)⟩
                      have HMT := Lib.hid hmt
                      clear hmt
                      refine wp_region_noPanic ?_
                      refine wp_region_L 99 (fun w' => w'.cell? ⟨bw, 0, none⟩ = some (.int .u64 (sw.a : Int)) ∧ w'.cell? ⟨bw, 1, none⟩ = some (.int .u64 (sw.b : Int))) (by kernel_rfl) ?_
                      have hHeld := HC.out _ hkB.drew
                      refine wpAnyL_takeT (i := 0) (v := ?rvm0) rfl (by kernel_rfl) (by kernel_rfl) (by kernel_rfl) (by kernel_rfl) (fun _ _ _ h => h) (Or.inl ⟨by rfl, ?rym0⟩) hHeld ?rrm0
                      case rym0 => (intro w' hSw; (try dsimp only at hSw); go_simp; first | done | with_reducible rfl)
                      case' rrm0 => (try simp only [Act.put, List.setIfInBounds_toArray, List.set_cons_zero, List.set_cons_succ])
                      refine wpAnyL_takeT (i := 1) (v := ?rvm1) rfl (by kernel_rfl) (by kernel_rfl) (by kernel_rfl) (by kernel_rfl) (fun _ _ _ h => h) (Or.inl ⟨by rfl, ?rym1⟩) hHeld ?rrm1
                      case rym1 => (intro w' hSw; (try dsimp only at hSw); go_simp; first | done | with_reducible rfl)
                      case' rrm1 => (try simp only [Act.put, List.setIfInBounds_toArray, List.set_cons_zero, List.set_cons_succ])
                      refine wpAnyL_oneT (i := 2) (by kernel_rfl) rfl (fun K hK => ?_)
                      go_simp
                      go_at_call 19
                      refine (QV.out _ hkB.drew).mono ?_
                      rintro e wv ⟨L, a1, c1, a2, cv, gn, go, rfl, g6, g7, hkv⟩
                      have hfd : ∀ w, (Instr.field 54 (.agg #[.slice (some ⟨a1, 0, none⟩) 16 c1, .int .i64 gn, .int .i64 go, .slice (some ⟨a2, 0, none⟩) 1 cv]) 2).run Try.prog w = .ok (.slice (some ⟨a2, 0, none⟩) 1 cv) w := fun w => by kernel_rfl
                      go_simp
                      refine hK.out _ _ (fun _ => HC.out _ hkv) ?_
                      clear hK K
                      try simp only [Act.put, List.setIfInBounds_toArray, List.set_cons_zero, List.set_cons_succ]
                      replace hHeld := HC.out _ hkv
                      refine wpAnyL_takeT (i := 3) (v := ?rvm3) rfl (by kernel_rfl) (by kernel_rfl) (by kernel_rfl) (by kernel_rfl) (fun _ _ _ h => h) (Or.inl ⟨by rfl, ?rym3⟩) hHeld ?rrm3
                      case rym3 => (intro w' hSw; (try dsimp only at hSw); go_simp; first | done | with_reducible rfl)
                      case' rrm3 => (try simp only [Act.put, List.setIfInBounds_toArray, List.set_cons_zero, List.set_cons_succ])
                      refine wpAnyL_takeT (i := 4) (v := ?rvm4) rfl (by kernel_rfl) (by kernel_rfl) (by kernel_rfl) (by kernel_rfl) (fun _ _ _ h => h) (Or.inl ⟨by rfl, ?rym4⟩) hHeld ?rrm4
                      case rym4 => (intro w' hSw; (try dsimp only at hSw); go_simp; first | done | with_reducible rfl)
                      case' rrm4 => (try simp only [Act.put, List.setIfInBounds_toArray, List.set_cons_zero, List.set_cons_succ])
                      refine wpAnyL_takeT (i := 5) (v := ?rvm5) rfl (by kernel_rfl) (by kernel_rfl) (by kernel_rfl) (by kernel_rfl) (fun _ _ _ h => h) (Or.inl ⟨by rfl, ?rym5⟩) hHeld ?rrm5
                      case rym5 => (intro w' hSw; (try dsimp only at hSw); go_simp; first | done | with_reducible rfl)
                      case' rrm5 => (try simp only [Act.put, List.setIfInBounds_toArray, List.set_cons_zero, List.set_cons_succ])
                      refine wpAnyL_oneT (i := 6) (by kernel_rfl) rfl (fun K hK => ?_)
                      go_simp
                      refine hK.out _ _ (fun _ => HC.out _ hkv) ?_
                      clear hK K
                      try simp only [Act.put, List.setIfInBounds_toArray, List.set_cons_zero, List.set_cons_succ]
                      refine wpAnyL_oneT (i := 7) (by kernel_rfl) rfl (fun K hK => ?_)
                      go_simp
                      go_at_call 33
                      refine (QM.out _ hkv).mono ?_
                      rintro e wm ⟨rfl, hkm⟩
                      go_simp
                      refine hK.out _ _ (fun _ => HC.out _ hkm) ?_
                      clear hK K
                      try simp only [Act.put, List.setIfInBounds_toArray, List.set_cons_zero, List.set_cons_succ]
                      replace hHeld := HC.out _ hkm
                      refine wpAnyL_done (by kernel_rfl) ?_ _
                      refine NoPanic.normal ?_
                      clear hHeld g6 g7 hkv hfd
                      go_upto_if 103 with fail
                      go_cut [] (fun wx => ∃ d', Hu wb z nb xp ce P sig d' (10 + 40 * i' + 2) ((bd, 91, #[.bool tk, .bool gv, .slice dA xs.length dc, .int .i64 X]) :: [(bp, 89, #[vc, vv]), (bf, 34, #[.int .i64 0, .int .i64 1, .int .i64 s, .int .u64 (sf.a : Int), .int .u64 (sf.b : Int)])]) ((3, .slice Al l.length cl, iv l) :: [(3, vc, iv (P.map (·.1))), (2, vv, iv (P.map (·.2)))]) wx ∧ (d' = false → ((ofL nb l).meet sig).none = true))
                      case first =>
                        have HD6 := Lib.hid ((HD5.out.calm hkm).less (l' := ((bd, 91, #[.bool tk, .bool gv, .slice dA xs.length dc, .int .i64 X]) :: [(bp, 89, #[vc, vv]), (bf, 34, #[.int .i64 0, .int .i64 1, .int .i64 s, .int .u64 (sf.a : Int), .int .u64 (sf.b : Int)])])) (r' := ((3, .slice Al l.length cl, iv l) :: [(3, vc, iv (P.map (·.1))), (2, vv, iv (P.map (·.2)))])) (fun x hx => by simp only [List.mem_cons] at hx ⊢; exact .inr hx) (fun x hx => hx))
                        clear HD5 HC QV QM hkm hkB
                        cases mt
                        · go_wp2_with fail
                          refine HD6.out.slots.mono ?_
                          rintro e wq ⟨rfl, rfl⟩
                          go_wp2_with fail
                          refine (HD6.out.doom (by omega)).mono ?_
                          rintro e w7 ⟨⟨a, rfl⟩, hwt⟩
                          go_wp2_with fail
                          go_meet
                          exact ⟨true, hwt.wide (by omega), fun h => by cases h⟩
                        · go_wp2_with fail
                          go_meet
                          exact ⟨d, HD6.out.wide (by omega), fun _ => by rw [HSWK.out.2]; exact HMT.out⟩
                      case rest =>
                        obtain ⟨d', hu6, hm6⟩ := hcut
                        obtain ⟨w6, hw6⟩ : ∃ q, q = wc := ⟨_, rfl⟩
                        subst hw6
                        have HD6 := Lib.hid hu6
                        have HM6 := Lib.hid hm6
                        clear hu6 hm6 HD5 HC QV QM hkm hkB HMT HSWK
                        go_wp2_with fail
                        go_loopw [21] (fun kv wr => ∃ m : Nat, m ≤ l.length ∧ kv = .int .i64 m ∧ Hu wb z nb xp ce P sig d' (10 + 40 * i' + 2 + m) ((bd, 91, #[.bool tk, .bool gv, .slice dA xs.length dc, .int .i64 X]) :: [(bp, 89, #[vc, vv]), (bf, 34, #[.int .i64 0, .int .i64 1, .int .i64 s, .int .u64 (sf.a : Int), .int .u64 (sf.b : Int)])]) ((3, .slice Al l.length cl, iv l) :: [(3, vc, iv (P.map (·.1))), (2, vv, iv (P.map (·.2)))]) wr) (fun kv _ => l.length - (intOf kv).toNat)
                        case atStart => exact ⟨0, Nat.zero_le _, rfl, HD6.out⟩
                        case round =>
                          obtain ⟨m, hml, rfl, hu7⟩ := hrel
                          have HD7 := Lib.hid hu7
                          clear hu7 HD6
                          have hwm : IntKind.i64.wrap ((m : Int) + 1) = (m : Int) + 1 := by rw [IntKind.wrap_i64]; omega
                          by_cases hlm : (m : Int) < (l.length : Int)
                          · as_aux_lemma =>
                              obtain ⟨c, hcz⟩ : ∃ q, l[m]? = some q := ⟨_, List.getElem?_eq_getElem (by omega)⟩
                              have hcl : c ∈ l := List.mem_of_getElem? hcz
                              have hc0 := (HLI.out c hcl).1
                              obtain ⟨A', c', e', hs7⟩ := HD7.out.slc (t := 3) (v := .slice Al l.length cl) (xs := l) (by simp) (by unfold maxLen; omega)
                              injection e' with e1 e2 e3
                              subst e1
                              clear e2 e3 c'
                              obtain ⟨rg, ro, hAl, hrl, hrc⟩ := hs7.at_ hcz
                              subst hAl
                              have hbl := HD7.out.loc (q := bd) (t := 91) (cs := #[.bool tk, .bool gv, .slice dA xs.length dc, .int .i64 X]) (by simp)
                              have HC := Lib.hid (show ∀ w', Keeps [] wr w' → w'.cell? ⟨rg, ro + m, none⟩ = some (.int .i64 c) ∧ w'.cell? ⟨bd, 3, none⟩ = some (.int .i64 X) from fun w' hk => ⟨(keeps_cell hk hrl (by simp)).trans hrc, ((hbl.keeps hk (by simp)).cell 3).trans rfl⟩)
                              have hkB : Keeps [] wr wr := Keeps.refl _ _
                              have QS : Hid (∀ w' (cv uv : Int), Keeps [] wr w' → cv = c → Calls Try.prog 34 #[PT z.p, .int .i64 cv, .int .i64 uv] w' fun e w'' => (∃ a : Int, e = .returned (.int .i64 a)) ∧ Hu wb z nb xp ce P sig d' (10 + 40 * i' + 2 + m + 1) ((bd, 91, #[.bool tk, .bool gv, .slice dA xs.length dc, .int .i64 X]) :: [(bp, 89, #[vc, vv]), (bf, 34, #[.int .i64 0, .int .i64 1, .int .i64 s, .int .u64 (sf.a : Int), .int .u64 (sf.b : Int)])]) ((3, .slice (some ⟨rg, ro, none⟩) l.length cl, iv l) :: [(3, vc, iv (P.map (·.1))), (2, vv, iv (P.map (·.2)))]) w'') := fun w' cv uv hk he => by
                                subst he
                                exact (HD7.out.calm hk).store (by omega) hcl hc0 HM6.out uv
                              have m0 : (0 : Int) ≤ (m : Int) := by omega
                              have HZ := Lib.hid hcz
                              clear hcl hc0 hs7 hrl hrc hbl hcz
                              go_wp2_with fail
                              go_region_held3 (fun w' => w'.cell? ⟨rg, ro + m, none⟩ = some (.int .i64 c) ∧ w'.cell? ⟨bd, 3, none⟩ = some (.int .i64 X)) (first | with_reducible exact HC.out _ (by first | with_reducible assumption | exact Keeps.drew (by with_reducible assumption)) | with_reducible exact d30 | go_keep) ((go_at_call 34; refine (QS.out _ _ _ (by first | with_reducible assumption | exact Keeps.drew (by with_reducible assumption)) rfl).mono ?_; rintro e w7 ⟨⟨a, rfl⟩, hwt⟩; have d30 := store_seen hwt HZ.out; have HD8 := Lib.hid hwt; clear hwt))
                              go_wp2_with fail
                              exact ⟨⟨m + 1, by omega, by simp, by rw [show 10 + 40 * i' + 2 + (m + 1) = 10 + 40 * i' + 2 + m + 1 by omega]; exact HD8.out⟩, by simp [intOf]; omega⟩
                          · go_wp2_with fail
                            go_meet
                            exact ⟨d', (HD7.out.less (l' := ((bd, 91, #[.bool tk, .bool gv, .slice dA xs.length dc, .int .i64 X]) :: [(bp, 89, #[vc, vv]), (bf, 34, #[.int .i64 0, .int .i64 1, .int .i64 s, .int .u64 (sf.a : Int), .int .u64 (sf.b : Int)])])) (r' := [(3, vc, iv (P.map (·.1))), (2, vv, iv (P.map (·.2)))]) (fun x hx => hx) (fun x hx => by simp only [List.mem_cons] at hx ⊢; exact .inr hx)).wide (by omega)⟩
                    · have hb := of_decide_eq_true hb2.symm
                      obtain ⟨hb1, hb16⟩ := hb
                      obtain ⟨zz, hz⟩ : ∃ q, xs[j]? = some q := ⟨_, List.getElem?_eq_getElem (by omega)⟩
                      obtain ⟨ab, ao, hA, hab, hac⟩ := (HSL.out.keeps ((HD3.out.calm HR.out.2).keep)).at_ hz
                      subst hA
                      have k1 : bits .and .i64 zz 15 = m15 zz := and15 zz
                      have j0 : (0 : Int) ≤ (j : Int) := by omega
                      have HZ := Lib.hid hz
                      have hmx : Hid (((xs.take j).map m15).length + 1 ≤ maxLen) := by unfold Hid maxLen; simp; omega
                      have hby : Hid ((((xs.take j).map m15).length + 1) * 8 ≤ 140737488355328) := by unfold Hid; simp; omega
                      obtain ⟨hi, hz0, hz1, hz2⟩ := HI0.out
                      clear hb2 hz
                      go_wp2_with (at_builtin; refine wpList_append_row rfl (.tmp 79) (.tmp 86) 23 rfl 3 i0 _ 1 8 Try.underlying23 hi hz0 hz1 hz2 rfl (by decide) _ ((xs.take j).map m15).length (((xs.take j).map m15).map (Value.int .i64)) rfl ((HR.out.keeps ((Keeps.refl [] _).alloc _)).own0 _ rfl) _ 1 ([m15 zz].map (Value.int .i64)) rfl (one_row _ _ _ rfl) (one_ints _) hmx.out hby.out ?_; intro v1 w6 hown1 hg1 hat1; have HN := Lib.hid (HR.out.snoc ((Keeps.refl [] _).alloc _) (by simp) hown1 hg1 hat1))
                      clear hown1 hg1 hat1
                      exact ⟨⟨j + 1, by omega, by omega, by simp, by rw [map15 HZ.out]; exact HN.out⟩, by simp [intOf]; omega⟩
          case rest => as_aux_lemma =>
            obtain ⟨d', hu⟩ := hcut
            obtain ⟨wf, hwf⟩ : ∃ q, q = wc := ⟨_, rfl⟩
            subst hwf
            have HD6 := Lib.hid hu
            have c1 : wf.cell? ⟨bd, 1, none⟩ = some (.bool gv) := ((hu.loc (q := bd) (t := 91) (cs := #[.bool tk, .bool gv, .slice dA xs.length dc, .int .i64 X]) (by simp)).cell 1).trans rfl
            clear hu HD3 hbo
            go_upto_if 124 with fail
            go_cut [] (fun wx => Hu wb z nb xp ce P sig d' (10 + 40 * i' + 31) ((bd, 91, #[.bool tk, .bool gv, .slice dA xs.length dc, .int .i64 X]) :: [(bp, 89, #[vc, vv]), (bf, 34, #[.int .i64 0, .int .i64 1, .int .i64 s, .int .u64 (sf.a : Int), .int .u64 (sf.b : Int)])]) [(3, vc, iv (P.map (·.1))), (2, vv, iv (P.map (·.2)))] wx)
            case first =>
              cases gv
              · go_wp2_with fail
                go_meet
                exact HD6.out.wide (by omega)
              · go_wp2_with fail
                refine HD6.out.gate.mono ?_
                rintro e wq ⟨rfl, rfl⟩
                go_wp2_with fail
                refine (HD6.out.give (by omega) 2).mono ?_
                rintro e w7 ⟨⟨a, rfl⟩, hwt⟩
                go_wp2_with fail
                go_meet
                exact hwt
            case rest => as_aux_lemma =>
              obtain ⟨wg, hwg⟩ : ∃ q, q = wc := ⟨_, rfl⟩
              subst hwg
              have HD7 := Lib.hid hcut
              clear hcut HD6 c1
              have hbn : ∃ bn : Bool, (bn = true ∧ xp = .pointer none ∧ sf = sig ∧ (q : Int) < (ys.length : Int)) ∨ (bn = false ∧ xp = .pointer none ∧ sf = sig ∧ ¬ (q : Int) < (ys.length : Int)) ∨ (bn = false ∧ (∃ b, xp = PT b) ∧ ∃ y, ys[q]? = some y ∧ y % 16 = ce) := by
                rcases HX0.out with ⟨h1, h2⟩ | ⟨h1, h2⟩
                · by_cases h3 : (q : Int) < (ys.length : Int)
                  · exact ⟨true, .inl ⟨rfl, h1, h2, h3⟩⟩
                  · exact ⟨false, .inr (.inl ⟨rfl, h1, h2, h3⟩)⟩
                · exact ⟨false, .inr (.inr ⟨rfl, h1, h2⟩)⟩
              obtain ⟨bn, hbn⟩ := hbn
              have HBN := Lib.hid hbn
              clear hbn HX0
              go_upto_region 33 with fail
              go_cut [135] (fun v wx => wg = wx ∧ v = .bool bn)
              case first =>
                rcases HBN.out with ⟨rfl, rfl, rfl, h3⟩ | ⟨rfl, rfl, rfl, h3⟩ | ⟨rfl, ⟨b, rfl⟩, _⟩
                · go_wp2_with fail
                  go_meet
                  exact ⟨rfl, rfl⟩
                · go_wp2_with fail
                  go_meet
                  exact ⟨rfl, rfl⟩
                · go_wp2_with fail
                  go_meet
                  exact ⟨rfl, rfl⟩
              case rest => as_aux_lemma =>
                obtain ⟨rfl, rfl⟩ := hcut
                go_upto_if 135 with fail
                go_cut [13] (fun xv wx => (xv = .pointer none ∧ sf = sig ∧ Hu wb z nb (.pointer none) ce P sig d' (10 + 40 * i' + 31) ((bd, 91, #[.bool tk, .bool gv, .slice dA xs.length dc, .int .i64 X]) :: [(bp, 89, #[vc, vv]), (bf, 34, #[.int .i64 0, .int .i64 1, .int .i64 s, .int .u64 (sf.a : Int), .int .u64 (sf.b : Int)])]) [(3, vc, iv (P.map (·.1))), (2, vv, iv (P.map (·.2)))] wx) ∨ (∃ b ce', xv = PT b ∧ (∃ y, ys[q]? = some y ∧ y % 16 = ce') ∧ Hu wb z nb (PT b) ce' P sig d' (10 + 40 * i' + 31) ((bd, 91, #[.bool tk, .bool gv, .slice dA xs.length dc, .int .i64 X]) :: [(bp, 89, #[vc, vv]), (bf, 34, #[.int .i64 0, .int .i64 1, .int .i64 s, .int .u64 (sf.a : Int), .int .u64 (sf.b : Int)])]) [(3, vc, iv (P.map (·.1))), (2, vv, iv (P.map (·.2)))] wx))
                case first =>
                  rcases HBN.out with ⟨rfl, rfl, hsf, h3⟩ | ⟨rfl, rfl, hsf, h3⟩ | ⟨rfl, ⟨b, rfl⟩, hy⟩
                  · as_aux_lemma =>
                      subst hsf
                      have q1 : (0 : Int) ≤ (q : Int) := by omega
                      obtain ⟨y, hy⟩ : ∃ y, ys[q]? = some y := ⟨_, List.getElem?_eq_getElem (by omega)⟩
                      obtain ⟨cb, co, hCe, hcl, tc⟩ := (HY.out.keeps HD7.out.keep).at_ hy
                      have k1 : bits .and .i64 y 15 = m15 y := and15 y
                      subst hCe
                      obtain ⟨cell, hce, ce0, ce1⟩ : ∃ c, m15 y = c ∧ 0 ≤ c ∧ c ≤ 15 := ⟨_, rfl, m15_in y⟩
                      rw [hce] at k1
                      have HCE := Lib.hid hce
                      clear hce
                      have hb := HD7.out.loc (q := bf) (t := 34) (cs := #[.int .i64 0, .int .i64 1, .int .i64 s, .int .u64 (sf.a : Int), .int .u64 (sf.b : Int)]) (by simp)
                      have HC := Lib.hid (show ∀ w', Keeps [] wg w' → w'.cell? ⟨bf, 0, none⟩ = some (.int .i64 0) ∧ w'.cell? ⟨bf, 1, none⟩ = some (.int .i64 1) ∧ w'.cell? ⟨bf, 2, none⟩ = some (.int .i64 s) ∧ w'.cell? ⟨bf, 3, none⟩ = some (.int .u64 (sf.a : Int)) ∧ w'.cell? ⟨bf, 4, none⟩ = some (.int .u64 (sf.b : Int)) ∧ w'.cell? ⟨cb, co + q, none⟩ = some (.int .i64 y) from fun w' hk => ⟨((hb.keeps hk (by simp)).cell 0).trans rfl, ((hb.keeps hk (by simp)).cell 1).trans rfl, ((hb.keeps hk (by simp)).cell 2).trans rfl, ((hb.keeps hk (by simp)).cell 3).trans rfl, ((hb.keeps hk (by simp)).cell 4).trans rfl, (keeps_cell hk hcl (by simp)).trans tc⟩)
                      have hkB : Keeps [] wg wg := Keeps.refl _ _
                      have QN : Hid (∀ w' (cv : Int), Keeps [] wg w' → cv = cell → Calls Try.prog 13 #[PT z.p, .agg #[.int .i64 0, .int .i64 1, .int .i64 s, .int .u64 (sf.a : Int), .int .u64 (sf.b : Int)], .int .i64 cv] w' fun e w'' => (∃ b, e = .returned (.tuple #[PT b, .int .i64 0]) ∧ Hu wb z nb (PT b) cell P sf d' (10 + 40 * i' + 31) ((bd, 91, #[.bool tk, .bool gv, .slice dA xs.length dc, .int .i64 X]) :: [(bp, 89, #[vc, vv]), (bf, 34, #[.int .i64 0, .int .i64 1, .int .i64 s, .int .u64 (sf.a : Int), .int .u64 (sf.b : Int)])]) [(3, vc, iv (P.map (·.1))), (2, vv, iv (P.map (·.2)))] w'') ∧ Keeps [] wg w'') := fun w' cv hk he => by
                        subst he
                        exact ((HD7.out.calm hk).new s nb1 nb8 ce0 ce1).mono fun e w'' ⟨h1, h2⟩ => ⟨h1, hk.trans h2 (by simp)⟩
                      have HYY := Lib.hid hy
                      clear hb hcl hy
                      go_wp2_with fail
                      go_region_held3 (fun w' => w'.cell? ⟨bf, 0, none⟩ = some (.int .i64 0) ∧ w'.cell? ⟨bf, 1, none⟩ = some (.int .i64 1) ∧ w'.cell? ⟨bf, 2, none⟩ = some (.int .i64 s) ∧ w'.cell? ⟨bf, 3, none⟩ = some (.int .u64 (sf.a : Int)) ∧ w'.cell? ⟨bf, 4, none⟩ = some (.int .u64 (sf.b : Int)) ∧ w'.cell? ⟨cb, co + q, none⟩ = some (.int .i64 y)) (first | with_reducible exact HC.out _ (by first | with_reducible assumption | exact Keeps.drew (by with_reducible assumption)) | with_reducible exact d2 | go_keep) ((go_at_call 13; refine (QN.out _ _ (by first | with_reducible assumption | exact Keeps.drew (by with_reducible assumption)) (by first | exact k1 | exact rfl)).mono ?_; rintro e w5 ⟨⟨b, rfl, hp⟩, hk5⟩; have d2 := HC.out w5 hk5; have HP5 := Lib.hid hp; clear hp))
                      go_wp2_with fail
                      go_meet
                      exact .inr ⟨b, cell, rfl, ⟨y, HYY.out, HCE.out⟩, HP5.out⟩
                  · go_wp2_with fail
                    go_meet
                    exact .inl ⟨rfl, hsf, HD7.out⟩
                  · go_wp2_with fail
                    go_meet
                    exact .inr ⟨b, ce, rfl, hy, HD7.out⟩
                case rest => as_aux_lemma =>
                  obtain ⟨wh, hwh⟩ : ∃ q, q = wc := ⟨_, rfl⟩
                  subst hwh
                  clear HD7 HBN
                  rcases hcut with ⟨rfl, rfl, hu⟩ | ⟨b, ce', rfl, hy, hu⟩
                  · have HD8 := Lib.hid hu
                    clear hu
                    go_wp2_with fail
                    exact ⟨⟨i' + 1, q, P, _, _, d', s, ce, vc, vv, _, rfl, by omega, by simp, rfl, by omega, by omega, hPq, .inl ⟨rfl, rfl⟩, (HD8.out.less (l' := [(bp, 89, #[vc, vv]), (bf, 34, #[.int .i64 0, .int .i64 1, .int .i64 s, .int .u64 (sf.a : Int), .int .u64 (sf.b : Int)])]) (r' := [(3, vc, iv (P.map (·.1))), (2, vv, iv (P.map (·.2)))]) (fun x hx => by simp only [List.mem_cons] at hx ⊢; exact .inr hx) (fun x hx => hx)).wide (by omega)⟩, by simp [intOf]; omega⟩
                  · have HD8 := Lib.hid hu
                    have HYQ := Lib.hid hy
                    clear hu hy
                    go_wp2_with fail
                    refine (HD8.out.step (by omega)).mono ?_
                    rintro e w5 ⟨⟨a5, rfl⟩, sg', ov, xv, xe, hv⟩
                    have HV := Lib.hid hv
                    clear hv HD8
                    go_wp2_with fail
                    refine HV.out.done_.mono ?_
                    rintro e wq ⟨rfl, rfl⟩
                    cases ov
                    · as_aux_lemma =>
                        have HG := Lib.hid HV.out.cont
                        have p0 : w5.cell? ⟨bp, 0, none⟩ = some vc := ((HG.out.loc (q := bp) (t := 89) (cs := #[vc, vv]) (by simp)).cell 0).trans rfl
                        have p1 : w5.cell? ⟨bp, 1, none⟩ = some vv := ((HG.out.loc (q := bp) (t := 89) (cs := #[vc, vv]) (by simp)).cell 1).trans rfl
                        have QH := Lib.hid (holds_any HG.out (vc := vc) (vv := vv) (by simp) (by simp) (by omega))
                        clear HV
                        go_wp2_with fail
                        refine QH.out.mono ?_
                        rintro e w6 ⟨rfl, hk6⟩
                        have HG6 := Lib.hid (HG.out.calm hk6)
                        clear hk6 HG QH p0 p1
                        go_wp2_with fail
                        exact ⟨⟨i' + 1, q, P, sg', sf, d', s, ce', vc, vv, _, rfl, by omega, by simp, rfl, by omega, by omega, hPq, .inr ⟨⟨b, rfl⟩, HYQ.out⟩, (HG6.out.less (l' := [(bp, 89, #[vc, vv]), (bf, 34, #[.int .i64 0, .int .i64 1, .int .i64 s, .int .u64 (sf.a : Int), .int .u64 (sf.b : Int)])]) (r' := [(3, vc, iv (P.map (·.1))), (2, vv, iv (P.map (·.2)))]) (fun x hx => by simp only [List.mem_cons] at hx ⊢; exact .inr hx) (fun x hx => hx)).wide (by omega)⟩, by simp [intOf]; omega⟩
                    · as_aux_lemma =>
                        rcases HV.out.fin with ⟨hxe, hv0⟩ | ⟨hxe, hd1⟩
                        · subst hxe
                          obtain ⟨y, hy, hce⟩ := HYQ.out
                          have hce' : m15 y = ce' := hce
                          subst hce'
                          have HV0 := Lib.hid hv0
                          have hvl := hv0.value
                          rw [if_pos rfl] at hvl
                          have QVL := Lib.hid hvl
                          clear hv0 hvl HV hce HYQ
                          go_wp2_with fail
                          refine QVL.out.mono ?_
                          rintro e w6 ⟨rfl, hk6⟩
                          have HV6 : Hid (Hv wb z b nb (m15 y) true xv 0 (P ++ [(m15 y, xv)]) sg' d' (10 + 40 * i' + 31 + 1) ((bp, 89, #[vc, vv]) :: [(bd, 91, #[.bool tk, .bool gv, .slice dA xs.length dc, .int .i64 X]), (bf, 34, #[.int .i64 0, .int .i64 1, .int .i64 s, .int .u64 (sf.a : Int), .int .u64 (sf.b : Int)])]) ((3, vc, (iv (P.map (·.1)))) :: [(2, vv, (iv (P.map (·.2))))]) w6) := (HV0.out.calm hk6).less (fun x hx => by simp only [List.mem_cons, List.not_mem_nil, or_false] at hx ⊢; rcases hx with h | h | h <;> simp [h]) (fun x hx => hx)
                          clear hk6 HV0 QVL
                          have q1 : (0 : Int) ≤ (q : Int) := by omega
                          have hqy : (q : Int) < (ys.length : Int) := by have := (List.getElem?_eq_some_iff.1 hy).1; omega
                          obtain ⟨cb, co, hCe, hcl, tc⟩ := (HY.out.keeps HV6.out.keep).at_ hy
                          subst hCe
                          have HYY := Lib.hid hy
                          have k1 : bits .and .i64 y 15 = m15 y := and15 y
                          have hbp := HV6.out.loc (q := bp) (t := 89) (cs := #[vc, vv]) (by simp)
                          have HROW := Lib.hid (HV6.out.row (t := 3) (v := vc) (xs := (iv (P.map (·.1)))) (by simp))
                          have hmx : Hid ((iv (P.map (·.1))).length + 1 ≤ maxLen) := by unfold Hid maxLen; simp [iv]; omega
                          have hby : Hid (((iv (P.map (·.1))).length + 1) * 8 ≤ 140737488355328) := by unfold Hid; simp [iv]; omega
                          have hmx2 : Hid ((iv (P.map (·.2))).length + 1 ≤ maxLen) := by unfold Hid maxLen; simp [iv]; omega
                          have hby2 : Hid (((iv (P.map (·.2))).length + 1) * 8 ≤ 140737488355328) := by unfold Hid; simp [iv]; omega
                          obtain ⟨hi, hz0, hz1, hz2⟩ := HI0.out
                          have HBP6 := Lib.hid hbp
                          have HNE1 : Hid (bd ≠ bp) := blk_ne (HV6.out.loc (q := bd) (t := 91) (cs := #[.bool tk, .bool gv, .slice dA xs.length dc, .int .i64 X]) (by simp)) hbp (by decide)
                          have HNE2 : Hid (bf ≠ bp) := blk_ne (HV6.out.loc (q := bf) (t := 34) (cs := #[.int .i64 0, .int .i64 1, .int .i64 s, .int .u64 (sf.a : Int), .int .u64 (sf.b : Int)]) (by simp)) hbp (by decide)
                          have HTC := Lib.hid (And.intro hcl tc)
                          clear hbp hcl tc hy
                          go_wp2_with fail
                          refine wp_region_noPanic ?_
                          refine wp_region_L 10 (fun w' => w'.cell? ⟨bp, 0, none⟩ = some vc ∧ w'.cell? ⟨cb, co + q, none⟩ = some (.int .i64 y)) (by kernel_rfl) ?_
                          have hHeld := (show _ ∧ _ from ⟨(HBP6.out.drew.cell 0).trans rfl, (keeps_cell (Keeps.refl [] w6).drew HTC.out.1 (by simp)).trans HTC.out.2⟩)
                          refine wpAnyL_takeT (i := 0) (v := ?rvd0) rfl (by kernel_rfl) (by kernel_rfl) (by kernel_rfl) (by kernel_rfl) (fun _ _ _ h => h) (Or.inl ⟨by rfl, ?ryd0⟩) hHeld ?rrd0
                          case ryd0 => (intro w' hSw; (try dsimp only at hSw); go_simp; first | done | with_reducible rfl)
                          case' rrd0 => (try simp only [Act.put, List.setIfInBounds_toArray, List.set_cons_zero, List.set_cons_succ])
                          refine wpAnyL_takeT (i := 1) (v := ?rvd1) rfl (by kernel_rfl) (by kernel_rfl) (by kernel_rfl) (by kernel_rfl) (fun _ _ _ h => h) (Or.inl ⟨by rfl, ?ryd1⟩) hHeld ?rrd1
                          case ryd1 => (intro w' hSw; (try dsimp only at hSw); go_simp; first | done | with_reducible rfl)
                          case' rrd1 => (try simp only [Act.put, List.setIfInBounds_toArray, List.set_cons_zero, List.set_cons_succ])
                          refine wpAnyL_takeT (i := 2) (v := ?rvd2) rfl (by kernel_rfl) (by kernel_rfl) (by kernel_rfl) (by kernel_rfl) (fun _ _ _ h => h) (Or.inl ⟨by rfl, ?ryd2⟩) hHeld ?rrd2
                          case ryd2 => (intro w' hSw; (try dsimp only at hSw); go_simp; first | done | with_reducible rfl)
                          case' rrd2 => (try simp only [Act.put, List.setIfInBounds_toArray, List.set_cons_zero, List.set_cons_succ])
                          refine wpAnyL_takeT (i := 3) (v := ?rvd3) rfl (by kernel_rfl) (by kernel_rfl) (by kernel_rfl) (by kernel_rfl) (fun _ _ _ h => h) (Or.inl ⟨by rfl, ?ryd3⟩) hHeld ?rrd3
                          case ryd3 => (intro w' hSw; (try dsimp only at hSw); go_simp; first | done | with_reducible rfl)
                          case' rrd3 => (try simp only [Act.put, List.setIfInBounds_toArray, List.set_cons_zero, List.set_cons_succ])
                          refine wpAnyL_takeT (i := 4) (v := ?rvd4) rfl (by kernel_rfl) (by kernel_rfl) (by kernel_rfl) (by kernel_rfl) (fun _ _ _ h => h) (Or.inl ⟨by rfl, ?ryd4⟩) hHeld ?rrd4
                          case ryd4 => (intro w' hSw; (try dsimp only at hSw); go_simp; first | done | with_reducible rfl)
                          case' rrd4 => (try simp only [Act.put, List.setIfInBounds_toArray, List.set_cons_zero, List.set_cons_succ])
                          refine wpAnyL_takeT (i := 5) (v := ?rvd5) rfl (by kernel_rfl) (by kernel_rfl) (by kernel_rfl) (by kernel_rfl) (fun _ _ _ h => h) (Or.inl ⟨by rfl, ?ryd5⟩) hHeld ?rrd5
                          case ryd5 => (intro w' hSw; (try dsimp only at hSw); go_simp; first | done | with_reducible rfl)
                          case' rrd5 => (try simp only [Act.put, List.setIfInBounds_toArray, List.set_cons_zero, List.set_cons_succ])
                          refine wpAnyL_takeT (i := 6) (v := ?rvd6) rfl (by kernel_rfl) (by kernel_rfl) (by kernel_rfl) (by kernel_rfl) (fun _ _ _ h => h) (Or.inl ⟨by rfl, ?ryd6⟩) hHeld ?rrd6
                          case ryd6 => (intro w' hSw; (try dsimp only at hSw); go_simp; first | done | with_reducible rfl)
                          case' rrd6 => (try simp only [Act.put, List.setIfInBounds_toArray, List.set_cons_zero, List.set_cons_succ])
                          refine wpAnyL_oneT (i := 7) (by kernel_rfl) rfl (fun K hK => ?_)
                          go_simp
                          refine hK.out _ _ (fun _ => ⟨((HBP6.out.drew.alloc _).cell 0).trans rfl, (keeps_cell ((Keeps.refl [] w6).drew.alloc _) HTC.out.1 (by simp)).trans HTC.out.2⟩) ?_
                          clear hK K
                          try simp only [Act.put, List.setIfInBounds_toArray, List.set_cons_zero, List.set_cons_succ]
                          refine wpAnyL_oneT (i := 8) (by kernel_rfl) rfl (fun K hK => ?_)
                          refine step_append_lies _ rfl (.tmp 179) (.tmp 185) 23 rfl 0 3 i0 _ 1 8 Try.underlying23 hi hz0 hz1 hz2 rfl (by decide) vc (iv (P.map (·.1))).length (iv (P.map (·.1))) rfl (own_keeps (own_base HROW.out (fun _ _ => Nat.zero_le _)) ((Keeps.refl [] w6).drew.alloc _) (by simp)) ⟨w6.heap.size, 0, none⟩ 1 1 [.int .i64 (m15 y)] rfl rfl (by exact World.news_of_block (new_at _ _ _ (by simp))) (by simp [Value.oneCell']) (by decide) hmx.out hby.out (Nat.zero_le _) _ rfl ?_
                          intro g3 c3 w7 hown3 hgrow3 hat3 hlt3
                          have HV7 := Lib.hid (HV6.out.snoc (y := .int .i64 (m15 y)) (by decide) (fun l hl => by simp only [List.mem_cons, List.not_mem_nil, or_false] at hl; rcases hl with rfl | rfl | rfl <;> simp) (fun r hr => by simp only [List.mem_cons, List.not_mem_nil, or_false] at hr; subst hr; simp) ((Keeps.refl [] w6).drew.alloc _) rfl hown3 hgrow3 (hat3.elim (fun h => .inl h.symm) (fun h => .inr (by rw [h]; rfl))))
                          have hb7 := HV7.out.loc (q := bp) (t := 89) (cs := #[vc, vv]) (by simp)
                          have d7 : w7.cell? ⟨bp, 0, none⟩ = some vc := (hb7.cell 0).trans rfl
                          have f7 := hb7.frozen 0
                          have hHeld2 : w7.cell? ⟨bp, 0, none⟩ = some vc ∧ w7.cell? ⟨cb, co + q, none⟩ = some (.int .i64 y) := ⟨d7, slc_cell (HY.out.keeps HV7.out.keep) HYY.out⟩
                          clear hb7 hown3 hgrow3 hat3 hlt3
                          refine hK.out _ _ (fun _ => hHeld2) ?_
                          clear hK K
                          try simp only [Act.put, List.setIfInBounds_toArray, List.set_cons_zero, List.set_cons_succ]
                          refine wpAnyL_oneT (i := 9) (by kernel_rfl) rfl (fun K hK => ?_)
                          go_simp
                          refine hK.out _ _ (fun _ => hHeld2) ?_
                          clear hK K
                          try simp only [Act.put, List.setIfInBounds_toArray, List.set_cons_zero, List.set_cons_succ]
                          refine wpAnyL_oneT (i := 10) (by kernel_rfl) rfl (fun K hK => ?_)
                          go_simp
                          refine hK.out _ _ (fun h => absurd rfl h) ?_
                          clear hK K
                          try simp only [Act.put, List.setIfInBounds_toArray, List.set_cons_zero, List.set_cons_succ]
                          refine wpAnyL_done (by kernel_rfl) ?_ _
                          refine NoPanic.normal ?_
                          clear hHeld hHeld2 d7 f7 hi hz0 hz1 hz2 hmx hby HBP6 HTC HV6
                          have hln1 : (iv (P.map (·.1))).length + 1 = q + 1 := by simp [iv, hPq]
                          rw [hln1] at HV7
                          obtain ⟨v1, hv1⟩ : ∃ v, v = Value.slice (some ⟨g3, 0, none⟩) (q + 1) c3 := ⟨_, rfl⟩
                          rw [← hv1] at HV7
                          rw [← hv1]
                          have hk8 : Keeps [bp] w7 (w7.setCell ⟨bp, 0, none⟩ v1) := (Keeps.refl [bp] w7).setCell (.inl (by simp)) _
                          have hb8 : Blk (w7.setCell ⟨bp, 0, none⟩ v1) bp 89 #[v1, vv] := (HV7.out.loc (q := bp) (t := 89) (cs := #[vc, vv]) (by simp)).set_ 0 v1
                          have hv8 := (HV7.out.put (cs' := #[v1, vv]) (Nat.le_trans HBL.out (Nat.le_of_lt HBP.out)) (by decide) (fun r hr => by simp only [List.mem_cons, List.not_mem_nil, or_false] at hr; rcases hr with rfl | rfl <;> simp) (fun l hl => by simp only [List.mem_cons, List.not_mem_nil, or_false] at hl; rcases hl with rfl | rfl; exact HNE1.out; exact HNE2.out) hk8 hb8).less (l' := ((bp, 89, #[v1, vv]) :: [(bd, 91, #[.bool tk, .bool gv, .slice dA xs.length dc, .int .i64 X]), (bf, 34, #[.int .i64 0, .int .i64 1, .int .i64 s, .int .u64 (sf.a : Int), .int .u64 (sf.b : Int)])])) (r' := ((2, vv, (iv (P.map (·.2)))) :: [(3, v1, (iv (P.map (·.1))) ++ [.int .i64 (m15 y)])])) (fun x hx => hx) (fun x hx => by simp only [List.mem_cons, List.not_mem_nil, or_false] at hx ⊢; rcases hx with h | h <;> simp [h])
                          obtain ⟨w8, hw8⟩ : ∃ q, w7.setCell ⟨bp, 0, none⟩ v1 = q := ⟨_, rfl⟩
                          rw [hw8] at hv8 hb8
                          rw [hw8]
                          have HV8 := Lib.hid hv8
                          have e1 : w8.cell? ⟨bp, 1, none⟩ = some vv := (hb8.cell 1).trans rfl
                          have HROW8 := Lib.hid (hv8.row (t := 2) (v := vv) (xs := (iv (P.map (·.2)))) (by simp))
                          obtain ⟨hi, hz0, hz1, hz2⟩ := HI1.out
                          clear hk8 hb8 hv8 hw8 HV7 hv1
                          have HMADE : Hid ((w8.alloc (.cells #[.int .i64 xv] 2)).ownsRow 0 2 1 (.slice (some ⟨w8.heap.size, 0, none⟩) 1 1) 1 [.int .i64 xv]) := made_row w8 2 #[.int .i64 xv] w8.heap.size rfl
                          have HOWN8 : Hid ((w8.alloc (.cells #[.int .i64 xv] 2)).ownsRow 0 2 1 vv (iv (P.map (·.2))).length (iv (P.map (·.2)))) := own_keeps (own_base HROW8.out (fun _ _ => Nat.zero_le _)) ((Keeps.refl [] w8).alloc _) (by simp)
                          have HONE : Hid (∀ u ∈ [Value.int .i64 xv], u.oneCell' = true) := by intro u hu; simp at hu; subst hu; rfl
                          have hln2 : (iv (P.map (·.2))).length + 1 = q + 1 := by simp [iv, hPq]
                          have HSN : Hid (∀ (v2 : Value) (w9 : World), w9.ownsRow 0 2 1 v2 (q + 1) ((iv (P.map (·.2))) ++ [.int .i64 xv]) → (w8.alloc (.cells #[.int .i64 xv] 2)).grownBy w9 vv.ownBlock → (v2.ownBlock = vv.ownBlock ∨ v2.ownBlock = some (w8.alloc (.cells #[.int .i64 xv] 2)).heap.size) → Hv wb z b nb (m15 y) true xv 0 (P ++ [(m15 y, xv)]) sg' d' (10 + 40 * i' + 31 + 1) ((bp, 89, #[v1, vv]) :: [(bd, 91, #[.bool tk, .bool gv, .slice dA xs.length dc, .int .i64 X]), (bf, 34, #[.int .i64 0, .int .i64 1, .int .i64 s, .int .u64 (sf.a : Int), .int .u64 (sf.b : Int)])]) ((2, v2, (iv (P.map (·.2))) ++ [.int .i64 xv]) :: [(3, v1, (iv (P.map (·.1))) ++ [.int .i64 (m15 y)])]) w9) := fun v2 w9 h1 h2 h3 => HV8.out.snoc (y := .int .i64 xv) (by decide) (fun l hl => by simp only [List.mem_cons, List.not_mem_nil, or_false] at hl; rcases hl with rfl | rfl | rfl <;> simp) (fun r hr => by simp only [List.mem_cons, List.not_mem_nil, or_false] at hr; subst hr; simp) ((Keeps.refl [] w8).alloc _) hln2.symm h1 h2 h3
                          go_wp2_with (at_builtin; refine wpList_append_row rfl (.tmp 189) (.tmp 191) 22 rfl 2 i1 _ 1 8 Try.underlying22 hi hz0 hz1 hz2 rfl (by decide) vv (iv (P.map (·.2))).length (iv (P.map (·.2))) rfl HOWN8.out (.slice (some ⟨w8.heap.size, 0, none⟩) 1 1) 1 [.int .i64 xv] rfl HMADE.out HONE.out hmx2.out hby2.out ?_; intro v2 w9 hown1 hg1 hat1; rw [hln2] at hown1; obtain ⟨g2, c2, hv2, _, _⟩ := World.ownsRow.form hown1 (Nat.succ_pos q); subst hv2; have HV9 := Lib.hid (HSN.out _ w9 hown1 hg1 hat1); have hb9 := HV9.out.loc (q := bp) (t := 89) (cs := #[v1, vv]) (by simp); have e9 : w9.cell? ⟨bp, 1, none⟩ = some vv := (hb9.cell 1).trans rfl; have f9 := hb9.frozen 1; clear hown1 hg1 hat1)
                          obtain ⟨v2, hv2⟩ : ∃ v, v = Value.slice (some ⟨g2, 0, none⟩) (q + 1) c2 := ⟨_, rfl⟩
                          rw [← hv2] at HV9
                          rw [← hv2]
                          have hk10 : Keeps [bp] w9 (w9.setCell ⟨bp, 1, none⟩ v2) := (Keeps.refl [bp] w9).setCell (.inl (by simp)) _
                          have hb10 : Blk (w9.setCell ⟨bp, 1, none⟩ v2) bp 89 #[v1, v2] := hb9.set_ 1 v2
                          have hv10 := HV9.out.put (cs' := #[v1, v2]) (Nat.le_trans HBL.out (Nat.le_of_lt HBP.out)) (by decide) (fun r hr => by simp only [List.mem_cons, List.not_mem_nil, or_false] at hr; rcases hr with rfl | rfl <;> simp) (fun l hl => by simp only [List.mem_cons, List.not_mem_nil, or_false] at hl; rcases hl with rfl | rfl; exact HNE1.out; exact HNE2.out) hk10 hb10
                          obtain ⟨w10, hw10⟩ : ∃ q, w9.setCell ⟨bp, 1, none⟩ v2 = q := ⟨_, rfl⟩
                          rw [hw10] at hv10
                          rw [hw10]
                          have HV10 := Lib.hid hv10
                          obtain ⟨s', hfr⟩ := hv10.from_
                          have QF := Lib.hid (hfr _ (Keeps.refl _ _))
                          clear hk10 hb10 hv10 hw10 HV9 HV8 hb9 e9 f9 e1 hfr HROW8 HROW HMADE HOWN8 HONE HSN hln2 hv2 hi hz0 hz1 hz2
                          refine QF.out.mono ?_
                          rintro e w11 ⟨rfl, hk11⟩
                          have hu11 := ((HV10.out.calm hk11).drop 0).less (l' := ((bf, 34, #[.int .i64 0, .int .i64 1, .int .i64 s, .int .u64 (sf.a : Int), .int .u64 (sf.b : Int)]) :: [(bp, 89, #[v1, v2])])) (r' := [(3, v1, (iv (P.map (·.1))) ++ [.int .i64 (m15 y)]), (2, v2, (iv (P.map (·.2))) ++ [.int .i64 xv])]) (fun x hx => by simp only [List.mem_cons, List.not_mem_nil, or_false] at hx ⊢; rcases hx with h | h <;> simp [h]) (fun x hx => by simp only [List.mem_cons, List.not_mem_nil, or_false] at hx ⊢; rcases hx with h | h <;> simp [h])
                          have eb := hu11.loc (q := bf) (t := 34) (cs := #[.int .i64 0, .int .i64 1, .int .i64 s, .int .u64 (sf.a : Int), .int .u64 (sf.b : Int)]) (by simp)
                          have d0 : w11.cell? ⟨bf, 0, none⟩ = some (.int .i64 0) := (eb.cell 0).trans rfl
                          have d1 : w11.cell? ⟨bf, 1, none⟩ = some (.int .i64 1) := (eb.cell 1).trans rfl
                          have d2 : w11.cell? ⟨bf, 2, none⟩ = some (.int .i64 s) := (eb.cell 2).trans rfl
                          have d3 : w11.cell? ⟨bf, 3, none⟩ = some (.int .u64 (sf.a : Int)) := (eb.cell 3).trans rfl
                          have d4 : w11.cell? ⟨bf, 4, none⟩ = some (.int .u64 (sf.b : Int)) := (eb.cell 4).trans rfl
                          have f0 := eb.frozen 0
                          have f1 := eb.frozen 1
                          have f2 := eb.frozen 2
                          have f3 := eb.frozen 3
                          have f4 := eb.frozen 4
                          have hkf : Keeps [bf] w11 (((((w11.setCell ⟨bf, 0, none⟩ (.int .i64 0)).setCell ⟨bf, 1, none⟩ (.int .i64 1)).setCell ⟨bf, 2, none⟩ (.int .i64 s')).setCell ⟨bf, 3, none⟩ (.int .u64 (sg'.a : Int))).setCell ⟨bf, 4, none⟩ (.int .u64 (sg'.b : Int))) := (((((Keeps.refl [bf] w11).setCell (.inl (by simp)) _).setCell (.inl (by simp)) _).setCell (.inl (by simp)) _).setCell (.inl (by simp)) _).setCell (.inl (by simp)) _
                          have hbf2 : Blk (((((w11.setCell ⟨bf, 0, none⟩ (.int .i64 0)).setCell ⟨bf, 1, none⟩ (.int .i64 1)).setCell ⟨bf, 2, none⟩ (.int .i64 s')).setCell ⟨bf, 3, none⟩ (.int .u64 (sg'.a : Int))).setCell ⟨bf, 4, none⟩ (.int .u64 (sg'.b : Int))) bf 34 #[.int .i64 0, .int .i64 1, .int .i64 s', .int .u64 (sg'.a : Int), .int .u64 (sg'.b : Int)] := ((((eb.set_ 0 (.int .i64 0)).set_ 1 (.int .i64 1)).set_ 2 (.int .i64 s')).set_ 3 (.int .u64 (sg'.a : Int))).set_ 4 (.int .u64 (sg'.b : Int))
                          have eP1 : (iv (P.map (·.1))) ++ [.int .i64 (m15 y)] = iv ((P ++ [(m15 y, xv)]).map (·.1)) := by simp [iv]
                          have eP2 : (iv (P.map (·.2))) ++ [.int .i64 xv] = iv ((P ++ [(m15 y, xv)]).map (·.2)) := by simp [iv]
                          rw [eP1, eP2] at hu11
                          have hu12 := hu11.put (cs' := #[.int .i64 0, .int .i64 1, .int .i64 s', .int .u64 (sg'.a : Int), .int .u64 (sg'.b : Int)]) HBL.out (by decide) (fun r hr => by simp only [List.mem_cons, List.not_mem_nil, or_false] at hr; rcases hr with rfl | rfl <;> simp) (fun l hl => by simp only [List.mem_cons, List.not_mem_nil, or_false] at hl; subst hl; exact fun h => HNE2.out h.symm) hkf hbf2
                          have HU12 : Hid (Hu wb z nb (.pointer none) 0 (P ++ [(m15 y, xv)]) sg' d' (10 + 40 * i' + 31 + 1) [(bf, 34, #[.int .i64 0, .int .i64 1, .int .i64 s', .int .u64 (sg'.a : Int), .int .u64 (sg'.b : Int)]), (bp, 89, #[v1, v2])] [(3, v1, iv ((P ++ [(m15 y, xv)]).map (·.1))), (2, v2, iv ((P ++ [(m15 y, xv)]).map (·.2)))] (((((w11.setCell ⟨bf, 0, none⟩ (.int .i64 0)).setCell ⟨bf, 1, none⟩ (.int .i64 1)).setCell ⟨bf, 2, none⟩ (.int .i64 s')).setCell ⟨bf, 3, none⟩ (.int .u64 (sg'.a : Int))).setCell ⟨bf, 4, none⟩ (.int .u64 (sg'.b : Int)))) := hu12
                          have hpb := hu12.loc (q := bp) (t := 89) (cs := #[v1, v2]) (by simp)
                          have p0 : (((((w11.setCell ⟨bf, 0, none⟩ (.int .i64 0)).setCell ⟨bf, 1, none⟩ (.int .i64 1)).setCell ⟨bf, 2, none⟩ (.int .i64 s')).setCell ⟨bf, 3, none⟩ (.int .u64 (sg'.a : Int))).setCell ⟨bf, 4, none⟩ (.int .u64 (sg'.b : Int))).cell? ⟨bp, 0, none⟩ = some v1 := (hpb.cell 0).trans rfl
                          have p1 : (((((w11.setCell ⟨bf, 0, none⟩ (.int .i64 0)).setCell ⟨bf, 1, none⟩ (.int .i64 1)).setCell ⟨bf, 2, none⟩ (.int .i64 s')).setCell ⟨bf, 3, none⟩ (.int .u64 (sg'.a : Int))).setCell ⟨bf, 4, none⟩ (.int .u64 (sg'.b : Int))).cell? ⟨bp, 1, none⟩ = some v2 := (hpb.cell 1).trans rfl
                          have QH := Lib.hid (holds_any hu12 (vc := v1) (vv := v2) (by simp) (by simp) (by simp; omega))
                          have hqw : IntKind.i64.wrap ((q : Int) + 1) = (q : Int) + 1 := by rw [IntKind.wrap_i64]; unfold maxLen at hyl; omega
                          clear hu11 eb hkf hbf2 hu12 hpb hk11 HV10 QF eP1 eP2
                          go_wp2_with fail
                          refine QH.out.mono ?_
                          rintro e w13 ⟨rfl, hk13⟩
                          have HG6 := Lib.hid (HU12.out.calm hk13)
                          clear hk13 HU12 QH p0 p1
                          go_wp2_with fail
                          exact ⟨⟨i' + 1, q + 1, (P ++ [(m15 y, xv)]), sg', sg', d', s', 0, v1, v2, _, rfl, by omega, by simp, by simp, by omega, by omega, by simp [hPq], .inl ⟨rfl, rfl⟩, (HG6.out.less (fun x hx => by simp only [List.mem_cons, List.not_mem_nil, or_false] at hx ⊢; rcases hx with h | h <;> simp [h]) (fun x hx => hx)).wide (by omega)⟩, by simp [intOf]; omega⟩
                        · subst hxe hd1
                          have hvl := HV.out.value
                          rw [if_neg (by decide)] at hvl
                          have QVL := Lib.hid hvl
                          clear hvl
                          go_wp2_with fail
                          refine QVL.out.mono ?_
                          rintro e w6 ⟨rfl, hk6⟩
                          have HG6 := Lib.hid ((HV.out.calm hk6).drop 0)
                          clear hk6 HV QVL
                          go_wp2_with fail
                          refine HG6.out.view.mono ?_
                          rintro e w7 ⟨L, a1, c1, a2, cv, gn, go, rfl, _, _, _, _, _, g4, _, _, _, hk7⟩
                          have hfd : ∀ w, (Instr.field 54 (.agg #[.slice (some ⟨a1, 0, none⟩) 16 c1, .int .i64 gn, .int .i64 go, .slice (some ⟨a2, 0, none⟩) 1 cv]) 2).run Try.prog w = .ok (.slice (some ⟨a2, 0, none⟩) 1 cv) w := fun w => by kernel_rfl
                          have HKE := Lib.hid ((HKB.out.trans (HG6.out.calm hk7).keep (by simp)).below (B := w.heap.size) (by simp) (Nat.le_refl _))
                          go_wp2_with fail
                          go_ret
                          exact ⟨rfl, HKE.out⟩
    · have hkk := HW.out.keep
      have HKK := Lib.hid ((HKB.out.trans hkk (by simp)).below (B := w.heap.size) (by simp) (Nat.le_refl _))
      clear hkk
      go_wp2_with fail
      go_ret
      exact ⟨rfl, HKK.out⟩

theorem own : ownKnob Try.prog.godebug = none := by kernel_rfl
theorem laidOut : laidOutB Try.prog = true := by kernel_rfl
set_option maxRecDepth 100000 in
theorem lifted (os : Os) (started : os.Started) (H : Type) (enc : TypeId × Value → H) (F : Stop.Interp) :
    ReturnsInHanded {} Try.checked os 7 .any ((Rows.OpenSpec.upto Rows.readHoldsSpec).pre6 enc Try.prog Try.f7 Rows.readHoldsUptoRow.domain false) (((Rows.OpenSpec.upto Rows.readHoldsSpec).at F).post enc Try.prog Try.f7 false true false false) := by
  refine returnsInHanded_of_cond (C := Try.checked) (s := Rows.OpenSpec.upto Rows.readHoldsSpec) (k := Rows.uptoSmall) rfl own started (by kernel_rfl) Try.func7
    (OpenSpec.witness (enc := enc) (C := Try.checked) (s := Rows.OpenSpec.upto Rows.readHoldsSpec) (k := Rows.uptoSmall) rfl false ⟨#[], #[.int .i64 0, .slice none 0 0, .slice none 0 0], []⟩ 8 (by kernel_rfl) (by kernel_rfl) (by kernel_rfl)
      (x := ([.lit (.int .i64 0), .nil, .nil], [], [])) (by kernel_rfl) rfl (by kernel_rfl)) ?_
  intro W base args ds gs before hval0 hW _ hk _
  have hval : ∀ (j : Nat) t v, Try.f7.params[j]? = some t → args[j]? = some v → Value.okWide Try.prog W .any base t v := hval0
  have hW' := hW
  obtain ⟨p, q, hA0, hV, rfl, hfz, hnd⟩ := hW
  have hA : DataW.TrodAll enc Try.prog W 0 (fun _ => true) true Try.f7.params.toList args.toList ds p := hA0
  rw [Try.params7] at hA hval
  obtain ⟨v0, vs0, d0, ds0, p0, q0, hargs, rfl, rfl, h0, r0⟩ := trodAll_cons hA
  obtain ⟨v1, vs1, d1, ds1, p1, q1, rfl, rfl, rfl, h1, r1⟩ := trodAll_cons r0
  obtain ⟨v2, vs2, d2, ds2, p2, q2, rfl, rfl, rfl, h2, r2⟩ := trodAll_cons r1
  obtain ⟨rfl, rfl, rfl⟩ := trodAll_nil r2
  obtain rfl : args = #[v0, v1, v2] := by cases args; simp_all
  obtain ⟨rfl, rfl⟩ := trodVars_none hV
  obtain ⟨a0, rfl, rfl, rfl, w0⟩ := open_int Try.underlying3 (hval 0 3 v0 rfl rfl) h0
  have k1 := h1
  have lt1 : ∀ x ∈ p1, x.block < W.heap.size := by obtain ⟨m, hm⟩ := k1; exact DataW.trod_lt m _ _ _ hm
  obtain ⟨A1, n1, c1, rfl⟩ := okWide_slice Try.underlying23 (hval 1 23 v1 rfl rfl)
  obtain ⟨fl1, hf1⟩ := h1
  obtain ⟨⟨xs1, s1⟩, z1⟩ := ints_open Try.underlying23 Try.underlying3 (by kernel_rfl) hf1
  obtain rfl := s1.1
  have k2 := h2
  have lt2 : ∀ x ∈ p2, x.block < W.heap.size := by obtain ⟨m, hm⟩ := k2; exact DataW.trod_lt m _ _ _ hm
  obtain ⟨A2, n2, c2, rfl⟩ := okWide_slice Try.underlying87 (hval 2 87 v2 rfl rfl)
  obtain ⟨l2, s2⟩ : ∃ l, LstDeed W A2 n2 c2 l := by
    obtain ⟨fl2, hf2⟩ := h2
    exact lstDeed_open hf2 (bulks.small hk (by simp))
  clear hA0 hval0
  refine (walk a0 A1 c1 xs1 A2 n2 c2 l2 W w0 (Slc.of_ints s1) s2).mono fun e W' ⟨he, bel⟩ => ?_
  subst he
  exact ⟨_, rfl, _, _, _, [], _, [], hW', trodAll_mk1 (shut_bool Try.underlying4 _), (trodAll_cons_mk (shut_int Try.underlying3 w0) (trodAll_cons_mk (Below.trod laidOut (by kernel_rfl) (of_decide_eq_true (by kernel_rfl)) k1 bel lt1) (trodAll_cons_mk (Below.trod laidOut (by kernel_rfl) (of_decide_eq_true (by kernel_rfl)) k2 bel lt2) trodAll_mk0))), rfl, bel.frame _, fun h => by cases h⟩

/-- The statement: the second form. -/
theorem proved : Rows.ReadHoldsUptoSaid :=
  OpenClaim.holds_of_cond 7 Try.f7 rfl rfl rfl rfl rfl rfl rfl ⟨rfl, rfl, rfl, rfl, rfl⟩ rfl rfl rfl rfl rfl (by kernel_rfl) Try.func7 (by kernel_rfl)
    (of_decide_eq_true (by kernel_rfl)) (by unfold Func.isWrapper; first | (rw [if_pos (by decide +kernel)]; kernel_rfl) | (rw [if_neg (by decide +kernel)]; exact ⟨rfl, rfl⟩))
    (fun os started H enc _ F => lifted os started H enc F)
#print axioms proved
end Go.Proofs.Ytelljfhhjapgnaa.readHolds
