/- StartOne: one access a step: the call returns true for every config, thread, stamp and number. -/
import Derived.Test.YtnednminpmiojaaRows
import Derived.Test.YtnednminpmiojaaStartAw
import Derived.Test.YtnednminpmiojaaOneStruct
import Derived.WalkKit
import Derived.ProofKit
import Derived.OpenShut
import Derived.ShutString
import Derived.ChangeOld
import Derived.Below
import Derived.Carry
namespace Go.Proofs.Ytnednminpmiojaa.startOne
open Go.ChangeShapes Go.WideShapes Go.ChangeAt Go.RowKit
set_option linter.unusedVariables false

theorem own_slc {w : World} {base : Nat} {t : TypeId} {size n : Nat} {v : Value} {xs : List Value} (h : w.ownsRow base t size v n xs) : ∃ A c, v = .slice A n c := by
  rcases h.2 with ⟨rfl, h0⟩ | ⟨a, cap, cur, rfl, hb, _⟩
  · subst h0; exact ⟨_, _, rfl⟩
  · exact ⟨_, _, rfl⟩
theorem and15 (n : Int) : bits .and .i64 n 15 = n % 16 := by
  have hm : (BitVec.ofInt 64 15).toNat = 2 ^ 4 - 1 := by decide
  have key : (BitVec.ofInt 64 n &&& BitVec.ofInt 64 15).toNat = (n % ((2 ^ 64 : Nat) : Int)).toNat % 2 ^ 4 := by
    rw [BitVec.toNat_and, BitVec.toNat_ofInt, hm, Nat.and_two_pow_sub_one_eq_mod]
  show IntKind.i64.wrap ((BitVec.ofInt 64 n &&& BitVec.ofInt 64 15).toNat : Nat) = n % 16
  rw [key, IntKind.wrap_i64]
  omega
/-- The begin behind j steps. -/
def xs (th st : Int) : Nat → St
  | 0 => ⟨th, st, 0, 0, 0, 0, 4⟩
  | 1 => ⟨th, st, 1, 0, 1, 0, 4⟩
  | 2 => ⟨th, st, 1, 0, 1, 1, 4⟩
  | 3 => ⟨th, st, 2, 0, 1, 2, 4⟩
  | _ => ⟨th, st, 3, 0, 1, 2, 0⟩
def hd (th st : Int) : Nat → Hd
  | 0 => Hd.zero
  | 1 => ⟨1, 1, 0, th, false, 0⟩
  | 2 => ⟨1, 1, 0, th, false, 0⟩
  | 3 => ⟨1, 1, 0, th, false, 0⟩
  | _ => ⟨1, 2, st, th, false, 0⟩
theorem xok (th st : Int) : ∀ n, (xs th st n).Ok
  | 0 => ⟨by simp [xs], by simp [xs], by simp [xs], by simp [xs], by simp [xs], by simp [xs]⟩
  | 1 => ⟨by simp [xs], by simp [xs], by simp [xs], by simp [xs], by simp [xs], by simp [xs]⟩
  | 2 => ⟨by simp [xs], by simp [xs], by simp [xs], by simp [xs], by simp [xs], by simp [xs]⟩
  | 3 => ⟨by simp [xs], by simp [xs], by simp [xs], by simp [xs], by simp [xs], by simp [xs]⟩
  | _ + 4 => ⟨by simp [xs], by simp [xs], by simp [xs], by simp [xs], by simp [xs], by simp [xs]⟩
theorem xst (th st : Int) : ∀ n, n < 4 → ((xs th st n).state == 3) = false
  | 0, _ => rfl
  | 1, _ => rfl
  | 2, _ => rfl
  | 3, _ => rfl
  | n + 4, h => absurd h (by omega)
/-- The space behind j steps. -/
structure Rel (th st : Int) (j : Nat) (S : Sp) : Prop where
  h : ∃ tl, S.H = hd th st j :: tl
  w : ∃ a b t, S.W = a :: b :: t
  log : S.met.log.length = j
  most : S.met.most = if j = 0 then 0 else 1
theorem rel_begin {th st : Int} {j : Nat} {S : Sp} (h : Rel th st j S) (t : Int) : Rel th st j (S.begin t) := ⟨h.h, h.w, h.log, h.most⟩
theorem one_step {th st : Int} {j : Nat} {S : Sp} (h : Rel th st j S) (hj : j < 4) (t1 : 1 ≤ th) (t2 : th ≤ 8) (s1 : 1 ≤ st) :
    ((xs th st j).step (S.begin th)).1 = 1 ∧ ((xs th st j).step (S.begin th)).2.1 = xs th st (j + 1) ∧ Rel th st (j + 1) ((xs th st j).step (S.begin th)).2.2 ∧ ((xs th st j).step (S.begin th)).2.2.met.done = 1 := by
  obtain ⟨⟨tl, h1⟩, ⟨a, b, t, h2⟩, h3, h4⟩ := h
  obtain ⟨c, ⟨steps, thr, done, most, log⟩, cells, gate, H, W, ev⟩ := S
  simp only at h1 h2 h3 h4
  subst h1 h2
  have n1 : ¬ (th < 1 ∨ 8 < th) := by omega
  have n2 : ¬ st < 1 := by omega
  have hcases : j = 0 ∨ j = 1 ∨ j = 2 ∨ j = 3 := by omega
  rcases hcases with rfl | rfl | rfl | rfl
  · have e : (xs th st 0).step (Sp.begin ⟨c, ⟨steps, thr, done, most, log⟩, cells, gate, hd th st 0 :: tl, a :: b :: t, ev⟩ th) = (1, xs th st 1, ⟨c, ⟨wrap64 (steps + 1), th, 1, imax most 1, log ++ [⟨wrap64 (steps + 1), th, 3, 0, 3, true⟩]⟩, cells, gate, hd th st 1 :: tl, a :: b :: t, ev⟩) := by
      simp only [St.step, St.claim, Sp.claim, Sp.begin, MS.begin, nth, xs, hd, if_neg n1]
      simp [Hd.zero, Sp.acc, MS.note, wrap64]
    rw [e]
    exact ⟨rfl, rfl, ⟨⟨tl, rfl⟩, ⟨a, b, t, rfl⟩, by simp [h3], by simp at h4; simp [h4, imax]⟩, rfl⟩
  · have e : (xs th st 1).step (Sp.begin ⟨c, ⟨steps, thr, done, most, log⟩, cells, gate, hd th st 1 :: tl, a :: b :: t, ev⟩ th) = (1, xs th st 2, ⟨c, ⟨wrap64 (steps + 1), th, 1, imax most 1, log ++ [⟨wrap64 (steps + 1), th, 4, 0, 2, true⟩]⟩, cells, gate, hd th st 2 :: tl, 0 :: b :: t, ev⟩) := by
      have hw : wnth (Sp.begin ⟨c, ⟨steps, thr, done, most, log⟩, cells, gate, hd th st 1 :: tl, a :: b :: t, ev⟩ th) 0 0 = some a := by
        unfold wnth
        rw [if_pos ⟨⟨by decide, by simp [Sp.begin]; try omega⟩, by decide⟩]
        rfl
      have hp : Sp.put (Sp.begin ⟨c, ⟨steps, thr, done, most, log⟩, cells, gate, hd th st 1 :: tl, a :: b :: t, ev⟩ th) 0 0 0 = (0, ⟨c, ⟨wrap64 (steps + 1), th, 1, imax most 1, log ++ [⟨wrap64 (steps + 1), th, 4, 0, 2, true⟩]⟩, cells, gate, hd th st 1 :: tl, 0 :: b :: t, ev⟩) := by
        unfold Sp.put
        rw [hw]
        simp [Sp.acc, MS.note, Sp.begin, MS.begin, wrap64]
      simp only [St.step, xs]
      rw [if_neg (by decide), if_pos trivial, hp]
      rfl
    rw [e]
    exact ⟨rfl, rfl, ⟨⟨tl, rfl⟩, ⟨0, b, t, rfl⟩, by simp [h3], by simp at h4; simp [h4, imax]⟩, rfl⟩
  · have e : (xs th st 2).step (Sp.begin ⟨c, ⟨steps, thr, done, most, log⟩, cells, gate, hd th st 2 :: tl, a :: b :: t, ev⟩ th) = (1, xs th st 3, ⟨c, ⟨wrap64 (steps + 1), th, 1, imax most 1, log ++ [⟨wrap64 (steps + 1), th, 4, 1, 2, true⟩]⟩, cells, gate, hd th st 3 :: tl, a :: 0 :: t, ev⟩) := by
      have hw : wnth (Sp.begin ⟨c, ⟨steps, thr, done, most, log⟩, cells, gate, hd th st 2 :: tl, a :: b :: t, ev⟩ th) 0 1 = some b := by
        unfold wnth
        rw [if_pos ⟨⟨by decide, by simp [Sp.begin]; try omega⟩, by decide⟩]
        rfl
      have hp : Sp.put (Sp.begin ⟨c, ⟨steps, thr, done, most, log⟩, cells, gate, hd th st 2 :: tl, a :: b :: t, ev⟩ th) 0 1 0 = (0, ⟨c, ⟨wrap64 (steps + 1), th, 1, imax most 1, log ++ [⟨wrap64 (steps + 1), th, 4, 1, 2, true⟩]⟩, cells, gate, hd th st 2 :: tl, a :: 0 :: t, ev⟩) := by
        unfold Sp.put
        rw [hw]
        simp [Sp.acc, MS.note, Sp.begin, MS.begin, wrap64]
      simp only [St.step, xs]
      rw [if_neg (by decide), if_pos trivial, hp]
      rfl
    rw [e]
    exact ⟨rfl, rfl, ⟨⟨tl, rfl⟩, ⟨a, 0, t, rfl⟩, by simp [h3], by simp at h4; simp [h4, imax]⟩, rfl⟩
  · have e : (xs th st 3).step (Sp.begin ⟨c, ⟨steps, thr, done, most, log⟩, cells, gate, hd th st 3 :: tl, a :: b :: t, ev⟩ th) = (1, xs th st 4, ⟨c, ⟨wrap64 (steps + 1), th, 1, imax most 1, log ++ [⟨wrap64 (steps + 1), th, 3, 0, 3, true⟩]⟩, cells, gate, hd th st 4 :: tl, a :: b :: t, ev⟩) := by
      simp only [St.step, Sp.ready, Sp.begin, MS.begin, nth, xs, hd, if_neg n2]
      simp [Sp.acc, MS.note, wrap64]
    rw [e]
    exact ⟨rfl, rfl, ⟨⟨tl, rfl⟩, ⟨a, b, t, rfl⟩, by simp [h3], by simp at h4; simp [h4, imax]⟩, rfl⟩
theorem rel_new {c : Cf} (h : c.ok) (th st : Int) : Rel th st 0 (Sp.new c) := by
  have h2 := h.2.1
  obtain ⟨n, hn⟩ : ∃ n, c.slots.toNat = n + 1 := ⟨c.slots.toNat - 1, by omega⟩
  have e : (n + 1) * 2 = n * 2 + 1 + 1 := by omega
  exact ⟨⟨List.replicate n Hd.zero, by simp only [Sp.new, hn]; rfl⟩, ⟨0, 0, List.replicate (n * 2) 0, by simp only [Sp.new, hn, e]; rfl⟩, rfl, rfl⟩
/-- What the loop keeps. -/
structure Inv (w wr : World) (z : Sb) (b : Nat) (th st : Int) (i j : Nat) : Prop where
  ex : ∃ F S k, SP w wr z F S ∧ Fit k S ∧ k ≤ i ∧ Rel th st j S
  at_ : StAt wr z b (xs th st j)
  j4 : j = min i 4
set_option maxRecDepth 100000 in
set_option maxHeartbeats 8000000 in
theorem walk (c : Cf) (th st more : Int) (w : World) (_ : (Lit.int IntKind.i64 th).wf = true) (_ : (Lit.int IntKind.i64 st).wf = true) (_ : (Lit.int IntKind.i64 more).wf = true) :
    Calls Try.prog 6 #[.agg #[.int .i64 c.cells, .int .i64 c.slots, .int .i64 c.bits, .int .i64 c.tag, .int .i64 c.bias, .int .i64 c.defer], .int .i64 th, .int .i64 st, .int .i64 more] w fun e w' => e = .returned (.bool true) ∧ Below w.heap.size w w' := by
  have hk : Keeps [] w (w.alloc (.cells #[.int .i64 c.cells, .int .i64 c.slots, .int .i64 c.bits, .int .i64 c.tag, .int .i64 c.bias, .int .i64 c.defer] 23)) := by simp
  have hb : Blk (w.alloc (.cells #[.int .i64 c.cells, .int .i64 c.slots, .int .i64 c.bits, .int .i64 c.tag, .int .i64 c.bias, .int .i64 c.defer] 23)) w.heap.size 23 c.vals := Blk.new _ _ _
  have HK := Lib.hid hk
  have HB := Lib.hid hb
  obtain ⟨d0, d1, d2, d3, d4, d5⟩ := cf_cells hb
  clear hk hb
  go_enter Try.func6, Try.ntmps6
  go_wp2_with fail
  refine (awake10 _).mono ?_
  rintro e w1 ⟨rfl, hk⟩
  replace HK := Lib.hid (HK.out.trans hk (by simp))
  replace HB := Lib.hid (HB.out.keeps hk (by simp))
  clear hk d0 d1 d2 d3 d4 d5
  obtain ⟨d0, d1, d2, d3, d4, d5⟩ := cf_cells HB.out
  go_wp2_with fail
  by_cases hok : c.ok
  · have HOK := Lib.hid hok
    clear hok
    refine (sp_new w1 c HOK.out).mono ?_
    rintro e w2 ⟨z, F, rfl, hs⟩
    have HS : Hid (SP w w2 z F (Sp.new c)) := hs.base HK.out
    have HF : Hid (Fit 0 (Sp.new c)) := Fit.new HOK.out
    clear hs HK HB d0 d1 d2 d3 d4 d5
    go_wp2_with fail
    by_cases hts : 1 ≤ th ∧ th ≤ 8 ∧ 1 ≤ st
    · obtain ⟨t1, t2, s1⟩ := hts
      refine (st_new HS.out th st t1 t2 s1).mono ?_
      rintro e w3 ⟨b, rfl, hb, hlb, hk⟩
      have HL : Hid (w.heap.size ≤ b) := Nat.le_trans HS.out.keep.size hlb
      have HI : Hid (Inv w w3 z b th st 0 0) := ⟨⟨F, Sp.new c, 0, HS.out.calm hk, HF.out, Nat.le_refl _, rel_new HOK.out th st⟩, hb, rfl⟩
      clear hk hb hlb HS HF
      have hand := and15 more
      obtain ⟨m, hm⟩ : ∃ m : Nat, more % 16 = m := ⟨(more % 16).toNat, by omega⟩
      rw [hm] at hand
      have hm16 : m < 16 := by omega
      clear hm
      have hsum : IntKind.i64.wrap (8 + (m : Int)) = ((8 + m : Nat) : Int) := by rw [IntKind.wrap_i64]; omega
      obtain ⟨B, hB⟩ : ∃ B, 8 + m = B := ⟨_, rfl⟩
      rw [hB] at hsum
      have hB8 : 8 ≤ B ∧ B ≤ 23 := by omega
      clear hB hm16
      have HTS := Lib.hid (And.intro t1 (And.intro t2 s1))
      clear t1 t2 s1
      go_wp2_with fail
      go_loopw [14, 15] (fun s i wr => ∃ (n j : Nat), n ≤ B ∧ s = .int .i64 j ∧ i = .int .i64 n ∧ Inv w wr z b th st n j) (fun _ i _ => B - (intOf i).toNat)
      case atStart => exact ⟨0, 0, Nat.zero_le _, rfl, rfl, HI.out⟩
      case round =>
        obtain ⟨n, j, hn, rfl, rfl, hi⟩ := hrel
        obtain ⟨⟨F', S, k, h1, h2, h3, h4⟩, h5, h6⟩ := hi
        have R1 := Lib.hid h1
        have R2 := Lib.hid h2
        have R3 := Lib.hid h5
        have R4 := Lib.hid h4
        have R5 := Lib.hid h3
        have R6 := Lib.hid h6
        clear h1 h2 h3 h4 h5 h6 HI
        by_cases hlt : (n : Int) < (B : Int)
        · by_cases hj : j < 4
          · obtain rfl : j = n := by have := R6.out; omega
            have hst := xst th st j hj
            go_wp2_with fail
            refine (st_done R3.out).mono ?_
            rintro e wq ⟨rfl, rfl⟩
            go_wp2_with fail
            refine (sp_turn R1.out th).mono ?_
            rintro e w5 ⟨rfl, F2, hs2, hk2, hn2⟩
            have R7 := Lib.hid hs2
            have R8 : Hid (StAt w5 z b (xs th st j)) := Blk.keeps R3.out hk2 (R3.out.off R1.out)
            clear hs2 hk2 hn2
            obtain ⟨e1, e2, e3, e4⟩ := one_step R4.out hj HTS.out.1 HTS.out.2.1 HTS.out.2.2
            have hq := st_step R7.out (R2.out.begin th) (by have := R5.out; omega) R8.out HL.out (xok th st j)
            have hfit := (R2.out.begin th).step (xs th st j)
            rw [e1, e2] at hq
            obtain ⟨S2, hS2⟩ : ∃ S2, ((xs th st j).step (S.begin th)).2.2 = S2 := ⟨_, rfl⟩
            rw [hS2] at hq hfit e3 e4
            have RQ := Lib.hid hq
            have RF := Lib.hid hfit
            have RE := Lib.hid e3
            clear hq hfit e1 e2 hS2 e3
            go_wp2_with fail
            refine RQ.out.mono ?_
            rintro e w6 ⟨rfl, ⟨F3, h7, _, _⟩, h8⟩
            have S1 := Lib.hid h7
            have S3 := Lib.hid h8
            have d0 := S1.out.cells.1
            have hd := sp_done S1.out
            rw [e4] at hd
            have SD := Lib.hid hd
            clear h7 h8 RQ hd e4
            go_wp2_with fail
            refine SD.out.mono ?_
            rintro e wq ⟨rfl, rfl⟩
            clear hst
            go_wp2_with fail
            exact ⟨⟨j + 1, j + 1, by omega, by simp, by simp, ⟨F3, S2, k + 1, S1.out, RF.out, by have := R5.out; omega, RE.out⟩, S3.out, by omega⟩, by simp [intOf]; omega⟩
          · have hj4 : j = 4 := by have := R6.out; omega
            subst hj4
            have hst : ((xs th st 4).state == 3) = true := rfl
            go_wp2_with fail
            refine (st_done R3.out).mono ?_
            rintro e wq ⟨rfl, rfl⟩
            go_wp2_with fail
            refine (sp_turn R1.out th).mono ?_
            rintro e w5 ⟨rfl, F2, hs2, hk2, hn2⟩
            have R7 := Lib.hid hs2
            have R8 : Hid (StAt w5 z b (xs th st 4)) := Blk.keeps R3.out hk2 (R3.out.off R1.out)
            clear hs2 hk2 hn2
            have hq : Calls Try.prog 27 #[PT b] w5 fun e w' => e = .returned (.int .i64 3) ∧ WentB w w5 w' z F2 b (S.begin th) ∧ StAt w' z b (xs th st 4) := st_step R7.out (R2.out.begin th) (by have := R5.out; omega) R8.out HL.out (xok th st 4)
            have RQ := Lib.hid hq
            clear hq
            go_wp2_with fail
            refine RQ.out.mono ?_
            rintro e w6 ⟨rfl, ⟨F3, h7, _, _⟩, h8⟩
            have S1 := Lib.hid h7
            have S3 := Lib.hid h8
            have d0 := S1.out.cells.1
            have hd : Calls Try.prog 30 #[PT z.m] w6 fun e w' => e = .returned (.int .i64 0) ∧ w6 = w' := sp_done S1.out
            have SD := Lib.hid hd
            clear h7 h8 RQ hd
            go_wp2_with fail
            refine SD.out.mono ?_
            rintro e wq ⟨rfl, rfl⟩
            clear hst
            go_wp2_with fail
            exact ⟨⟨n + 1, 4, by omega, by simp, by simp, ⟨F3, S.begin th, k, S1.out, R2.out.begin th, by have := R5.out; omega, rel_begin R4.out th⟩, S3.out, by have := R6.out; omega⟩, by simp [intOf]; omega⟩
        · have hj4 : j = 4 := by have := R6.out; omega
          subst hj4
          go_wp2_with fail
          have hq : Calls Try.prog 29 #[PT b] wr fun e w' => e = .returned (.tuple #[.int .i64 0, .int .i64 1, .int .i64 0]) ∧ Keeps [] wr w' := st_slot R3.out
          refine hq.mono ?_
          rintro e w6 ⟨rfl, hk⟩
          replace R1 := Lib.hid (R1.out.calm hk)
          clear hk hq
          have d0 := R1.out.cells.1
          have hlog : S.met.log.length ≤ 2199023255552 := by rw [R4.out.log]; decide
          have hq : Calls Try.prog 19 #[PT z.m] w6 fun e w' => ∃ A cc, e = .returned (.slice A 4 cc) ∧ Keeps [] w6 w' := (sp_log R1.out hlog).mono fun e w' ⟨v, he, h1, h2⟩ => by
            rw [R4.out.log] at h1
            obtain ⟨A, cc, rfl⟩ := own_slc h1
            exact ⟨A, cc, he, h2⟩
          have RQ := Lib.hid hq
          clear hq hlog
          go_wp2_with fail
          refine RQ.out.mono ?_
          rintro e w7 ⟨A, cc, rfl, hk⟩
          replace R1 := Lib.hid (R1.out.calm hk)
          clear hk RQ d0
          have d0 := R1.out.cells.1
          have hq := sp_most R1.out
          rw [R4.out.most] at hq
          have RQ := Lib.hid (show Calls Try.prog 31 #[PT z.m] w7 fun e w' => e = .returned (.int .i64 1) ∧ w7 = w' from hq)
          clear hq
          go_wp2_with fail
          refine RQ.out.mono ?_
          rintro e wq ⟨rfl, rfl⟩
          go_wp2_with fail
          go_ret
          exact ⟨rfl, R1.out.keep.below (by simp) (Nat.le_refl _)⟩
    · have hbad : th < 1 ∨ 8 < th ∨ st < 1 := by omega
      clear hts
      refine (st_new_bad z th st hbad).mono ?_
      rintro e wq ⟨rfl, rfl⟩
      clear hbad
      have d0 := HS.out.cells.1
      have hq : Calls Try.prog 19 #[PT z.m] w2 fun e w' => ∃ A cc, e = .returned (.slice A 0 cc) ∧ Keeps [] w2 w' := (sp_log HS.out (by simp [Sp.new, MS.zero])).mono fun e w' ⟨v, he, h1, h2⟩ => by
        obtain ⟨A, cc, rfl⟩ := own_slc h1
        exact ⟨A, cc, he, h2⟩
      have RQ := Lib.hid hq
      clear hq
      go_wp2_with fail
      refine RQ.out.mono ?_
      rintro e w7 ⟨A, cc, rfl, hk⟩
      replace HS := Lib.hid (HS.out.calm hk)
      go_wp2_with fail
      go_ret
      exact ⟨rfl, HS.out.keep.below (by simp) (Nat.le_refl _)⟩
  · refine (sp_new_bad w1 c hok).mono ?_
    rintro e w3 ⟨rfl, hk⟩
    replace HK := Lib.hid (HK.out.trans hk (by simp))
    clear hk d0 d1 d2 d3 d4 d5 hok
    go_wp2_with fail
    go_ret
    exact ⟨rfl, HK.out.below (by simp) (Nat.le_refl _)⟩

theorem own : ownKnob Try.prog.godebug = none := by kernel_rfl
theorem laidOut : laidOutB Try.prog = true := by kernel_rfl

set_option maxRecDepth 100000 in
theorem lifted (os : Os) (started : os.Started) (H : Type) (enc : TypeId × Value → H) :
    ReturnsInHanded {} Try.checked os 6 .any (Rows.startOneSpec.pre6 enc Try.prog Try.f6 Rows.startOneRow.domain false) (Rows.startOneSpec.post enc Try.prog Try.f6 false true false false) := by
  refine returnsInHanded_of_change (C := Try.checked) own started (by kernel_rfl) Try.func6
    (ChangeSpec.witness6 (enc := enc) (C := Try.checked) false ⟨#[], #[.agg #[.int .i64 0, .int .i64 0, .int .i64 0, .int .i64 0, .int .i64 0, .int .i64 0], .int .i64 0, .int .i64 0, .int .i64 0], []⟩ 8 (by kernel_rfl) (by kernel_rfl) (by kernel_rfl) (by kernel_rfl)) ?_
  intro W base args ds gs before hval0 hW hcnd _
  have hval : ∀ (j : Nat) t v, Try.f6.params[j]? = some t → args[j]? = some v → Value.okWide Try.prog W .any base t v := hval0
  have hW' := hW
  obtain ⟨p, q, hA0, hV, rfl, hfz, hnd⟩ := hW
  have hA : DataW.TrodAll enc Try.prog W 0 (fun _ => true) true Try.f6.params.toList args.toList ds p := hA0
  rw [Try.params6] at hA hval
  obtain ⟨v0, vs0, d0, ds0, p0, q0, hargs, rfl, rfl, h0, r0⟩ := trodAll_cons hA
  obtain ⟨v1, vs1, d1, ds1, p1, q1, rfl, rfl, rfl, h1, r1⟩ := trodAll_cons r0
  obtain ⟨v2, vs2, d2, ds2, p2, q2, rfl, rfl, rfl, h2, r2⟩ := trodAll_cons r1
  obtain ⟨v3, vs3, d3, ds3, p3, q3, rfl, rfl, rfl, h3, r3⟩ := trodAll_cons r2
  obtain ⟨rfl, rfl, rfl⟩ := trodAll_nil r3
  obtain rfl : args = #[v0, v1, v2, v3] := by cases args; simp_all
  obtain ⟨rfl, rfl⟩ := trodVars_none hV
  have k0 := h0
  have lt0 : ∀ x ∈ p0, x.block < W.heap.size := by obtain ⟨m, hm⟩ := k0; exact DataW.trod_lt m _ _ _ hm
  obtain ⟨cf0, rfl⟩ := cfg_open (hval 0 23 v0 rfl rfl) h0
  obtain ⟨a1, rfl, rfl, rfl, w1⟩ := open_int Try.underlying3 (hval 1 3 v1 rfl rfl) h1
  obtain ⟨a2, rfl, rfl, rfl, w2⟩ := open_int Try.underlying3 (hval 2 3 v2 rfl rfl) h2
  obtain ⟨a3, rfl, rfl, rfl, w3⟩ := open_int Try.underlying3 (hval 3 3 v3 rfl rfl) h3
  clear hA0 hval0
  refine (walk cf0 a1 a2 a3 W  w1 w2 w3).mono fun e W' ⟨he, bel⟩ => ?_
  subst he
  exact ⟨_, rfl, _, _, _, [], _, [], hW', trodAll_mk1 (shut_bool Try.underlying4 _), (trodAll_cons_mk (Below.trod laidOut (by kernel_rfl) (of_decide_eq_true (by kernel_rfl)) k0 bel lt0) (trodAll_cons_mk (shut_int Try.underlying3 w1) (trodAll_cons_mk (shut_int Try.underlying3 w2) (trodAll_cons_mk (shut_int Try.underlying3 w3) trodAll_mk0)))), rfl, bel.frame _, fun h => by cases h⟩

theorem over : Rows.startOneRow.holds Try.pinned (OpenSpec.ofChange Rows.startOneSpec) :=
  OpenClaim.holds_of_wide 6 Try.f6 rfl rfl rfl rfl rfl rfl rfl ⟨rfl, rfl, rfl, rfl, rfl⟩ rfl rfl rfl rfl rfl (by kernel_rfl) Try.func6 (by kernel_rfl)
    (of_decide_eq_true (by kernel_rfl)) (by unfold Func.isWrapper; first | (rw [if_pos (by decide +kernel)]; kernel_rfl) | (rw [if_neg (by decide +kernel)]; exact ⟨rfl, rfl⟩))
    (fun os started H enc _ => lifted os started H enc)

/-- The statement. -/
theorem proved : Rows.StartOneSaid := over
#print axioms proved
end Go.Proofs.Ytnednminpmiojaa.startOne
