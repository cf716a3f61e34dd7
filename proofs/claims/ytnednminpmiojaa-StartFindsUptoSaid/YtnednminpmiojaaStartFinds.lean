/- StartFinds: a begin finds the first free slot: the call returns true wherever what it reads is of bulk at most 1048576. -/
import Derived.Test.YtnednminpmiojaaRows
import Derived.Test.YtnednminpmiojaaStartFindsP
import Derived.Test.YtnednminpmiojaaSlotsP
import Derived.Test.YtnednminpmiojaaLocal2
import Derived.Test.YtnednminpmiojaaScript10
import Derived.JoinedCond
import Derived.WalkKit
import Derived.ProofKit
import Derived.OpenShut
import Derived.ShutString
import Derived.ChangeOld
import Derived.Below
import Derived.Carry
namespace Go.Proofs.Ytnednminpmiojaa.startFinds
open Go.ChangeShapes Go.WideShapes Go.ChangeAt Go.RowKit
set_option linter.unusedVariables false

open SA
theorem and3 (n : Int) : bits .and .i64 n 3 = n % 4 := by
  have hm : (BitVec.ofInt 64 3).toNat = 2 ^ 2 - 1 := by decide
  have key : (BitVec.ofInt 64 n &&& BitVec.ofInt 64 3).toNat = (n % ((2 ^ 64 : Nat) : Int)).toNat % 2 ^ 2 := by
    rw [BitVec.toNat_and, BitVec.toNat_ofInt, hm, Nat.and_two_pow_sub_one_eq_mod]
  show IntKind.i64.wrap ((BitVec.ofInt 64 n &&& BitVec.ofInt 64 3).toNat : Nat) = n % 4
  rw [key, IntKind.wrap_i64]
  omega
theorem andM (n : Int) : bits .and .i64 n 1048575 = n % 1048576 := by
  have hm : (BitVec.ofInt 64 1048575).toNat = 2 ^ 20 - 1 := by decide
  have key : (BitVec.ofInt 64 n &&& BitVec.ofInt 64 1048575).toNat = (n % ((2 ^ 64 : Nat) : Int)).toNat % 2 ^ 20 := by
    rw [BitVec.toNat_and, BitVec.toNat_ofInt, hm, Nat.and_two_pow_sub_one_eq_mod]
  show IntKind.i64.wrap ((BitVec.ofInt 64 n &&& BitVec.ofInt 64 1048575).toNat : Nat) = n % 1048576
  rw [key, IntKind.wrap_i64]
  omega
/-- Slots told. -/
def Told (w : World) (a c n : Nat) (S : Sp) : Prop := ∀ (j : Nat) (x : Hd), j < n → S.H[j]? = some x → w.cell? ⟨a, j * 8, none⟩ = some (.int .i64 x.gen) ∧ w.cell? ⟨a, j * 8 + 1, none⟩ = some (.int .i64 x.state) ∧ w.cell? ⟨a, j * 8 + 2, none⟩ = some (.int .i64 x.stamp) ∧ w.cell? ⟨a, j * 8 + 3, none⟩ = some (.int .i64 x.thread) ∧ w.cell? ⟨a, j * 8 + 4, none⟩ = some (.bool x.doomed) ∧ w.cell? ⟨a, j * 8 + 5, none⟩ = some (.int .i64 x.who)
theorem told_of {w : World} {a c n : Nat} {S : Sp} (h : OwnS w a c n (slL S.H S.W)) (hw : S.W.length = 2 * S.H.length) : Told w a c n S := fun j x hj hx => by
  obtain ⟨u, hu⟩ : ∃ u, S.W[2 * j]? = some u := ⟨_, List.getElem?_eq_getElem (by have := (List.getElem?_eq_some_iff.1 hx).1; omega)⟩
  obtain ⟨v, hv⟩ : ∃ v, S.W[2 * j + 1]? = some v := ⟨_, List.getElem?_eq_getElem (by have := (List.getElem?_eq_some_iff.1 hx).1; omega)⟩
  have hs := slL_get S.H S.W j x u v hx hu hv
  have hl : (slL S.H S.W).flatMap Sl.cells = (slL S.H S.W).flatMap Sl.cells := rfl
  have hc : ∀ (q : Nat) (y : Value), (Sl.cells ⟨x, u, v⟩)[q]? = some y → w.cell? ⟨a, j * 8 + q, none⟩ = some y := fun q y hy => by
    have h1 := sl_get (slL S.H S.W) j _ hs q y hy
    have h2 : ((slL S.H S.W).flatMap Sl.cells).length = n * 8 := h.1
    have h3 := (List.getElem?_eq_some_iff.1 h1).1
    exact (World.ownsRow.cellAt h (j * 8 + q) (by omega)).trans h1
  exact ⟨hc 0 _ rfl, hc 1 _ rfl, hc 2 _ rfl, hc 3 _ rfl, hc 4 _ rfl, hc 5 _ rfl⟩
theorem Told_keeps {X : List Nat} {w w' : World} {a c n : Nat} {S : Sp} (h : Told w a c n S) (hn : S.H.length = n) (hk : Keeps X w w') (ha : a ∉ X) : Told w' a c n S := fun j x hj hx => by
  obtain ⟨h0, h1, h2, h3, h4, h5⟩ := h j x hj hx
  have hb : a < w.heap.size := World.block_lt_of_cell? w _ h0
  exact ⟨(keeps_cell hk hb ha).trans h0, (keeps_cell hk hb ha).trans h1, (keeps_cell hk hb ha).trans h2, (keeps_cell hk hb ha).trans h3, (keeps_cell hk hb ha).trans h4, (keeps_cell hk hb ha).trans h5⟩
/-- What the loop keeps. -/
structure FI (w wr : World) (z : Sb) (b za n : Nat) (k0 : Int) (i len : Nat) (p : Pz) (g : Int) (al : Nat → Bool) : Prop where
  ex : ∃ F S k, SP w wr z F S ∧ Fit k S ∧ k ≤ 40 + i ∧ SF.Ok k0 n g p S
  at_ : StAt wr z b (SF.st k0 n g p)
  arr : Arr wr za 73 (fun j => .bool (al j))
  past : SF.Past n al p
  lenb : mu n p ≤ n + 4
  late : len ≤ i → mu n p + (i - len) ≤ 20
set_option maxRecDepth 100000 in
set_option maxHeartbeats 16000000 in
theorem walk (a0 a1 : Int) (A : Option Addr) (m c : Nat) (ops : List Op10) (w : World) (_ : (Lit.int IntKind.i64 a0).wf = true) (_ : (Lit.int IntKind.i64 a1).wf = true) (hs : Script10 w A m c ops) :
    Calls Try.prog 7 #[.int .i64 a0, .int .i64 a1, .slice A m c] w fun e w' => e = .returned (.bool true) ∧ Below w.heap.size w w' := by
  have HSC := Lib.hid hs
  have hm := hs.2.2.1
  have hmi : (m : Int) ≤ 1048576 := by omega
  clear hs
  have hand := i64_and7 a0
  obtain ⟨q, hq⟩ : ∃ m : Nat, a0 % 8 = m := ⟨(a0 % 8).toNat, by omega⟩
  rw [hq] at hand
  have hq8 : q < 8 := by omega
  have hsum : IntKind.i64.wrap (1 + (q : Int)) = ((1 + q : Nat) : Int) := by rw [IntKind.wrap_i64]; omega
  obtain ⟨n, hn⟩ : ∃ n, 1 + q = n := ⟨_, rfl⟩
  rw [hn] at hsum
  have hn8 : 1 ≤ n ∧ n ≤ 8 := by omega
  clear hq hq8 hn
  have hand1 := andM a1
  obtain ⟨r, hr⟩ : ∃ m : Nat, a1 % 1048576 = m := ⟨(a1 % 1048576).toNat, by omega⟩
  rw [hr] at hand1
  have hr8 : r < 1048576 := by omega
  have hsum1 : IntKind.i64.wrap (1 + (r : Int)) = ((1 + r : Nat) : Int) := by rw [IntKind.wrap_i64]; omega
  obtain ⟨k0, hk0⟩ : ∃ n : Int, ((1 + r : Nat) : Int) = n := ⟨_, rfl⟩
  rw [hk0] at hsum1
  have HK0 : Hid (1 ≤ k0) := by unfold Hid; omega
  clear hr hr8 hk0
  go_enter Try.func7, Try.ntmps7
  go_wp2_with fail
  refine (awake10 _).mono ?_
  rintro e w1 ⟨rfl, hk⟩
  have HK := Lib.hid hk
  clear hk
  go_wp2_with fail
  refine (small10 w1 n).mono ?_
  rintro e w2 ⟨rfl, hk⟩
  replace HK := Lib.hid (HK.out.trans hk (by simp))
  clear hk hand hsum hand1 hsum1
  go_wp2_with fail
  have hok : Cf.ok ⟨1, n, 8, 1, 0, 0⟩ := by unfold Cf.ok; simp; omega
  have hq : Calls Try.prog 12 #[.agg #[.int .i64 1, .int .i64 n, .int .i64 8, .int .i64 1, .int .i64 0, .int .i64 0]] w2 fun e w' => ∃ z F, e = .returned (.tuple #[PT z.p, .int .i64 0]) ∧ SP w2 w' z F (Sp.new ⟨1, n, 8, 1, 0, 0⟩) := sp_new w2 ⟨1, n, 8, 1, 0, 0⟩ hok
  refine hq.mono ?_
  rintro e w3 ⟨z, F, rfl, hs⟩
  have HS := Lib.hid (hs.base HK.out)
  have HF := Lib.hid (Fit.new hok)
  clear hq hs HK hok
  go_wp2_with fail
  refine (sp_slots HS.out).mono ?_
  rintro e wq ⟨rfl, rfl⟩
  go_wp2_with fail
  refine (st_new HS.out 1 k0 (by decide) (by decide) HK0.out).mono ?_
  rintro e w4 ⟨b, rfl, hb, hlb, hk⟩
  have HB : Hid (StAt w4 z b (SF.st k0 n 0 (.seek 0))) := hb
  have HL : Hid (w.heap.size ≤ b) := Nat.le_trans HS.out.keep.size hlb
  replace HS := Lib.hid (HS.out.calm hk)
  clear hk hb hlb
  go_wp2_with fail
  refine (sp_slots HS.out).mono ?_
  rintro e wq ⟨rfl, rfl⟩
  have HOK0 : Hid (SF.Ok k0 n 0 (.seek 0) (Sp.new ⟨1, n, 8, 1, 0, 0⟩)) := ⟨by simp [Sp.new], by simp [Sp.new]; omega, hn8.1⟩
  go_wp2_with fail
  go_loopw [15] (fun i wr => ∃ (j : Nat) (F : List Nat) (S : Sp) (k : Nat), j ≤ n ∧ i = .int .i64 j ∧ SP w wr z F S ∧ Fit k S ∧ k ≤ 2 * j ∧ SF.Ok k0 n 0 (.seek 0) S ∧ StAt wr z b (SF.st k0 n 0 (.seek 0))) (fun i _ => n - (intOf i).toNat)
  case atStart => exact ⟨0, F, _, 0, Nat.zero_le _, rfl, HS.out, HF.out, Nat.le_refl _, HOK0.out, HB.out⟩
  case round =>
    obtain ⟨j, F, S, k, hj, rfl, h1, h2, h3, h4, h5⟩ := hrel
    have R1 := Lib.hid h1
    have R2 := Lib.hid h2
    have R4 := Lib.hid h4
    have R5 := Lib.hid h5
    clear h1 h2 h4 h5 HS HF HB HOK0
    by_cases hlt : (j : Int) < (n : Int)
    · go_wp2_with fail
      refine (sp_put R1.out R2.out (by omega) (j : Int) 0 7).mono ?_
      rintro e w5 ⟨rfl, F2, g1, g2, g3⟩
      have S1 := Lib.hid g1
      have S2 := Lib.hid (R2.out.put (j : Int) 0 7)
      have S4 := Lib.hid (SF.ok_put0 R4.out (j : Int) 0 7)
      have S5 : Hid (StAt w5 z b (SF.st k0 n 0 (.seek 0))) := Blk.keeps R5.out g2 (R5.out.off R1.out)
      clear g1 g2 g3 R1 R2 R4 R5
      go_wp2_with fail
      refine (sp_put S1.out S2.out (by omega) (j : Int) 1 9).mono ?_
      rintro e w6 ⟨rfl, F3, g1, g2, g3⟩
      have R1 := Lib.hid g1
      have R2 := Lib.hid (S2.out.put (j : Int) 1 9)
      have R4 := Lib.hid (SF.ok_put0 S4.out (j : Int) 1 9)
      have R5 : Hid (StAt w6 z b (SF.st k0 n 0 (.seek 0))) := Blk.keeps S5.out g2 (S5.out.off S1.out)
      clear g1 g2 g3 S1 S2 S4 S5
      go_wp2_with fail
      exact ⟨⟨j + 1, F3, _, k + 1 + 1, by omega, by simp, R1.out, R2.out, by omega, R4.out, R5.out⟩, by simp [intOf]; omega⟩
    · go_wp2_with fail
      have hka : Keeps [] wr (wr.alloc (.cells #[.bool true, .bool true, .bool true, .bool true, .bool true, .bool true, .bool true, .bool true] 73)) := by simp
      have at9 : Arr (wr.alloc (.cells #[.bool true, .bool true, .bool true, .bool true, .bool true, .bool true, .bool true, .bool true] 73)) wr.heap.size 73 (fun _ => .bool true) := Blk.new _ _ _
      have HZA : Hid (w.heap.size ≤ wr.heap.size) := R1.out.keep.size
      have HI : Hid (FI w (wr.alloc (.cells #[.bool true, .bool true, .bool true, .bool true, .bool true, .bool true, .bool true, .bool true] 73)) z b wr.heap.size n k0 0 m (.seek 0) 0 (fun _ => true)) := ⟨⟨F, S, k, R1.out.calm hka, R2.out, by omega, R4.out⟩, Blk.keeps R5.out hka (by simp), at9, fun j hj => absurd hj (by omega), by simp [mu], fun hh => by simp [mu]; omega⟩
      obtain ⟨w9, hw9⟩ : ∃ q, wr.alloc (.cells #[.bool true, .bool true, .bool true, .bool true, .bool true, .bool true, .bool true, .bool true] 73) = q := ⟨_, rfl⟩
      obtain ⟨za, hza⟩ : ∃ q, wr.heap.size = q := ⟨_, rfl⟩
      rw [hw9, hza] at HI
      rw [hza] at HZA
      rw [hw9, hza]
      clear hka at9 hw9 hza R1 R2 R4 R5 h3
      go_loopw [16, 17, 18, 20] (fun s t o i wr => ∃ (j : Nat) (p : Pz) (g : Int) (al : Nat → Bool), j ≤ m + 20 ∧ i = .int .i64 j ∧ s = .int .i64 (SF.steps n p) ∧ t = .int .i64 (SF.tried n p) ∧ o = .int .i64 (SF.own p) ∧ FI w wr z b za n k0 j m p g al) (fun _ _ _ i _ => m + 20 - (intOf i).toNat)
      case atStart => exact ⟨0, .seek 0, 0, fun _ => true, by omega, rfl, rfl, rfl, rfl, HI.out⟩
      case round =>
        obtain ⟨j, p, g, al, hj, rfl, rfl, rfl, rfl, hi⟩ := hrel
        have R1 := Lib.hid hi
        clear hi HI
        obtain ⟨⟨F, S, k, h1, h2, h3, h4⟩, h5, h6, h7, h8, h9⟩ := R1.out
        have SPx := Lib.hid h1
        have FT := Lib.hid h2
        have OKx := Lib.hid h4
        have AT := Lib.hid h5
        have AR := Lib.hid h6
        have PA := Lib.hid h7
        have MU := Lib.hid (And.intro h8 h9)
        have hwr : IntKind.i64.wrap ((m : Int) + 20) = (m : Int) + 20 := by rw [IntKind.wrap_i64]; omega
        have hwj : IntKind.i64.wrap ((j : Int) + 1) = (j : Int) + 1 := by rw [IntKind.wrap_i64]; omega
        have hdn := st_done h5
        rw [SF.done_is h4] at hdn
        clear h1 h2 h4 h5 h6 h7 h8 h9 R1
        by_cases hlt : (j : Int) < (m : Int) + 20
        · by_cases hmu : mu n p = 0
          · rw [decide_eq_true hmu] at hdn
            have HD := Lib.hid hdn
            have HM := Lib.hid hmu
            clear hdn hmu
            go_wp2_with fail
            refine HD.out.mono ?_
            rintro e wq ⟨rfl, rfl⟩
            clear HD
            go_wp2_with fail
            rcases p with s | ⟨s, cc⟩ | s | _
            · exact absurd HM.out (by simp [mu])
            · exact absurd HM.out (by have := OKx.out.ph.2.1; simp [mu]; omega)
            · have e1 : ((SF.steps n (.live s) : Nat) : Int) = (s : Int) + 4 := by simp [SF.steps]
              have e2 : ((SF.tried n (.live s) : Nat) : Int) = (s : Int) := rfl
              have e3 : SF.own (.live s) = (s : Int) := rfl
              obtain ⟨hs, hH, hW0, hW1⟩ := OKx.out.ph
              have hsl : Calls Try.prog 29 #[PT b] wr fun e w' => e = .returned (.tuple #[.int .i64 s, .int .i64 g, .int .i64 0]) ∧ Keeps [] wr w' := st_slot AT.out
              have hlk : S.look (s : Int) = ((⟨g, 2, k0, 1, false, 0⟩, 0), S.acc 3 s 1 true) := by unfold Sp.look; rw [SA.nth_nat, hH]
              have hlen := OKx.out.len
              have hwd0 : ∀ q : Int, (Sp.acc S 3 q 1 true).word s 0 = ((0, 0), (Sp.acc S 3 q 1 true).acc 4 (2 * (s : Int) + 0) 1 true) := fun q => by
                unfold Sp.word
                have : wnth (S.acc 3 q 1 true) s 0 = some 0 := by unfold wnth; rw [if_pos ⟨⟨by omega, by show (s : Int) < ((S.H.length : Nat) : Int); omega⟩, by decide⟩]; simpa [Sp.acc] using hW0
                rw [this]
              have hwd1 : ∀ q r : Int, ((Sp.acc S 3 q 1 true).acc 4 r 1 true).word s 1 = ((0, 0), ((Sp.acc S 3 q 1 true).acc 4 r 1 true).acc 4 (2 * (s : Int) + 1) 1 true) := fun q r => by
                unfold Sp.word
                have : wnth ((S.acc 3 q 1 true).acc 4 r 1 true) s 1 = some 0 := by unfold wnth; rw [if_pos ⟨⟨by omega, by show (s : Int) < ((S.H.length : Nat) : Int); omega⟩, by decide⟩]; simpa [Sp.acc] using hW1
                rw [this]
              have QS := Lib.hid hsl
              have HLK := Lib.hid (And.intro hlk (And.intro hwd0 hwd1))
              have HKK : Hid (k ≤ 1099511627776 - 5) := by unfold Hid; omega
              have hs8 : (s : Int) ≤ 8 := by omega
              have s0 : (0 : Int) ≤ (s : Int) := by omega
              have m1 : IntKind.i64.wrap ((s : Int) + 2) = (s : Int) + 2 := by rw [IntKind.wrap_i64]; omega
              have m2 : IntKind.i64.wrap ((s : Int) + 2 + 2) = (s : Int) + 4 := by rw [IntKind.wrap_i64]; omega
              clear hsl hlk hH hW0 hW1 hs hlen hwd0 hwd1
              go_wp2_with fail
              refine QS.out.mono ?_
              rintro e wa ⟨rfl, hk⟩
              replace SPx := Lib.hid (SPx.out.calm hk)
              replace AT : Hid (StAt wa z b (SF.st k0 n g (.live s))) := Blk.keeps AT.out hk (by simp)
              clear hk QS
              have hq := sp_look SPx.out FT.out (by have := HKK.out; omega) s
              rw [HLK.out.1] at hq
              have QL := Lib.hid (show Calls Try.prog 37 #[PT z.t.q, .int .i64 s] wa fun e w' => e = .returned (.tuple #[.agg #[.int .i64 g, .int .i64 2, .int .i64 k0, .int .i64 1, .bool false, .int .i64 0], .int .i64 0]) ∧ Went w wa w' z F (S.acc 3 s 1 true) from hq)
              clear hq
              go_wp2_with fail
              refine QL.out.mono ?_
              rintro e wb ⟨rfl, F2, g1, g2, g3⟩
              have S1 := Lib.hid g1
              have A1 : Hid (StAt wb z b (SF.st k0 n g (.live s))) := Blk.keeps AT.out g2 (AT.out.off SPx.out)
              clear g1 g2 g3 QL SPx AT
              have hka : Keeps [] wb (wb.alloc (.cells #[.int .i64 g, .int .i64 2, .int .i64 k0, .int .i64 1, .bool false, .int .i64 0] 54)) := by simp
              have LH : Hid (Loc (wb.alloc (.cells #[.int .i64 g, .int .i64 2, .int .i64 k0, .int .i64 1, .bool false, .int .i64 0] 54)) F2 wb.heap.size 54 #[.int .i64 g, .int .i64 2, .int .i64 k0, .int .i64 1, .bool false, .int .i64 0]) := S1.out.local_ _ _
              replace S1 := Lib.hid (S1.out.calm hka)
              replace A1 : Hid (StAt (wb.alloc (.cells #[.int .i64 g, .int .i64 2, .int .i64 k0, .int .i64 1, .bool false, .int .i64 0] 54)) z b (SF.st k0 n g (.live s))) := Blk.keeps A1.out hka (by simp)
              go_wp2_with fail
              obtain ⟨wc, hwc⟩ : ∃ q, wb.alloc (.cells #[.int .i64 g, .int .i64 2, .int .i64 k0, .int .i64 1, .bool false, .int .i64 0] 54) = q := ⟨_, rfl⟩
              obtain ⟨zh, hzh⟩ : ∃ q, wb.heap.size = q := ⟨_, rfl⟩
              rw [hwc] at LH S1 A1 ⊢
              rw [hzh] at LH ⊢
              clear hka hwc hzh
              have hq := sp_word S1.out (FT.out.acc 3 s 1 true) (by have := HKK.out; omega) s 0
              rw [HLK.out.2.1] at hq
              refine hq.mono ?_
              rintro e wd ⟨rfl, F3, g1, g2, g3⟩
              have S2 := Lib.hid g1
              have A2 : Hid (StAt wd z b (SF.st k0 n g (.live s))) := Blk.keeps A1.out g2 (A1.out.off S1.out)
              replace LH := Lib.hid (LH.out.step g2 g3)
              clear g1 g2 g3 hq S1 A1
              go_wp2_with fail
              have hq := sp_word S2.out ((FT.out.acc 3 s 1 true).acc 4 (2 * (s : Int) + 0) 1 true) (by have := HKK.out; omega) s 1
              rw [HLK.out.2.2] at hq
              refine hq.mono ?_
              rintro e we ⟨rfl, F4, g1, g2, g3⟩
              have S3 := Lib.hid g1
              have A3 : Hid (StAt we z b (SF.st k0 n g (.live s))) := Blk.keeps A2.out g2 (A2.out.off S2.out)
              replace LH := Lib.hid (LH.out.step g2 g3)
              clear g1 g2 g3 hq S2 A2
              have x0 : we.cell? ⟨zh, 0, none⟩ = some (.int .i64 g) := (LH.out.blk.cell 0).trans rfl
              have x1 : we.cell? ⟨zh, 1, none⟩ = some (.int .i64 2) := (LH.out.blk.cell 1).trans rfl
              have x2 : we.cell? ⟨zh, 2, none⟩ = some (.int .i64 k0) := (LH.out.blk.cell 2).trans rfl
              have x3 : we.cell? ⟨zh, 3, none⟩ = some (.int .i64 1) := (LH.out.blk.cell 3).trans rfl
              have x4 : we.cell? ⟨zh, 4, none⟩ = some (.bool false) := (LH.out.blk.cell 4).trans rfl
              have x5 : we.cell? ⟨zh, 5, none⟩ = some (.int .i64 0) := (LH.out.blk.cell 5).trans rfl
              have he : ∀ w, (Op.equalIn 10000 54 (.agg #[.int .i64 g, .int .i64 2, .int .i64 k0, .int .i64 1, .bool false, .int .i64 0]) (.agg #[.int .i64 g, .int .i64 2, .int .i64 k0, .int .i64 1, .bool false, .int .i64 0])).run Try.prog w = .ok true w := fun w => by simp [go_sem]
              have QD : Hid (Calls Try.prog 28 #[PT b] we fun e w' => e = .returned (.bool true) ∧ we = w') := st_done A3.out
              go_wp2_with fail
              refine QD.out.mono ?_
              rintro e wq ⟨rfl, rfl⟩
              go_wp2_with fail
              go_ret
              exact ⟨rfl, S3.out.keep.below (by simp) (Nat.le_refl _)⟩
            · have e1 : ((SF.steps n .lost : Nat) : Int) = (n : Int) := rfl
              have e2 : ((SF.tried n .lost : Nat) : Int) = (n : Int) := rfl
              have e3 : SF.own .lost = -1 := rfl
              have hsl : Calls Try.prog 29 #[PT b] wr fun e w' => e = .returned (.tuple #[.int .i64 0, .int .i64 0, .int .i64 6]) ∧ Keeps [] wr w' := st_slot AT.out
              have QS := Lib.hid hsl
              have HKK : Hid (k ≤ 1099511627776) := by unfold Hid; omega
              clear hsl
              go_wp2_with fail
              refine QS.out.mono ?_
              rintro e wa ⟨rfl, hk⟩
              replace SPx := Lib.hid (SPx.out.calm hk)
              replace AT : Hid (StAt wa z b (SF.st k0 n g .lost)) := Blk.keeps AT.out hk (by simp)
              replace AR := Lib.hid (AR.out.keeps hk (by simp))
              clear hk QS
              have hq := sp_look SPx.out FT.out HKK.out (-1)
              have QL := Lib.hid (show Calls Try.prog 37 #[PT z.t.q, .int .i64 (-1)] wa fun e w' => e = .returned (.tuple #[.agg #[.int .i64 0, .int .i64 0, .int .i64 0, .int .i64 0, .bool false, .int .i64 0], .int .i64 2]) ∧ Went w wa w' z F S from hq)
              clear hq
              go_wp2_with fail
              refine QL.out.mono ?_
              rintro e wb ⟨rfl, F2, g1, g2, g3⟩
              have S1 := Lib.hid g1
              have A1 : Hid (StAt wb z b (SF.st k0 n g .lost)) := Blk.keeps AT.out g2 (AT.out.off SPx.out)
              have hzF : za ∉ F := SPx.out.out AR.out (by decide)
              replace AR := Lib.hid (AR.out.keeps g2 hzF)
              clear g1 g2 g3 QL SPx AT hzF
              have hka : Keeps [] wb (wb.alloc (.cells #[.int .i64 0, .int .i64 0, .int .i64 0, .int .i64 0, .bool false, .int .i64 0] 54)) := by simp
              replace S1 := Lib.hid (S1.out.calm hka)
              replace A1 : Hid (StAt (wb.alloc (.cells #[.int .i64 0, .int .i64 0, .int .i64 0, .int .i64 0, .bool false, .int .i64 0] 54)) z b (SF.st k0 n g .lost)) := Blk.keeps A1.out hka (by simp)
              replace AR := Lib.hid (AR.out.keeps hka (by simp))
              go_wp2_with fail
              obtain ⟨wc, hwc⟩ : ∃ q, wb.alloc (.cells #[.int .i64 0, .int .i64 0, .int .i64 0, .int .i64 0, .bool false, .int .i64 0] 54) = q := ⟨_, rfl⟩
              obtain ⟨zh, hzh⟩ : ∃ q, wb.heap.size = q := ⟨_, rfl⟩
              rw [hwc] at S1 A1 AR
              simp only [hwc, hzh]
              clear hka hwc hzh
              go_loopw [31] (fun i wr => ∃ q : Nat, q ≤ n ∧ i = .int .i64 q ∧ Keeps [] wc wr) (fun i _ => n - (intOf i).toNat)
              case atStart => exact ⟨0, Nat.zero_le _, rfl, Keeps.refl _ _⟩
              case round =>
                obtain ⟨q, hq, rfl, hkq⟩ := hrel
                have HQ := Lib.hid hkq
                clear hkq
                by_cases hlt9 : (q : Int) < (n : Int)
                · have q0 : (0 : Int) ≤ (q : Int) := by omega
                  have q8 : (q : Int) < 8 := by omega
                  have t0 : wr.cell? ⟨za, q, none⟩ = some (.bool false) := ((AR.out.keeps HQ.out (by simp)).cell (j := q) (by omega)).trans (by rw [PA.out q (by omega)])
                  go_wp2_with fail
                  exact ⟨⟨q + 1, by omega, by simp, HQ.out⟩, by simp [intOf]; omega⟩
                · have A2 : Hid (StAt wr z b (SF.st k0 n g .lost)) := Blk.keeps A1.out HQ.out (by simp)
                  have QD : Hid (Calls Try.prog 28 #[PT b] wr fun e w' => e = .returned (.bool true) ∧ wr = w') := st_done A2.out
                  go_wp2_with fail
                  refine QD.out.mono ?_
                  rintro e wq ⟨rfl, rfl⟩
                  go_wp2_with fail
                  go_ret
                  exact ⟨rfl, (S1.out.keep.trans HQ.out (by simp)).below (by simp) (Nat.le_refl _)⟩
          · rw [decide_eq_false hmu] at hdn
            have HD := Lib.hid hdn
            have HM := Lib.hid hmu
            clear hdn hmu
            go_wp2_with fail
            refine HD.out.mono ?_
            rintro e wq ⟨rfl, rfl⟩
            clear HD
            go_wp2_with fail
            have hnq : Calls Try.prog 34 #[PT z.t.q] wr fun e w' => ∃ a c, e = .returned (.slice (some ⟨a, 0, none⟩) n c) ∧ OwnS w' a c n (slL S.H S.W) ∧ wr.heap.size ≤ a ∧ Keeps [] wr w' := by
              have := tab_now SPx.out FT.out
              rw [OKx.out.len] at this
              exact this
            refine hnq.mono ?_
            rintro e w10 ⟨na, nc, rfl, hown, hna, hk⟩
            have TD : Hid (Told w10 na nc n S) := told_of hown FT.out.words
            have TY : Hid (tyOf w10 na = some 59) := own_tyOf hown rfl
            replace SPx := Lib.hid (SPx.out.calm hk)
            replace AT : Hid (StAt w10 z b (SF.st k0 n g p)) := Blk.keeps AT.out hk (by simp)
            replace AR := Lib.hid (AR.out.keeps hk (by simp))
            have HLN := Lib.hid OKx.out.len
            have naz : Hid (na ≠ za) := by
              have h1 : tyOf w10 za = some 73 := Blk.tyOf AR.out
              exact ne_ty TY.out h1 (by decide)
            clear hk hnq hown hna
            go_wp2_with fail
            go_loopw [22] (fun i wr => ∃ q : Nat, q ≤ n ∧ i = .int .i64 q ∧ Keeps [za] w10 wr ∧ Arr wr za 73 (fun j => .bool (if j < q then (al j && ((hg S.H j).state == 0)) else al j))) (fun i _ => n - (intOf i).toNat)
            case atStart => exact ⟨0, Nat.zero_le _, rfl, Keeps.refl _ _, AR.out.same (fun i hi => by simp)⟩
            case round =>
              obtain ⟨q, hq, rfl, h1, h2⟩ := hrel
              have R1 := Lib.hid h1
              have R2 := Lib.hid h2
              clear h1 h2
              by_cases hlt3 : (q : Int) < (n : Int)
              · have q0 : (0 : Int) ≤ (q : Int) := by omega
                have q8 : (q : Int) < 8 := by omega
                obtain ⟨x, hx⟩ : ∃ x, S.H[q]? = some x := ⟨_, List.getElem?_eq_getElem (by have := HLN.out; omega)⟩
                obtain ⟨_, y1, _⟩ := Told_keeps TD.out HLN.out R1.out (by simpa using naz.out) q x (by omega) hx
                have hgx := hg_of hx
                obtain ⟨ab, hab⟩ : ∃ ab, al q = ab := ⟨_, rfl⟩
                obtain ⟨bb, hbb⟩ : ∃ bb, (x.state == 0) = bb := ⟨_, rfl⟩
                have t0 : wr.cell? ⟨za, q, none⟩ = some (.bool ab) := (R2.out.cell (j := q) (by omega)).trans (by simp [hab])
                have t1 := R2.out.frozen q
                have RN : Hid (Arr (wr.setCell ⟨za, q, none⟩ (.bool (ab && bb))) za 73 (fun j => .bool (if j < q + 1 then (al j && ((hg S.H j).state == 0)) else al j))) := R2.out.set (j := q) (by omega) _ (fun i hi => by
                  by_cases e : i = q
                  · subst e; simp [hgx, hab, hbb]
                  · rw [if_neg e]
                    by_cases e2 : i < q
                    · rw [if_pos e2, if_pos (by omega)]
                    · rw [if_neg e2, if_neg (by omega)])
                have RK : Hid (Keeps [za] w10 (wr.setCell ⟨za, q, none⟩ (.bool (ab && bb)))) := R1.out.setCell (.inl (by simp)) _
                clear hx hgx hab
                cases ab
                · clear hbb
                  go_wp2_with fail
                  exact ⟨⟨q + 1, by omega, by simp, RK.out, RN.out⟩, by simp [intOf]; omega⟩
                · cases bb
                  · go_wp2_with fail
                    exact ⟨⟨q + 1, by omega, by simp, RK.out, RN.out⟩, by simp [intOf]; omega⟩
                  · go_wp2_with fail
                    exact ⟨⟨q + 1, by omega, by simp, RK.out, RN.out⟩, by simp [intOf]; omega⟩
              · obtain rfl : q = n := by omega
                replace SPx := Lib.hid (SPx.out.wrote R1.out HZA.out (SPx.out.out AR.out (by decide)) (Blk.tyOf AR.out) (by decide))
                replace AT : Hid (StAt wr z b (SF.st k0 q g p)) := Blk.keeps AT.out R1.out (by have := Blk.ne_ AT.out AR.out (by decide); simpa using this)
                replace TD : Hid (Told wr na nc q S) := Told_keeps TD.out HLN.out R1.out (by simpa using naz.out)
                obtain ⟨al2, hal2⟩ : ∃ al2 : Nat → Bool, (fun j => if j < q then (al j && ((hg S.H j).state == 0)) else al j) = al2 := ⟨_, rfl⟩
                have A2 : Hid (Arr wr za 73 (fun j => .bool (al2 j))) := by rw [← hal2]; exact R2.out
                have HAL : Hid (∀ j, j < q → al2 j = (al j && ((hg S.H j).state == 0))) := fun j hj => by rw [← hal2]; simp [hj]
                have PA2 : Hid (SF.Past q al2 p) := by
                  have hp := PA.out
                  unfold Hid
                  cases p with
                  | seek s => exact fun j hj => by rw [← hal2]; simp only; split <;> simp [hp j hj]
                  | hold s c => trivial
                  | live s => trivial
                  | lost => exact fun j hj => by rw [← hal2]; simp only; split <;> simp [hp j hj]
                obtain ⟨w11, hw11⟩ : ∃ q, q = wr := ⟨_, rfl⟩
                subst hw11
                clear R1 R2 AR PA hal2 TY
                by_cases hjm : j < m
                · obtain ⟨ab, off, op, rfl, hp, hcell⟩ := HSC.out.at_ hjm
                  have hop := hcell w11 (SPx.out.keep.below (by simp) (Nat.le_refl _))
                  have c0 := hop.c0
                  have c2 := hop.c2
                  have c3 := hop.c3
                  have hablt := World.block_lt_of_cell? w11 _ c0
                  have habne : ab ≠ w11.heap.size := by simp only at hablt; omega
                  clear hop hcell hp
                  obtain ⟨kd, mm, ii, nn, xx⟩ := op
                  simp only at c0 c2 c3
                  have j0 : (0 : Int) ≤ (j : Int) := by omega
                  have j1 : (j : Int) < (m : Int) := by omega
                  by_cases ek : kd = 21
                  · subst ek
                    have hstep := SF.step_is OKx.out HK0.out (by have := HM.out; omega)
                    obtain ⟨e1, g', p', e2, hok', hmu', hst', hcase⟩ := hstep
                    have hq := st_step SPx.out FT.out (by omega) AT.out HL.out (SF.st_okF OKx.out hn8.2)
                    rw [e1, e2] at hq
                    have hfit := FT.out.step (SF.st k0 q g p)
                    obtain ⟨S', hS'⟩ : ∃ S', ((SF.st k0 q g p).step S).2.2 = S' := ⟨_, rfl⟩
                    rw [hS'] at hq hfit hok'
                    have QST := Lib.hid hq
                    have AFT : Hid (∀ w', WentB w w11 w' z F b S' → StAt w' z b (SF.st k0 q g' p') → SF.Past q al2 p' → FI w w' z b za q k0 (j + 1) m p' g' al2) := fun w' ⟨F2, g1, g2, g3⟩ ha hpast =>
                      ⟨⟨F2, S', k + 1, g1, hfit, by omega, hok'⟩, ha, A2.out.keeps g2 (by simp only [List.mem_cons, not_or]; exact ⟨(Blk.ne_ AT.out A2.out (by decide)).symm, SPx.out.out A2.out (by decide)⟩), hpast, by have := MU.out.1; omega, fun hh => by have := MU.out.1; have := MU.out.2; omega⟩
                    have hsn : IntKind.i64.wrap (((SF.steps q p : Nat) : Int) + 1) = ((SF.steps q p' : Nat) : Int) := by
                      have : SF.steps q p ≤ 100 := by
                        have hp := OKx.out.ph
                        cases p with
                        | seek s => simp only [SF.steps]; have : s < q := hp; omega
                        | hold s c => simp only [SF.steps]; have := hp.1; have := hp.2.1; omega
                        | live s => simp only [SF.steps]; have := hp.1; omega
                        | lost => simp only [SF.steps]; omega
                      rw [IntKind.wrap_i64]; omega
                    clear hq hfit e1 e2 hS' hok' hmu' hst'
                    rcases hcase with ⟨s, x, rfl, hx, hc⟩ | ⟨s, cc, rfl, ho', ht', hc⟩
                    · have hs : s < q := OKx.out.ph
                      obtain ⟨_, y1, _⟩ := TD.out s x hs hx
                      have i1 : ((SF.tried q (.seek s) : Nat) : Int) = (s : Int) := rfl
                      have i3 : SF.own (.seek s) = -1 := rfl
                      have s0 : (0 : Int) ≤ (s : Int) := by omega
                      have s1 : (s : Int) < (q : Int) := by omega
                      have hgx := hg_of hx
                      rcases hc with ⟨h0, rfl⟩ | ⟨h0, ht', ho', hc⟩
                      · have b0 : (x.state == 0) = true := by simp [h0]
                        have HP : Hid (SF.Past q al2 (.hold s 0)) := trivial
                        have i4 : SF.own (.hold s 0) = (s : Int) := rfl
                        have i5 : ((SF.tried q (.hold s 0) : Nat) : Int) = (s : Int) := rfl
                        clear h0 hx hgx
                        go_wp2_with fail
                        refine QST.out.mono ?_
                        rintro e w12 ⟨rfl, hw, ha⟩
                        have HW := Lib.hid (AFT.out _ hw ha HP.out)
                        clear hw ha QST AFT
                        go_wp2_with fail
                        exact ⟨⟨j + 1, .hold s 0, g', al2, by omega, by simp, by rw [← hsn], rfl, rfl, HW.out⟩, by simp [intOf]; omega⟩
                      · have b0 : (x.state == 0) = false := by simp [h0]
                        have hals : al2 s = false := by rw [HAL.out s hs, hgx, b0]; simp
                        have HP : Hid (SF.Past q al2 p') := by
                          have hp := PA2.out
                          have hle : ∀ j, j < s + 1 → al2 j = false := fun j hj => by
                            by_cases e : j = s
                            · subst e; exact hals
                            · exact hp j (by omega)
                          unfold Hid
                          rcases hc with ⟨rfl, hh⟩ | rfl
                          · exact fun j hj => hle j (by omega)
                          · exact hle
                        have ht2 : ((SF.tried q p' : Nat) : Int) = (s : Int) + 1 := by omega
                        have hwt : IntKind.i64.wrap ((s : Int) + 1) = (s : Int) + 1 := by rw [IntKind.wrap_i64]; omega
                        have HTT := Lib.hid (And.intro ht2 ho')
                        clear h0 hx hgx hals hc ht' ho' ht2
                        go_wp2_with fail
                        refine QST.out.mono ?_
                        rintro e w12 ⟨rfl, hw, ha⟩
                        have HW := Lib.hid (AFT.out _ hw ha HP.out)
                        clear hw ha QST AFT
                        go_wp2_with fail
                        exact ⟨⟨j + 1, p', g', al2, by omega, by simp, by rw [← hsn], by rw [HTT.out.1], by rw [HTT.out.2], HW.out⟩, by simp [intOf]; omega⟩
                    · have hs : s < q := OKx.out.ph.1
                      obtain ⟨x, hx⟩ : ∃ x, S.H[s]? = some x := ⟨_, List.getElem?_eq_getElem (by have := HLN.out; omega)⟩
                      obtain ⟨_, y1, _⟩ := TD.out s x hs hx
                      have i1 : ((SF.tried q (.hold s cc) : Nat) : Int) = (s : Int) := rfl
                      have i3 : SF.own (.hold s cc) = (s : Int) := rfl
                      have s0 : (0 : Int) ≤ (s : Int) := by omega
                      have s1 : (s : Int) < (q : Int) := by omega
                      have s2 : ¬ ((s : Int) < 0) := by omega
                      have HP : Hid (SF.Past q al2 p') := by unfold Hid; rcases hc with rfl | rfl <;> trivial
                      have HTT : Hid (((SF.tried q p' : Nat) : Int) = (s : Int) ∧ SF.own p' = (s : Int)) := ⟨by omega, ho'⟩
                      clear hx hc ht' ho'
                      go_wp2_with fail
                      refine QST.out.mono ?_
                      rintro e w12 ⟨rfl, hw, ha⟩
                      have HW := Lib.hid (AFT.out _ hw ha HP.out)
                      clear hw ha QST AFT
                      go_wp2_with fail
                      exact ⟨⟨j + 1, p', g', al2, by omega, by simp, by rw [← hsn], by rw [HTT.out.1], by rw [HTT.out.2], HW.out⟩, by simp [intOf]; omega⟩
                  · have ek0 : (kd == 21) = false := by simpa using ek
                    have hand := i64_and7 ii
                    obtain ⟨u, hu⟩ : ∃ u : Nat, ii % 8 = u := ⟨(ii % 8).toNat, by omega⟩
                    rw [hu] at hand
                    have hu8 : u < 8 := by omega
                    obtain ⟨s, hsq⟩ : ∃ s : Nat, u % q = s := ⟨_, rfl⟩
                    have hsn : s < q := by rw [← hsq]; exact Nat.mod_lt _ (by omega)
                    have hmod : (u : Int).tmod (q : Int) = (s : Int) := by rw [Int.tmod_eq_emod_of_nonneg (by omega), ← Int.natCast_emod, hsq]
                    have nz1 : ((q : Int) == 0) = false := by simp; omega
                    have nz2 : ¬ (q : Int) = 0 := by omega
                    have s0 : (0 : Int) ≤ (s : Int) := by omega
                    have s1 : (s : Int) < (q : Int) := by omega
                    obtain ⟨x, hx⟩ : ∃ x, S.H[s]? = some x := ⟨_, List.getElem?_eq_getElem (by have := HLN.out; omega)⟩
                    obtain ⟨y0, y1, y2, y3, y4, y5⟩ := TD.out s x hsn hx
                    have HX := Lib.hid hx
                    have hand3 := and3 nn
                    obtain ⟨t, ht⟩ : ∃ t : Nat, nn % 4 = t := ⟨(nn % 4).toNat, by omega⟩
                    rw [ht] at hand3
                    have ht4 : t < 4 := by omega
                    have hth : IntKind.i64.wrap (2 + (t : Int)) = 2 + (t : Int) := by rw [IntKind.wrap_i64]; omega
                    clear hx hu hsq ht ek
                    have LATE : Hid (m ≤ j + 1 → mu q p + (j + 1 - m) ≤ 20) := fun hh => by have := MU.out.1; omega
                    obtain ⟨xg, xs, xt, xh, xd, xw⟩ := x
                    simp only at y0 y1 y2 y3 y4 y5
                    have hka : Keeps [] w11 (w11.alloc (.cells #[.int .i64 xg, .int .i64 xs, .int .i64 xt, .int .i64 xh, .bool xd, .int .i64 xw] 54)) := by simp
                    have SA1 := Lib.hid (SPx.out.calm hka)
                    have AT1 : Hid (StAt (w11.alloc (.cells #[.int .i64 xg, .int .i64 xs, .int .i64 xt, .int .i64 xh, .bool xd, .int .i64 xw] 54)) z b (SF.st k0 q g p)) := Blk.keeps AT.out hka (by simp)
                    have AR1 := Lib.hid (A2.out.keeps hka (by simp))
                    have DONE : Hid (∀ (S' : Sp) (w' : World), Went w (w11.alloc (.cells #[.int .i64 xg, .int .i64 xs, .int .i64 xt, .int .i64 xh, .bool xd, .int .i64 xw] 54)) w' z F S' → Fit (k + 1) S' → SF.Ok k0 q g p S' → FI w w' z b za q k0 (j + 1) m p g al2) := fun S' w' ⟨F2, g1, g2, g3⟩ hf ho =>
                      ⟨⟨F2, S', k + 1, g1, hf, by omega, ho⟩, Blk.keeps AT1.out g2 (AT1.out.off SA1.out), AR1.out.keeps g2 (SA1.out.out AR1.out (by decide)), PA2.out, MU.out.1, LATE.out⟩
                    clear hka SPx AT A2
                    by_cases e10 : kd = 10
                    · subst e10
                      by_cases e1 : xh = 1
                      · subst e1
                        go_wp2_with fail
                        refine (sp_claim SA1.out FT.out (by omega) (s : Int) (2 + (t : Int))).mono ?_
                        rintro e w12 ⟨rfl, hw⟩
                        have HW := Lib.hid (DONE.out _ _ hw (FT.out.claim (s : Int) (2 + (t : Int))) (SF.ok_claim OKx.out _ _))
                        clear hw
                        go_wp2_with fail
                        exact ⟨⟨j + 1, p, g, al2, by omega, by simp, rfl, rfl, rfl, HW.out⟩, by simp [intOf]; omega⟩
                      · have n1 : (xh == 1) = false := by simpa using e1
                        have hne : ∀ x', nth S.H (s : Int) = some x' → x'.thread ≠ 1 := fun x' hx' => by rw [SA.nth_nat, HX.out] at hx'; injection hx' with hx'; subst hx'; exact e1
                        have HNE := Lib.hid hne
                        clear hne e1
                        go_wp2_with fail
                        refine (sp_free SA1.out FT.out (by omega) (s : Int) xg).mono ?_
                        rintro e w12 ⟨rfl, hw⟩
                        have HW := Lib.hid (DONE.out _ _ hw (FT.out.free (s : Int) xg) (SF.ok_free OKx.out _ _ HNE.out))
                        clear hw
                        go_wp2_with fail
                        exact ⟨⟨j + 1, p, g, al2, by omega, by simp, rfl, rfl, rfl, HW.out⟩, by simp [intOf]; omega⟩
                    · have n10 : (kd == 10) = false := by simpa using e10
                      clear e10
                      go_wp2_with fail
                      refine (sp_claim SA1.out FT.out (by omega) (s : Int) (2 + (t : Int))).mono ?_
                      rintro e w12 ⟨rfl, hw⟩
                      have HW := Lib.hid (DONE.out _ _ hw (FT.out.claim (s : Int) (2 + (t : Int))) (SF.ok_claim OKx.out _ _))
                      clear hw
                      go_wp2_with fail
                      exact ⟨⟨j + 1, p, g, al2, by omega, by simp, rfl, rfl, rfl, HW.out⟩, by simp [intOf]; omega⟩
                · have j1 : ¬ ((j : Int) < (m : Int)) := by omega
                  have hstep := SF.step_is OKx.out HK0.out (by have := HM.out; omega)
                  obtain ⟨e1, g', p', e2, hok', hmu', hst', hcase⟩ := hstep
                  have hq := st_step SPx.out FT.out (by omega) AT.out HL.out (SF.st_okF OKx.out hn8.2)
                  rw [e1, e2] at hq
                  have hfit := FT.out.step (SF.st k0 q g p)
                  obtain ⟨S', hS'⟩ : ∃ S', ((SF.st k0 q g p).step S).2.2 = S' := ⟨_, rfl⟩
                  rw [hS'] at hq hfit hok'
                  have QST := Lib.hid hq
                  have AFT : Hid (∀ w', WentB w w11 w' z F b S' → StAt w' z b (SF.st k0 q g' p') → SF.Past q al2 p' → FI w w' z b za q k0 (j + 1) m p' g' al2) := fun w' ⟨F2, g1, g2, g3⟩ ha hpast =>
                    ⟨⟨F2, S', k + 1, g1, hfit, by omega, hok'⟩, ha, A2.out.keeps g2 (by simp only [List.mem_cons, not_or]; exact ⟨(Blk.ne_ AT.out A2.out (by decide)).symm, SPx.out.out A2.out (by decide)⟩), hpast, by have := MU.out.1; omega, fun hh => by have := MU.out.1; have := MU.out.2; omega⟩
                  have hsn : IntKind.i64.wrap (((SF.steps q p : Nat) : Int) + 1) = ((SF.steps q p' : Nat) : Int) := by
                    have : SF.steps q p ≤ 100 := by
                      have hp := OKx.out.ph
                      cases p with
                      | seek s => simp only [SF.steps]; have : s < q := hp; omega
                      | hold s c => simp only [SF.steps]; have := hp.1; have := hp.2.1; omega
                      | live s => simp only [SF.steps]; have := hp.1; omega
                      | lost => simp only [SF.steps]; omega
                    rw [IntKind.wrap_i64]; omega
                  clear hq hfit e1 e2 hS' hok' hmu' hst'
                  rcases hcase with ⟨s, x, rfl, hx, hc⟩ | ⟨s, cc, rfl, ho', ht', hc⟩
                  · have hs : s < q := OKx.out.ph
                    obtain ⟨_, y1, _⟩ := TD.out s x hs hx
                    have i1 : ((SF.tried q (.seek s) : Nat) : Int) = (s : Int) := rfl
                    have i3 : SF.own (.seek s) = -1 := rfl
                    have s0 : (0 : Int) ≤ (s : Int) := by omega
                    have s1 : (s : Int) < (q : Int) := by omega
                    have hgx := hg_of hx
                    rcases hc with ⟨h0, rfl⟩ | ⟨h0, ht', ho', hc⟩
                    · have b0 : (x.state == 0) = true := by simp [h0]
                      have HP : Hid (SF.Past q al2 (.hold s 0)) := trivial
                      have i4 : SF.own (.hold s 0) = (s : Int) := rfl
                      have i5 : ((SF.tried q (.hold s 0) : Nat) : Int) = (s : Int) := rfl
                      clear h0 hx hgx
                      go_wp2_with fail
                      refine QST.out.mono ?_
                      rintro e w12 ⟨rfl, hw, ha⟩
                      have HW := Lib.hid (AFT.out _ hw ha HP.out)
                      clear hw ha QST AFT
                      go_wp2_with fail
                      exact ⟨⟨j + 1, .hold s 0, g', al2, by omega, by simp, by rw [← hsn], rfl, rfl, HW.out⟩, by simp [intOf]; omega⟩
                    · have b0 : (x.state == 0) = false := by simp [h0]
                      have hals : al2 s = false := by rw [HAL.out s hs, hgx, b0]; simp
                      have HP : Hid (SF.Past q al2 p') := by
                        have hp := PA2.out
                        have hle : ∀ j, j < s + 1 → al2 j = false := fun j hj => by
                          by_cases e : j = s
                          · subst e; exact hals
                          · exact hp j (by omega)
                        unfold Hid
                        rcases hc with ⟨rfl, hh⟩ | rfl
                        · exact fun j hj => hle j (by omega)
                        · exact hle
                      have ht2 : ((SF.tried q p' : Nat) : Int) = (s : Int) + 1 := by omega
                      have hwt : IntKind.i64.wrap ((s : Int) + 1) = (s : Int) + 1 := by rw [IntKind.wrap_i64]; omega
                      have HTT := Lib.hid (And.intro ht2 ho')
                      clear h0 hx hgx hals hc ht' ho' ht2
                      go_wp2_with fail
                      refine QST.out.mono ?_
                      rintro e w12 ⟨rfl, hw, ha⟩
                      have HW := Lib.hid (AFT.out _ hw ha HP.out)
                      clear hw ha QST AFT
                      go_wp2_with fail
                      exact ⟨⟨j + 1, p', g', al2, by omega, by simp, by rw [← hsn], by rw [HTT.out.1], by rw [HTT.out.2], HW.out⟩, by simp [intOf]; omega⟩
                  · have hs : s < q := OKx.out.ph.1
                    obtain ⟨x, hx⟩ : ∃ x, S.H[s]? = some x := ⟨_, List.getElem?_eq_getElem (by have := HLN.out; omega)⟩
                    obtain ⟨_, y1, _⟩ := TD.out s x hs hx
                    have i1 : ((SF.tried q (.hold s cc) : Nat) : Int) = (s : Int) := rfl
                    have i3 : SF.own (.hold s cc) = (s : Int) := rfl
                    have s0 : (0 : Int) ≤ (s : Int) := by omega
                    have s1 : (s : Int) < (q : Int) := by omega
                    have s2 : ¬ ((s : Int) < 0) := by omega
                    have HP : Hid (SF.Past q al2 p') := by unfold Hid; rcases hc with rfl | rfl <;> trivial
                    have HTT : Hid (((SF.tried q p' : Nat) : Int) = (s : Int) ∧ SF.own p' = (s : Int)) := ⟨by omega, ho'⟩
                    clear hx hc ht' ho'
                    go_wp2_with fail
                    refine QST.out.mono ?_
                    rintro e w12 ⟨rfl, hw, ha⟩
                    have HW := Lib.hid (AFT.out _ hw ha HP.out)
                    clear hw ha QST AFT
                    go_wp2_with fail
                    exact ⟨⟨j + 1, p', g', al2, by omega, by simp, by rw [← hsn], by rw [HTT.out.1], by rw [HTT.out.2], HW.out⟩, by simp [intOf]; omega⟩
        · have hmu : mu n p = 0 := by have := MU.out.2 (by omega); omega
          have HM := Lib.hid hmu
          clear hdn hmu
          go_wp2_with fail
          rcases p with s | ⟨s, cc⟩ | s | _
          · exact absurd HM.out (by simp [mu])
          · exact absurd HM.out (by have := OKx.out.ph.2.1; simp [mu]; omega)
          · have e1 : ((SF.steps n (.live s) : Nat) : Int) = (s : Int) + 4 := by simp [SF.steps]
            have e2 : ((SF.tried n (.live s) : Nat) : Int) = (s : Int) := rfl
            have e3 : SF.own (.live s) = (s : Int) := rfl
            obtain ⟨hs, hH, hW0, hW1⟩ := OKx.out.ph
            have hsl : Calls Try.prog 29 #[PT b] wr fun e w' => e = .returned (.tuple #[.int .i64 s, .int .i64 g, .int .i64 0]) ∧ Keeps [] wr w' := st_slot AT.out
            have hlk : S.look (s : Int) = ((⟨g, 2, k0, 1, false, 0⟩, 0), S.acc 3 s 1 true) := by unfold Sp.look; rw [SA.nth_nat, hH]
            have hlen := OKx.out.len
            have hwd0 : ∀ q : Int, (Sp.acc S 3 q 1 true).word s 0 = ((0, 0), (Sp.acc S 3 q 1 true).acc 4 (2 * (s : Int) + 0) 1 true) := fun q => by
              unfold Sp.word
              have : wnth (S.acc 3 q 1 true) s 0 = some 0 := by unfold wnth; rw [if_pos ⟨⟨by omega, by show (s : Int) < ((S.H.length : Nat) : Int); omega⟩, by decide⟩]; simpa [Sp.acc] using hW0
              rw [this]
            have hwd1 : ∀ q r : Int, ((Sp.acc S 3 q 1 true).acc 4 r 1 true).word s 1 = ((0, 0), ((Sp.acc S 3 q 1 true).acc 4 r 1 true).acc 4 (2 * (s : Int) + 1) 1 true) := fun q r => by
              unfold Sp.word
              have : wnth ((S.acc 3 q 1 true).acc 4 r 1 true) s 1 = some 0 := by unfold wnth; rw [if_pos ⟨⟨by omega, by show (s : Int) < ((S.H.length : Nat) : Int); omega⟩, by decide⟩]; simpa [Sp.acc] using hW1
              rw [this]
            have QS := Lib.hid hsl
            have HLK := Lib.hid (And.intro hlk (And.intro hwd0 hwd1))
            have HKK : Hid (k ≤ 1099511627776 - 5) := by unfold Hid; omega
            have hs8 : (s : Int) ≤ 8 := by omega
            have s0 : (0 : Int) ≤ (s : Int) := by omega
            have m1 : IntKind.i64.wrap ((s : Int) + 2) = (s : Int) + 2 := by rw [IntKind.wrap_i64]; omega
            have m2 : IntKind.i64.wrap ((s : Int) + 2 + 2) = (s : Int) + 4 := by rw [IntKind.wrap_i64]; omega
            clear hsl hlk hH hW0 hW1 hs hlen hwd0 hwd1
            go_wp2_with fail
            refine QS.out.mono ?_
            rintro e wa ⟨rfl, hk⟩
            replace SPx := Lib.hid (SPx.out.calm hk)
            replace AT : Hid (StAt wa z b (SF.st k0 n g (.live s))) := Blk.keeps AT.out hk (by simp)
            clear hk QS
            have hq := sp_look SPx.out FT.out (by have := HKK.out; omega) s
            rw [HLK.out.1] at hq
            have QL := Lib.hid (show Calls Try.prog 37 #[PT z.t.q, .int .i64 s] wa fun e w' => e = .returned (.tuple #[.agg #[.int .i64 g, .int .i64 2, .int .i64 k0, .int .i64 1, .bool false, .int .i64 0], .int .i64 0]) ∧ Went w wa w' z F (S.acc 3 s 1 true) from hq)
            clear hq
            go_wp2_with fail
            refine QL.out.mono ?_
            rintro e wb ⟨rfl, F2, g1, g2, g3⟩
            have S1 := Lib.hid g1
            have A1 : Hid (StAt wb z b (SF.st k0 n g (.live s))) := Blk.keeps AT.out g2 (AT.out.off SPx.out)
            clear g1 g2 g3 QL SPx AT
            have hka : Keeps [] wb (wb.alloc (.cells #[.int .i64 g, .int .i64 2, .int .i64 k0, .int .i64 1, .bool false, .int .i64 0] 54)) := by simp
            have LH : Hid (Loc (wb.alloc (.cells #[.int .i64 g, .int .i64 2, .int .i64 k0, .int .i64 1, .bool false, .int .i64 0] 54)) F2 wb.heap.size 54 #[.int .i64 g, .int .i64 2, .int .i64 k0, .int .i64 1, .bool false, .int .i64 0]) := S1.out.local_ _ _
            replace S1 := Lib.hid (S1.out.calm hka)
            replace A1 : Hid (StAt (wb.alloc (.cells #[.int .i64 g, .int .i64 2, .int .i64 k0, .int .i64 1, .bool false, .int .i64 0] 54)) z b (SF.st k0 n g (.live s))) := Blk.keeps A1.out hka (by simp)
            go_wp2_with fail
            obtain ⟨wc, hwc⟩ : ∃ q, wb.alloc (.cells #[.int .i64 g, .int .i64 2, .int .i64 k0, .int .i64 1, .bool false, .int .i64 0] 54) = q := ⟨_, rfl⟩
            obtain ⟨zh, hzh⟩ : ∃ q, wb.heap.size = q := ⟨_, rfl⟩
            rw [hwc] at LH S1 A1 ⊢
            rw [hzh] at LH ⊢
            clear hka hwc hzh
            have hq := sp_word S1.out (FT.out.acc 3 s 1 true) (by have := HKK.out; omega) s 0
            rw [HLK.out.2.1] at hq
            refine hq.mono ?_
            rintro e wd ⟨rfl, F3, g1, g2, g3⟩
            have S2 := Lib.hid g1
            have A2 : Hid (StAt wd z b (SF.st k0 n g (.live s))) := Blk.keeps A1.out g2 (A1.out.off S1.out)
            replace LH := Lib.hid (LH.out.step g2 g3)
            clear g1 g2 g3 hq S1 A1
            go_wp2_with fail
            have hq := sp_word S2.out ((FT.out.acc 3 s 1 true).acc 4 (2 * (s : Int) + 0) 1 true) (by have := HKK.out; omega) s 1
            rw [HLK.out.2.2] at hq
            refine hq.mono ?_
            rintro e we ⟨rfl, F4, g1, g2, g3⟩
            have S3 := Lib.hid g1
            have A3 : Hid (StAt we z b (SF.st k0 n g (.live s))) := Blk.keeps A2.out g2 (A2.out.off S2.out)
            replace LH := Lib.hid (LH.out.step g2 g3)
            clear g1 g2 g3 hq S2 A2
            have x0 : we.cell? ⟨zh, 0, none⟩ = some (.int .i64 g) := (LH.out.blk.cell 0).trans rfl
            have x1 : we.cell? ⟨zh, 1, none⟩ = some (.int .i64 2) := (LH.out.blk.cell 1).trans rfl
            have x2 : we.cell? ⟨zh, 2, none⟩ = some (.int .i64 k0) := (LH.out.blk.cell 2).trans rfl
            have x3 : we.cell? ⟨zh, 3, none⟩ = some (.int .i64 1) := (LH.out.blk.cell 3).trans rfl
            have x4 : we.cell? ⟨zh, 4, none⟩ = some (.bool false) := (LH.out.blk.cell 4).trans rfl
            have x5 : we.cell? ⟨zh, 5, none⟩ = some (.int .i64 0) := (LH.out.blk.cell 5).trans rfl
            have he : ∀ w, (Op.equalIn 10000 54 (.agg #[.int .i64 g, .int .i64 2, .int .i64 k0, .int .i64 1, .bool false, .int .i64 0]) (.agg #[.int .i64 g, .int .i64 2, .int .i64 k0, .int .i64 1, .bool false, .int .i64 0])).run Try.prog w = .ok true w := fun w => by simp [go_sem]
            have QD : Hid (Calls Try.prog 28 #[PT b] we fun e w' => e = .returned (.bool true) ∧ we = w') := st_done A3.out
            go_wp2_with fail
            refine QD.out.mono ?_
            rintro e wq ⟨rfl, rfl⟩
            go_wp2_with fail
            go_ret
            exact ⟨rfl, S3.out.keep.below (by simp) (Nat.le_refl _)⟩
          · have e1 : ((SF.steps n .lost : Nat) : Int) = (n : Int) := rfl
            have e2 : ((SF.tried n .lost : Nat) : Int) = (n : Int) := rfl
            have e3 : SF.own .lost = -1 := rfl
            have hsl : Calls Try.prog 29 #[PT b] wr fun e w' => e = .returned (.tuple #[.int .i64 0, .int .i64 0, .int .i64 6]) ∧ Keeps [] wr w' := st_slot AT.out
            have QS := Lib.hid hsl
            have HKK : Hid (k ≤ 1099511627776) := by unfold Hid; omega
            clear hsl
            go_wp2_with fail
            refine QS.out.mono ?_
            rintro e wa ⟨rfl, hk⟩
            replace SPx := Lib.hid (SPx.out.calm hk)
            replace AT : Hid (StAt wa z b (SF.st k0 n g .lost)) := Blk.keeps AT.out hk (by simp)
            replace AR := Lib.hid (AR.out.keeps hk (by simp))
            clear hk QS
            have hq := sp_look SPx.out FT.out HKK.out (-1)
            have QL := Lib.hid (show Calls Try.prog 37 #[PT z.t.q, .int .i64 (-1)] wa fun e w' => e = .returned (.tuple #[.agg #[.int .i64 0, .int .i64 0, .int .i64 0, .int .i64 0, .bool false, .int .i64 0], .int .i64 2]) ∧ Went w wa w' z F S from hq)
            clear hq
            go_wp2_with fail
            refine QL.out.mono ?_
            rintro e wb ⟨rfl, F2, g1, g2, g3⟩
            have S1 := Lib.hid g1
            have A1 : Hid (StAt wb z b (SF.st k0 n g .lost)) := Blk.keeps AT.out g2 (AT.out.off SPx.out)
            have hzF : za ∉ F := SPx.out.out AR.out (by decide)
            replace AR := Lib.hid (AR.out.keeps g2 hzF)
            clear g1 g2 g3 QL SPx AT hzF
            have hka : Keeps [] wb (wb.alloc (.cells #[.int .i64 0, .int .i64 0, .int .i64 0, .int .i64 0, .bool false, .int .i64 0] 54)) := by simp
            replace S1 := Lib.hid (S1.out.calm hka)
            replace A1 : Hid (StAt (wb.alloc (.cells #[.int .i64 0, .int .i64 0, .int .i64 0, .int .i64 0, .bool false, .int .i64 0] 54)) z b (SF.st k0 n g .lost)) := Blk.keeps A1.out hka (by simp)
            replace AR := Lib.hid (AR.out.keeps hka (by simp))
            go_wp2_with fail
            obtain ⟨wc, hwc⟩ : ∃ q, wb.alloc (.cells #[.int .i64 0, .int .i64 0, .int .i64 0, .int .i64 0, .bool false, .int .i64 0] 54) = q := ⟨_, rfl⟩
            obtain ⟨zh, hzh⟩ : ∃ q, wb.heap.size = q := ⟨_, rfl⟩
            rw [hwc] at S1 A1 AR
            simp only [hwc, hzh]
            clear hka hwc hzh
            go_loopw [31] (fun i wr => ∃ q : Nat, q ≤ n ∧ i = .int .i64 q ∧ Keeps [] wc wr) (fun i _ => n - (intOf i).toNat)
            case atStart => exact ⟨0, Nat.zero_le _, rfl, Keeps.refl _ _⟩
            case round =>
              obtain ⟨q, hq, rfl, hkq⟩ := hrel
              have HQ := Lib.hid hkq
              clear hkq
              by_cases hlt9 : (q : Int) < (n : Int)
              · have q0 : (0 : Int) ≤ (q : Int) := by omega
                have q8 : (q : Int) < 8 := by omega
                have t0 : wr.cell? ⟨za, q, none⟩ = some (.bool false) := ((AR.out.keeps HQ.out (by simp)).cell (j := q) (by omega)).trans (by rw [PA.out q (by omega)])
                go_wp2_with fail
                exact ⟨⟨q + 1, by omega, by simp, HQ.out⟩, by simp [intOf]; omega⟩
              · have A2 : Hid (StAt wr z b (SF.st k0 n g .lost)) := Blk.keeps A1.out HQ.out (by simp)
                have QD : Hid (Calls Try.prog 28 #[PT b] wr fun e w' => e = .returned (.bool true) ∧ wr = w') := st_done A2.out
                go_wp2_with fail
                refine QD.out.mono ?_
                rintro e wq ⟨rfl, rfl⟩
                go_wp2_with fail
                go_ret
                exact ⟨rfl, (S1.out.keep.trans HQ.out (by simp)).below (by simp) (Nat.le_refl _)⟩

theorem own : ownKnob Try.prog.godebug = none := by kernel_rfl
theorem laidOut : laidOutB Try.prog = true := by kernel_rfl
set_option maxRecDepth 100000 in
theorem lifted (os : Os) (started : os.Started) (H : Type) (enc : TypeId × Value → H) (F : Stop.Interp) :
    ReturnsInHanded {} Try.checked os 7 .any ((Rows.OpenSpec.upto Rows.startFindsSpec).pre6 enc Try.prog Try.f7 Rows.startFindsUptoRow.domain false) (((Rows.OpenSpec.upto Rows.startFindsSpec).at F).post enc Try.prog Try.f7 false true false false) := by
  refine returnsInHanded_of_cond (C := Try.checked) (s := Rows.OpenSpec.upto Rows.startFindsSpec) (k := Rows.uptoSmall) rfl own started (by kernel_rfl) Try.func7
    (OpenSpec.witness (enc := enc) (C := Try.checked) (s := Rows.OpenSpec.upto Rows.startFindsSpec) (k := Rows.uptoSmall) rfl false ⟨#[], #[.int .i64 0, .int .i64 0, .slice none 0 0], []⟩ 8 (by kernel_rfl) (by kernel_rfl) (by kernel_rfl)
      (x := ([.lit (.int .i64 0), .lit (.int .i64 0), .nil], [], [])) (by kernel_rfl) rfl (by kernel_rfl)) ?_
  intro W base args ds gs before hval0 hW _ hk _
  have hval : ∀ (j : Nat) t v, Try.f7.params[j]? = some t → args[j]? = some v → Value.okWide Try.prog W .any base t v := hval0
  have hW' := hW
  obtain ⟨p, q, hA0, hV, rfl, hfz, hnd⟩ := hW
  have hA : DataW.TrodAll enc Try.prog W 0 (fun _ => true) true Try.f7.params.toList args.toList ds p := hA0
  rw [Try.params7] at hA hval
  obtain ⟨v0, vs0, d0, ds0, p0, q0, hargs, rfl, rfl, h0, r0⟩ := trodAll_cons hA
  obtain ⟨v1, vs1, d1, ds1, p1, q1, rfl, rfl, rfl, h1, r1⟩ := trodAll_cons r0
  obtain ⟨v2, vs2, d2, ds2, p2, q2, rfl, rfl, rfl, h2, r2⟩ := trodAll_cons r1
  obtain ⟨rfl, rfl, rfl⟩ := trodAll_nil r2
  obtain rfl : args = #[v0, v1, v2] := by cases args; simp_all
  obtain ⟨rfl, rfl⟩ := trodVars_none hV
  obtain ⟨a0, rfl, rfl, rfl, w0⟩ := open_int Try.underlying3 (hval 0 3 v0 rfl rfl) h0
  obtain ⟨a1, rfl, rfl, rfl, w1⟩ := open_int Try.underlying3 (hval 1 3 v1 rfl rfl) h1
  have k2 := h2
  have lt2 : ∀ x ∈ p2, x.block < W.heap.size := by obtain ⟨m, hm⟩ := k2; exact DataW.trod_lt m _ _ _ hm
  obtain ⟨A2, n2, c2, rfl⟩ := okWide_slice Try.underlying78 (hval 2 78 v2 rfl rfl)
  obtain ⟨ops2, s2⟩ : ∃ ops, Script10 W A2 n2 c2 ops := by
    obtain ⟨fuel, hf⟩ := h2
    exact script10_open hf (bulks.small hk (by simp))
  clear hA0 hval0
  refine (walk a0 a1 A2 n2 c2 ops2 W w0 w1 s2).mono fun e W' ⟨he, bel⟩ => ?_
  subst he
  exact ⟨_, rfl, _, _, _, [], _, [], hW', trodAll_mk1 (shut_bool Try.underlying4 _), (trodAll_cons_mk (shut_int Try.underlying3 w0) (trodAll_cons_mk (shut_int Try.underlying3 w1) (trodAll_cons_mk (Below.trod laidOut (by kernel_rfl) (of_decide_eq_true (by kernel_rfl)) k2 bel lt2) trodAll_mk0))), rfl, bel.frame _, fun h => by cases h⟩

/-- The statement: the second form. -/
theorem proved : Rows.StartFindsUptoSaid :=
  OpenClaim.holds_of_cond 7 Try.f7 rfl rfl rfl rfl rfl rfl rfl ⟨rfl, rfl, rfl, rfl, rfl⟩ rfl rfl rfl rfl rfl (by kernel_rfl) Try.func7 (by kernel_rfl)
    (of_decide_eq_true (by kernel_rfl)) (by unfold Func.isWrapper; first | (rw [if_pos (by decide +kernel)]; kernel_rfl) | (rw [if_neg (by decide +kernel)]; exact ⟨rfl, rfl⟩))
    (fun os started H enc _ F => lifted os started H enc F)
#print axioms proved
end Go.Proofs.Ytnednminpmiojaa.startFinds
