/- quashlaw10.awake: the document's first example. -/
import Derived.Test.YtdhgiohjdhcedaaGreatStart
import Derived.Test.YtdhgiohjdhcedaaGreatSlc
namespace Go.Proofs.YtdhgiohjdhcedaaGreat
open Go.RowKit
set_option linter.unusedVariables false
theorem small10 (w : World) (n : Int) : Calls Tryz.prog 139 #[.int .i64 n] w fun e w' => e = .returned (.agg #[.int .i64 1, .int .i64 n, .int .i64 8, .int .i64 1, .int .i64 0, .int .i64 0]) ∧ Keeps [] w w' := by
  go_enter Tryz.func139, Tryz.ntmps139
  go_wp2
  refine bodyPost_ret (v := .agg #[.int .i64 1, .int .i64 n, .int .i64 8, .int .i64 1, .int .i64 0, .int .i64 0]) (by simp [results, Tryz.results139, go_sem]) rfl ⟨rfl, ?_⟩
  simp
theorem Went.toB {w0 w w' : World} {z : Sb} {F : List Nat} {S : Sp} (h : Went w0 w w' z F S) : ∃ F', SP w0 w' z F' S ∧ Keeps F w w' ∧ ∀ x, x ∈ F' → x ∈ F ∨ w.heap.size ≤ x := h
theorem ne_ty' {w : World} {F : List Nat} {a n c b : Nat} {z : Sb} {x : St} {xs : List Value} (h : LocR w F a 104 6 n c xs) (hb : StAt w z b x) : a ≠ b := fun e => by
  have h1 := own_tyOf h.own rfl
  have h2 := Blk.tyOf hb
  rw [e] at h1
  rw [h1] at h2
  injection h2 with h2
  revert h2
  decide
namespace Aw10
def c0 : Cf := ⟨1, 2, 8, 1, 0, 0⟩
def lg : List Acc := [⟨0, 0, 3, 0, 3, true⟩, ⟨0, 0, 3, 0, 3, false⟩, ⟨0, 0, 3, 1, 3, true⟩, ⟨0, 0, 4, 2, 2, true⟩, ⟨0, 0, 4, 3, 2, true⟩, ⟨0, 0, 3, 1, 3, true⟩]
def xs : Nat → St
  | 0 => ⟨3, 7, 0, 0, 0, 0, 4⟩
  | 1 => ⟨3, 7, 0, 1, 0, 0, 4⟩
  | 2 => ⟨3, 7, 1, 1, 1, 0, 4⟩
  | 3 => ⟨3, 7, 1, 1, 1, 1, 4⟩
  | 4 => ⟨3, 7, 2, 1, 1, 2, 4⟩
  | _ => ⟨3, 7, 3, 1, 1, 2, 0⟩
def hs : Nat → List Hd
  | 0 => [⟨1, 1, 0, 5, false, 0⟩, ⟨0, 0, 0, 0, false, 0⟩]
  | 1 => [⟨1, 1, 0, 5, false, 0⟩, ⟨0, 0, 0, 0, false, 0⟩]
  | 2 => [⟨1, 1, 0, 5, false, 0⟩, ⟨1, 1, 0, 3, false, 0⟩]
  | 3 => [⟨1, 1, 0, 5, false, 0⟩, ⟨1, 1, 0, 3, false, 0⟩]
  | 4 => [⟨1, 1, 0, 5, false, 0⟩, ⟨1, 1, 0, 3, false, 0⟩]
  | _ => [⟨1, 1, 0, 5, false, 0⟩, ⟨1, 2, 7, 3, false, 0⟩]
def ss (n : Nat) : Sp := ⟨c0, ⟨0, 0, n + 1, n + 1, lg.take (n + 1)⟩, [0], Gt.zero, hs n, [0, 0, 0, 0], []⟩
theorem e0 : (Sp.new c0).claim 0 5 = ((1, 0), ss 0) := by
  have h2 : (2 : Int).toNat = 2 := rfl
  have h1 : (1 : Int).toNat = 1 := rfl
  simp [Sp.new, c0, Sp.claim, Sp.acc, MS.note, MS.zero, imax, wrap64, nth, Hd.zero, ss, hs, lg, h2, h1, List.replicate]
theorem tr : ∀ n, n < 5 → (xs n).step (ss n) = (1, xs (n + 1), ss (n + 1))
  | 0, _ => by simp [xs, ss, hs, lg, c0, St.step, St.claim, St.new, Sp.claim, Sp.put, Sp.ready, Sp.acc, MS.note, imax, wrap64, nth, wnth, Hd.zero]
  | 1, _ => by simp [xs, ss, hs, lg, c0, St.step, St.claim, St.new, Sp.claim, Sp.put, Sp.ready, Sp.acc, MS.note, imax, wrap64, nth, wnth, Hd.zero]
  | 2, _ => by simp [xs, ss, hs, lg, c0, St.step, St.claim, St.new, Sp.claim, Sp.put, Sp.ready, Sp.acc, MS.note, imax, wrap64, nth, wnth, Hd.zero]
  | 3, _ => by simp [xs, ss, hs, lg, c0, St.step, St.claim, St.new, Sp.claim, Sp.put, Sp.ready, Sp.acc, MS.note, imax, wrap64, nth, wnth, Hd.zero]
  | 4, _ => by simp [xs, ss, hs, lg, c0, St.step, St.claim, St.new, Sp.claim, Sp.put, Sp.ready, Sp.acc, MS.note, imax, wrap64, nth, wnth, Hd.zero]
  | n + 5, h => absurd h (by omega)
theorem xok : ∀ n, (xs n).Ok
  | 0 => ⟨by decide, by decide, by decide, by decide, by decide, by decide⟩
  | 1 => ⟨by decide, by decide, by decide, by decide, by decide, by decide⟩
  | 2 => ⟨by decide, by decide, by decide, by decide, by decide, by decide⟩
  | 3 => ⟨by decide, by decide, by decide, by decide, by decide, by decide⟩
  | 4 => ⟨by decide, by decide, by decide, by decide, by decide, by decide⟩
  | _ + 5 => show St.Ok ⟨3, 7, 3, 1, 1, 2, 0⟩ from ⟨by decide, by decide, by decide, by decide, by decide, by decide⟩
theorem xst : ∀ n, n < 5 → ((xs n).state == 3) = false
  | 0, _ => rfl
  | 1, _ => rfl
  | 2, _ => rfl
  | 3, _ => rfl
  | 4, _ => rfl
  | n + 5, h => absurd h (by omega)
end Aw10
open Aw10
/-- A step leaves a fit space. -/
theorem Fit.step {k : Nat} {S : Sp} (h : Fit k S) (x : St) : Fit (k + 1) (x.step S).2.2 := by
  unfold St.step
  split
  · unfold St.claim
    split
    · exact h.claim _ _
    · split
      · exact h.claim _ _
      · exact h.claim _ _
  · split
    · exact h.put _ _ _
    · split
      · exact h.ready _ _ _
      · exact h.succ
set_option maxRecDepth 100000 in
set_option maxHeartbeats 8000000 in
theorem awake10 (w : World) : Calls Tryz.prog 60 #[] w fun e w' => e = .returned (.bool true) ∧ Keeps [] w w' := by
  go_enter Tryz.func60, Tryz.ntmps60
  go_wp2_with fail
  refine (small10 _ 2).mono ?_
  rintro e w1 ⟨rfl, hk1⟩
  have HK := Lib.hid hk1
  clear hk1
  go_wp2_with fail
  have hq : Calls Tryz.prog 50 #[.agg #[.int .i64 1, .int .i64 2, .int .i64 8, .int .i64 1, .int .i64 0, .int .i64 0]] w1 fun e w' => ∃ z F, e = .returned (.tuple #[PT z.p, .int .i64 0]) ∧ SP w1 w' z F (Sp.new c0) := sp_new w1 c0 (by decide)
  refine hq.mono ?_
  rintro e w2 ⟨z, F, rfl, hs⟩
  have HS := Lib.hid (hs.base HK.out)
  have HF : Hid (Fit 0 (Sp.new c0)) := Fit.new (c := c0) (by decide)
  clear hq hs HK
  go_wp2_with fail
  refine (sp_slots HS.out).mono ?_
  rintro e wq ⟨rfl, rfl⟩
  go_wp2_with fail
  refine (sp_slots HS.out).mono ?_
  rintro e wq ⟨rfl, rfl⟩
  go_wp2_with fail
  have hq : Calls Tryz.prog 22 #[PT z.t.q, .int .i64 0, .int .i64 5] w2 fun e w' => e = .returned (.tuple #[.int .i64 1, .int .i64 0]) ∧ Went w w2 w' z F (ss 0) := by
    have hh := sp_claim HS.out HF.out (by decide) 0 5
    rw [e0] at hh
    exact hh
  have hf1 := HF.out.claim 0 5
  rw [e0] at hf1
  replace HF := Lib.hid hf1
  clear hf1
  refine hq.mono ?_
  rintro e w3 ⟨rfl, F1, hs, hk, hn⟩
  clear hq HS
  have HS := Lib.hid hs
  clear hs hk hn
  go_wp2_with fail
  refine (st_new HS.out 3 7 (by decide) (by decide) (by decide)).mono ?_
  rintro e w4 ⟨b, rfl, hb, hlb, hk⟩
  have HB : Hid (StAt w4 z b (xs 0)) := hb
  have HL : Hid (w.heap.size ≤ b) := Nat.le_trans HS.out.keep.size hlb
  replace HS := Lib.hid (HS.out.calm hk)
  clear hk hb hlb
  go_wp2_with fail
  refine (st_new_bad z 9 7 (by decide)).mono ?_
  rintro e wq ⟨rfl, rfl⟩
  go_wp2_with fail
  go_loopw [7, 8] (fun s i wr => ∃ (n : Nat) (F' : List Nat), n ≤ 5 ∧ s = .int .i64 n ∧ i = .int .i64 n ∧ SP w wr z F' (ss n) ∧ Fit (0 + 1 + n) (ss n) ∧ StAt wr z b (xs n)) (fun s _ _ => 9 - (intOf s).toNat)
  case atStart => exact ⟨0, F1, by decide, rfl, rfl, HS.out, HF.out, HB.out⟩
  case round =>
    obtain ⟨n, F', hn, rfl, rfl, h1, h2, h3⟩ := hrel
    have R1 := Lib.hid h1
    have R2 := Lib.hid h2
    have R3 := Lib.hid h3
    clear h1 h2 h3 HS HF HB
    have n9 : (n : Int) < 9 := by omega
    by_cases hlt : n < 5
    · have hst := xst n hlt
      go_wp2_with fail
      refine (st_done R3.out).mono ?_
      rintro e wq ⟨rfl, rfl⟩
      go_wp2_with fail
      have hq : Calls Tryz.prog 64 #[PT b] wr fun e w' => e = .returned (.int .i64 1) ∧ WentB w wr w' z F' b (ss (n + 1)) ∧ StAt w' z b (xs (n + 1)) := by
        have hh := st_step R1.out R2.out (by omega) R3.out HL.out (xok n)
        rw [tr n hlt] at hh
        exact hh
      have hf1 := R2.out.step (xs n)
      rw [tr n hlt] at hf1
      have RF := Lib.hid hf1
      clear hf1 hst
      refine hq.mono ?_
      rintro e w5 ⟨rfl, ⟨F2, h4, _, _⟩, h5⟩
      have R4 := Lib.hid h4
      have R5 := Lib.hid h5
      clear h4 h5 hq
      go_wp2_with fail
      exact ⟨⟨n + 1, F2, by omega, by simp, by simp, R4.out, RF.out, R5.out⟩, by simp [intOf]; omega⟩
    · obtain rfl : n = 5 := by omega
      have hst : ((xs 5).state == 3) = true := rfl
      go_wp2_with fail
      refine (st_done R3.out).mono ?_
      rintro e wq ⟨rfl, rfl⟩
      go_wp2_with fail
      have hq : Calls Tryz.prog 141 #[PT b] wr fun e w' => e = .returned (.tuple #[.int .i64 1, .int .i64 1, .int .i64 0]) ∧ Keeps [] wr w' := st_slot R3.out
      refine hq.mono ?_
      rintro e w6 ⟨rfl, hk⟩
      replace R1 := Lib.hid (R1.out.calm hk)
      replace R3 : Hid (StAt w6 z b (xs 5)) := Blk.keeps R3.out hk (by simp)
      clear hk hq hst
      have d0 := R1.out.cells.1
      go_wp2_with fail
      have hlog : (ss 5).met.log.length ≤ 2199023255552 := by decide
      refine (sp_log R1.out hlog).mono ?_
      rintro e w7 ⟨q, rfl, hown, hk⟩
      obtain ⟨a4, a4c, rfl, ha4⟩ := own_slice (n := 6) hown (by decide)
      have LA : Hid (LocR w7 F' a4 104 6 6 a4c (logCells lg)) := ⟨own_base hown (fun _ _ => Nat.zero_le _), R1.out.fresh ha4⟩
      replace R1 := Lib.hid (R1.out.calm hk)
      replace R3 : Hid (StAt w7 z b (xs 5)) := Blk.keeps R3.out hk (by simp)
      clear hk hown ha4 hlog d0
      have x20 : w7.cell? ⟨a4, 20, none⟩ = some (.int .i64 4) := LA.out.cell rfl
      have x21 : w7.cell? ⟨a4, 21, none⟩ = some (.int .i64 2) := LA.out.cell rfl
      have hq : Calls Tryz.prog 64 #[PT b] w7 fun e w' => e = .returned (.int .i64 3) ∧ WentB w w7 w' z F' b (ss 5) ∧ StAt w' z b (xs 5) := st_step R1.out R2.out (by decide) R3.out HL.out (xok 5)
      have QH := Lib.hid hq
      clear hq
      go_wp2_with fail
      refine QH.out.mono ?_
      rintro e w8 ⟨rfl, ⟨F3, h4, hk4, _⟩, h5⟩
      have R4 := Lib.hid h4
      have y20 : w8.cell? ⟨a4, 20, none⟩ = some (.int .i64 4) := (keeps_cell hk4 (p := ⟨a4, 20, none⟩) LA.out.lt (by have h6 := LA.out.off; have h7 := ne_ty' LA.out R3.out; simp; exact ⟨h7, h6⟩)).trans x20
      have y21 : w8.cell? ⟨a4, 21, none⟩ = some (.int .i64 2) := (keeps_cell hk4 (p := ⟨a4, 21, none⟩) LA.out.lt (by have h6 := LA.out.off; have h7 := ne_ty' LA.out R3.out; simp; exact ⟨h7, h6⟩)).trans x21
      clear h4 hk4 h5 x20 x21
      go_wp2_with fail
      go_ret
      exact ⟨rfl, R4.out.keep⟩
end Go.Proofs.YtdhgiohjdhcedaaGreat
