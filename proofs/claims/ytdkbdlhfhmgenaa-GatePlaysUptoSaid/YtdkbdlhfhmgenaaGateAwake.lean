/- quashlaw05.awake: the document's first example. -/
import Derived.Test.YtdkbdlhfhmgenaaGateGive
namespace Go.Proofs.Ytdkbdlhfhmgenaa
open Go.RowKit
set_option linter.unusedVariables false
theorem GLeft.keep0 {q r b : Nat} {g : Gt} {lb : Nat} {s : MS} {w w' : World} (h : GLeft q r b none g lb s w w') : GateAt w' q r b none g ∧ Keeps [b] w w' := by
  obtain ⟨h1, _, _, h2, _⟩ := h
  exact ⟨h1, h2⟩
set_option maxHeartbeats 1000000 in
theorem awake5 (w : World) : Calls Try.prog 10 #[] w fun e w' => e = .returned (.bool true) ∧ Keeps [] w w' := by
  have hn : Calls Try.prog 12 #[.pointer none] w _ := gate_new w none
  have HN := Lib.hid hn
  clear hn
  go_enter Try.func10, Try.ntmps10
  go_wp2_with fail
  refine HN.out.mono ?_
  rintro e w1 ⟨rfl, h1, k1⟩
  have HZ := Lib.hid k1.size
  have H1 := Lib.hid h1
  have K1 := Lib.hid k1
  clear h1 k1
  obtain ⟨q, hq⟩ : ∃ q, w.heap.size + 2 = q := ⟨_, rfl⟩
  obtain ⟨r, hr⟩ : ∃ r, w.heap.size + 1 = r := ⟨_, rfl⟩
  obtain ⟨b, hb⟩ : ∃ b, w.heap.size = b := ⟨_, rfl⟩
  rw [hq, hr, hb] at H1
  rw [hq]
  rw [hb] at HZ
  have HBB := Lib.hid hb
  have hlt := Lib.hid H1.out.1.lt
  have hbl := Lib.hid H1.out.2.row.lt
  clear hq hr hb
  have hroom : Room none MS.zero := fun h => absurd rfl h
  have HRM := Lib.hid hroom
  clear hroom
  go_wp2_with fail
  have T1 : Calls Try.prog 14 #[.pointer (some ⟨q, 0, none⟩), .int .i64 3] w1 fun e w' => e = .returned (.tuple #[.int .i64 1, .int .i64 0]) ∧ GLeft q r b none ⟨1, 3⟩ 0 (MS.zero.note 2 0 3 true) w1 w' :=
    take_ok w1 q r b none Gt.zero H1.out 0 MS.zero trivial HRM.out 3 (by decide) (by decide) (by decide) (by decide) (by decide)
  refine T1.mono ?_
  rintro e w2 ⟨rfl, h2⟩
  have h2 := h2.keep0
  have H2 := Lib.hid h2
  clear h2 T1
  go_wp2_with fail
  have T2 : Calls Try.prog 14 #[.pointer (some ⟨q, 0, none⟩), .int .i64 2] w2 fun e w' => e = .returned (.tuple #[.int .i64 0, .int .i64 5]) ∧ GLeft q r b none ⟨1, 3⟩ 0 (MS.zero.note 2 0 3 false) w2 w' :=
    take_held w2 q r b none ⟨1, 3⟩ H2.out.1 0 MS.zero trivial HRM.out 2 (by decide) (by decide) (by decide) (by decide) (by decide)
  refine T2.mono ?_
  rintro e w3 ⟨rfl, h3⟩
  have h3 := h3.keep0
  have H3 := Lib.hid h3
  clear h3 T2
  go_wp2_with fail
  refine (gate_now w3 q r b none ⟨1, 3⟩ H3.out.1).mono ?_
  rintro e w4 ⟨rfl, k4⟩
  have k4' := k4.alloc (.cells #[.int .i64 1, .int .i64 3] 35)
  have B4 := Lib.hid (Blk.new w4 35 #[.int .i64 1, .int .i64 3])
  have N4 : Hid (w4.heap.size ≠ b) := by
    have h1 := H2.out.2.size
    have h2 := H3.out.2.size
    have h3 := k4.size
    have h4 := hbl.out
    unfold Hid; omega
  have H4 := Lib.hid (H3.out.1.keeps k4' (by simp) (by simp) (by simp))
  have K4 := Lib.hid k4'
  clear k4 k4'
  go_wp2_with fail
  refine (give_not _ q r b none ⟨1, 3⟩ H4.out 0 MS.zero trivial HRM.out 2 (by decide) (by decide) (by decide) (by decide) (by decide)).mono ?_
  rintro e w5 ⟨rfl, h5⟩
  have h5 := h5.keep0
  have H5 := Lib.hid h5
  have B5 := Lib.hid (B4.out.keeps h5.2 (by simpa using N4.out))
  clear h5
  go_wp2_with fail
  have T6 : Calls Try.prog 13 #[.pointer (some ⟨q, 0, none⟩), .int .i64 3] w5 fun e w' => e = .returned (.int .i64 0) ∧ GLeft q r b none ⟨2, 0⟩ 0 (MS.zero.note 2 0 3 true) w5 w' :=
    give_ok w5 q r b none ⟨1, 3⟩ H5.out.1 0 MS.zero trivial HRM.out 3 (by decide) (by decide) (by decide) (by decide) rfl
  refine T6.mono ?_
  rintro e w6 ⟨rfl, h6⟩
  have h6 := h6.keep0
  have H6 := Lib.hid h6
  have B6 := Lib.hid (B5.out.keeps h6.2 (by simpa using N4.out))
  clear h6 T6
  go_wp2_with fail
  refine (look_ok w6 q r b none ⟨2, 0⟩ H6.out.1 0 MS.zero trivial HRM.out).mono ?_
  rintro e w7 ⟨rfl, h7⟩
  have h7 := h7.keep0
  have H7 := Lib.hid h7
  have b7 := (B6.out.keeps h7.2 (by simpa using N4.out)).alloc (.cells #[.int .i64 2, .int .i64 0] 35)
  have x0 := (two_of b7).1
  have x1 := (two_of b7).2
  have b8 := Blk.new w7 35 #[.int .i64 2, .int .i64 0]
  have y0 := (two_of b8).1
  have y1 := (two_of b8).2
  clear h7 b7 b8
  go_wp2_with fail
  refine (take_bad _ q 9 (by decide)).mono ?_
  rintro e w8 ⟨rfl, rfl⟩
  go_wp2_with fail
  go_ret
  refine ⟨rfl, ?_⟩
  have k12 := H2.out.2.trans H3.out.2 (fun x hx => .inl hx)
  have k14 := k12.trans K4.out (by simp)
  have k15 := k14.trans H5.out.2 (fun x hx => .inl hx)
  have k16 := k15.trans H6.out.2 (fun x hx => .inl hx)
  have k17 := (k16.trans H7.out.2 (fun x hx => .inl hx)).alloc (.cells #[.int .i64 2, .int .i64 0] 35)
  exact K1.out.trans k17 (fun x hx => .inr (by simp at hx; subst hx; exact Nat.le_of_eq HBB.out))
end Go.Proofs.Ytdkbdlhfhmgenaa
