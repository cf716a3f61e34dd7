/- A table of a nil meter, made since the world w0; and quashlaw06.awake: the document's first example. -/
import Derived.Test.YtdkbdlhfhmgenaaSlotsCl
namespace Go.Proofs.Ytdkbdlhfhmgenaa
open Go.RowKit
set_option linter.unusedVariables false
/-- The table, made since w0. -/
structure TS (w0 w : World) (t : Tb) (H : List Hd) (W : List Int) : Prop where
  tab : TabAt w t none H W
  keep : Keeps [] w0 w
  lob : w0.heap.size ≤ t.b
  loc : w0.heap.size ≤ t.c
section
variable {w0 w w' : World} {t : Tb} {H H' : List Hd} {W W' : List Int}
theorem TS.calm (h : TS w0 w t H W) (hk : Keeps [] w w') : TS w0 w' t H W := ⟨h.tab.calm hk, h.keep.trans hk (by simp), h.lob, h.loc⟩
theorem TS.far (h : TS w0 w t H W) {S : List Nat} (hk : Keeps S w w') (hS : ∀ z, z ∈ S → w0.heap.size ≤ z ∧ z ≠ t.q ∧ z ≠ t.r ∧ z ≠ t.b ∧ z ≠ t.s ∧ z ≠ t.c) : TS w0 w' t H W :=
  ⟨h.tab.keeps hk (fun q => (hS _ q).2.1 rfl) (fun q => (hS _ q).2.2.1 rfl) (fun q => (hS _ q).2.2.2.1 rfl) (fun q => (hS _ q).2.2.2.2.1 rfl) (fun q => (hS _ q).2.2.2.2.2 rfl), h.keep.trans hk (fun z hz => .inr (hS z hz).1), h.lob, h.loc⟩
theorem TS.next (h : TS w0 w t H W) {lb : Nat} {s : MS} (hl : TLeft t none H' W' lb s w w') : TS w0 w' t H' W' ∧ Keeps [t.b, t.c] w w' := by
  obtain ⟨h1, _, _, h2, _⟩ := hl
  have h3 : Keeps [t.b, t.c] w w' := h2.mono (by simp [foot])
  have hlo := h.lob
  have hlc := h.loc
  exact ⟨⟨h1, h.keep.trans h3 (fun z hz => by simp at hz; exact .inr (by omega)), h.lob, h.loc⟩, h3⟩
theorem TS.step (h : TS w0 w t H W) {f : FuncId} {args : Array Value} {v : Value} {lb : Nat} {s : MS} (hc : Calls Try.prog f args w fun e w' => e = .returned v ∧ TLeft t none H' W' lb s w w') :
    Calls Try.prog f args w fun e w' => e = .returned v ∧ TS w0 w' t H' W' ∧ Keeps [t.b, t.c] w w' := hc.mono fun e w' ⟨he, hl⟩ => ⟨he, h.next hl⟩
theorem TS.still (h : TS w0 w t H W) {f : FuncId} {args : Array Value} {v : Value} (hc : Calls Try.prog f args w fun e w' => e = .returned v ∧ Keeps [] w w') :
    Calls Try.prog f args w fun e w' => e = .returned v ∧ TS w0 w' t H W ∧ Keeps [t.b, t.c] w w' := hc.mono fun e w' ⟨he, hk⟩ => ⟨he, h.calm hk, hk.mono (by simp)⟩
theorem room0 : Room none MS.zero := fun h => absurd rfl h
theorem met0 (w : World) : MetAt MT w none 0 MS.zero := trivial
end
theorem ts_new (w0 w : World) (hk : Keeps [] w0 w) (n : Nat) (h1 : 1 ≤ n) (h2 : n ≤ 8) : Calls Try.prog 23 #[.pointer none, .int .i64 n] w fun e w' =>
    ∃ t, e = .returned (.tuple #[.pointer (some ⟨t.q, 0, none⟩), .int .i64 0]) ∧ TS w0 w' t (List.replicate n Hd.zero) (List.replicate (n * 2) 0) ∧ Keeps [] w w' ∧ w.heap.size ≤ t.b ∧ w.heap.size ≤ t.c ∧ w.heap.size ≤ t.q ∧ w.heap.size ≤ t.r ∧ w.heap.size ≤ t.s :=
  (slots_new w none n h1 h2).mono fun e w' ⟨he, h3, h4⟩ => ⟨Tb.new w.heap.size, he, ⟨h3, hk.trans h4 (by simp), hk.size, Nat.le_trans hk.size (by simp [Tb.new])⟩, h4, Nat.le_refl _, by simp [Tb.new], by simp [Tb.new], by simp [Tb.new], by simp [Tb.new]⟩

attribute [local go_sem] rd_c0 rd_c1 rd_c2 rd_c3 rd_c4 rd_c5 rd_free Option.isSome_some Option.getD_some
set_option maxHeartbeats 2000000 in
set_option maxRecDepth 100000 in
theorem awake6 (w : World) : Calls Try.prog 22 #[] w fun e w' => e = .returned (.bool true) ∧ Keeps [] w w' := by
  go_enter Try.func22, Try.ntmps22
  go_wp2_with fail
  refine (slots_new_bad _ none 9 (.inr (by decide))).mono ?_
  rintro e wa ⟨rfl, rfl⟩
  go_wp2_with fail
  refine (ts_new w w (Keeps.refl _ _) 2 (by decide) (by decide)).mono ?_
  rintro e w1 ⟨t, rfl, hs, _⟩
  have HS : Hid (TS w w1 t [Hd.zero, Hd.zero] [0, 0, 0, 0]) := hs
  clear hs
  go_wp2_with fail
  have T1 : Calls Try.prog 24 #[.pointer (some ⟨t.q, 0, none⟩), .int .i64 0, .int .i64 3] w1 fun e w' => e = .returned (.tuple #[.int .i64 1, .int .i64 0]) ∧ TS w w' t [⟨1, 1, 0, 3, false, 0⟩, Hd.zero] [0, 0, 0, 0] ∧ Keeps [t.b, t.c] w1 w' := by
    have h := HS.out.step (claim_ok w1 t none _ _ HS.out.tab 0 MS.zero (met0 _) room0 0 Hd.zero rfl 3 (by decide) (by decide) rfl)
    rw [show wrap64 (Hd.zero.gen + 1) = 1 from by simp [Hd.zero, wrap64]] at h
    exact h
  refine T1.mono ?_
  rintro e w2 ⟨rfl, hs, hk⟩
  clear HS T1
  have HS := Lib.hid hs
  clear hs hk
  go_wp2_with fail
  have T2 : Calls Try.prog 24 #[.pointer (some ⟨t.q, 0, none⟩), .int .i64 0, .int .i64 4] w2 fun e w' => e = .returned (.tuple #[.int .i64 0, .int .i64 5]) ∧ TS w w' t [⟨1, 1, 0, 3, false, 0⟩, Hd.zero] [0, 0, 0, 0] ∧ Keeps [t.b, t.c] w2 w' := by
    have h := HS.out.step (claim_held w2 t none _ _ HS.out.tab 0 MS.zero (met0 _) room0 0 ⟨1, 1, 0, 3, false, 0⟩ rfl 4 (by decide) (by decide) (by decide) (by decide))
    exact h
  refine T2.mono ?_
  rintro e w3 ⟨rfl, hs, hk⟩
  clear HS T2
  have HS := Lib.hid hs
  clear hs hk
  go_wp2_with fail
  have T3 : Calls Try.prog 25 #[.pointer (some ⟨t.q, 0, none⟩), .int .i64 0, .int .i64 2, .int .i64 9] w3 fun e w' => e = .returned (.int .i64 4) ∧ TS w w' t [⟨1, 1, 0, 3, false, 0⟩, Hd.zero] [0, 0, 0, 0] ∧ Keeps [t.b, t.c] w3 w' := by
    have h := HS.out.step (ready_no w3 t none _ _ HS.out.tab 0 MS.zero (met0 _) room0 0 ⟨1, 1, 0, 3, false, 0⟩ rfl 2 9 (by decide) (by decide) (by decide) (by decide))
    exact h
  refine T3.mono ?_
  rintro e w4 ⟨rfl, hs, hk⟩
  clear HS T3
  have HS := Lib.hid hs
  clear hs hk
  go_wp2_with fail
  have T4 : Calls Try.prog 25 #[.pointer (some ⟨t.q, 0, none⟩), .int .i64 0, .int .i64 1, .int .i64 9] w4 fun e w' => e = .returned (.int .i64 0) ∧ TS w w' t [⟨1, 2, 9, 3, false, 0⟩, Hd.zero] [0, 0, 0, 0] ∧ Keeps [t.b, t.c] w4 w' := by
    have h := HS.out.step (ready_ok w4 t none _ _ HS.out.tab 0 MS.zero (met0 _) room0 0 ⟨1, 1, 0, 3, false, 0⟩ rfl 1 9 (by decide) (by decide) (by decide))
    exact h
  refine T4.mono ?_
  rintro e w5 ⟨rfl, hs, hk⟩
  clear HS T4
  have HS := Lib.hid hs
  clear hs hk
  go_wp2_with fail
  have T5 : Calls Try.prog 26 #[.pointer (some ⟨t.q, 0, none⟩), .int .i64 0, .int .i64 1, .int .i64 5] w5 fun e w' => e = .returned (.int .i64 0) ∧ TS w w' t [⟨1, 2, 9, 3, true, 5⟩, Hd.zero] [0, 0, 0, 0] ∧ Keeps [t.b, t.c] w5 w' := by
    have h := HS.out.step (doom_new w5 t none _ _ HS.out.tab 0 MS.zero (met0 _) room0 0 ⟨1, 2, 9, 3, false, 0⟩ rfl 1 5 (by decide) (by decide) (by decide) (by decide) rfl)
    exact h
  refine T5.mono ?_
  rintro e w6 ⟨rfl, hs, hk⟩
  clear HS T5
  have HS := Lib.hid hs
  clear hs hk
  go_wp2_with fail
  have T6 : Calls Try.prog 26 #[.pointer (some ⟨t.q, 0, none⟩), .int .i64 0, .int .i64 1, .int .i64 6] w6 fun e w' => e = .returned (.int .i64 0) ∧ TS w w' t [⟨1, 2, 9, 3, true, 5⟩, Hd.zero] [0, 0, 0, 0] ∧ Keeps [t.b, t.c] w6 w' := by
    have h := HS.out.step (doom_old w6 t none _ _ HS.out.tab 0 MS.zero (met0 _) room0 0 ⟨1, 2, 9, 3, true, 5⟩ rfl 1 6 (by decide) (by decide) (by decide) (by decide) rfl)
    exact h
  refine T6.mono ?_
  rintro e w7 ⟨rfl, hs, hk⟩
  clear HS T6
  have HS := Lib.hid hs
  clear hs hk
  go_wp2_with fail
  have T7 : Calls Try.prog 29 #[.pointer (some ⟨t.q, 0, none⟩), .int .i64 0] w7 fun e w' => e = .returned (.tuple #[.agg #[.int .i64 1, .int .i64 2, .int .i64 9, .int .i64 3, .bool true, .int .i64 5], .int .i64 0]) ∧ TS w w' t [⟨1, 2, 9, 3, true, 5⟩, Hd.zero] [0, 0, 0, 0] ∧ Keeps [t.b, t.c] w7 w' := by
    have h := HS.out.step (slots_look w7 t none _ _ HS.out.tab 0 MS.zero (met0 _) room0 0 ⟨1, 2, 9, 3, true, 5⟩ rfl)
    exact h
  refine T7.mono ?_
  rintro e w8 ⟨rfl, hs, hk⟩
  clear HS T7
  have HS := Lib.hid hs
  clear hs hk
  go_wp2_with fail
  have B0 := Lib.hid (rd_new w8 ⟨1, 2, 9, 3, true, 5⟩)
  have ka : Keeps [] w8 (w8.alloc (.cells #[.int .i64 (⟨1, 2, 9, 3, true, 5⟩ : Hd).gen, .int .i64 (⟨1, 2, 9, 3, true, 5⟩ : Hd).state, .int .i64 (⟨1, 2, 9, 3, true, 5⟩ : Hd).stamp, .int .i64 (⟨1, 2, 9, 3, true, 5⟩ : Hd).thread, .bool (⟨1, 2, 9, 3, true, 5⟩ : Hd).doomed, .int .i64 (⟨1, 2, 9, 3, true, 5⟩ : Hd).who] 64)) := (Keeps.refl _ _).alloc _
  have hlt := HS.out.tab.lt
  have zb : w8.heap.size ∉ [t.b, t.c] := by simp; omega
  have ZB := Lib.hid zb
  have hs := HS.out.calm ka
  clear HS hlt zb ka
  have HS := Lib.hid hs
  clear hs
  generalize hw9 : w8.alloc (.cells #[.int .i64 1, .int .i64 2, .int .i64 9, .int .i64 3, .bool true, .int .i64 5] 64) = w9 at *
  clear hw9
  have B9 := Lib.hid (show rd w9 w8.heap.size = some ⟨1, 2, 9, 3, true, 5⟩ from B0.out)
  have T9 : Calls Try.prog 27 #[.pointer (some ⟨t.q, 0, none⟩), .int .i64 0, .int .i64 1] w9 fun e w' => e = .returned (.int .i64 0) ∧ TS w w' t [⟨1, 0, 0, 0, false, 0⟩, Hd.zero] [0, 0, 0, 0] ∧ Keeps [t.b, t.c] w9 w' := by
    have h := HS.out.step (free_ok w9 t none _ _ HS.out.tab 0 MS.zero (met0 _) room0 0 ⟨1, 2, 9, 3, true, 5⟩ rfl 1 (by decide) (by decide))
    exact h
  refine T9.mono ?_
  rintro e w10 ⟨rfl, hs, hk⟩
  clear HS T9
  have HS := Lib.hid hs
  have B10 := Lib.hid (rd_keeps B9.out hk ZB.out)
  clear hs hk
  go_wp2_with fail
  have T10 : Calls Try.prog 28 #[.pointer (some ⟨t.q, 0, none⟩), .int .i64 1, .int .i64 1, .int .u64 7] w10 fun e w' => e = .returned (.int .i64 0) ∧ TS w w' t [⟨1, 0, 0, 0, false, 0⟩, Hd.zero] [0, 0, 0, 7] ∧ Keeps [t.b, t.c] w10 w' := by
    have h := HS.out.step (slots_put w10 t none _ _ HS.out.tab 0 MS.zero (met0 _) room0 1 1 (by decide) 7)
    exact h
  refine T10.mono ?_
  rintro e w11 ⟨rfl, hs, hk⟩
  clear HS T10
  have HS := Lib.hid hs
  have B11 := Lib.hid (rd_keeps B10.out hk ZB.out)
  clear hs hk
  go_wp2_with fail
  have T11 : Calls Try.prog 30 #[.pointer (some ⟨t.q, 0, none⟩), .int .i64 1, .int .i64 1] w11 fun e w' => e = .returned (.tuple #[.int .u64 7, .int .i64 0]) ∧ TS w w' t [⟨1, 0, 0, 0, false, 0⟩, Hd.zero] [0, 0, 0, 7] ∧ Keeps [t.b, t.c] w11 w' := by
    have h := HS.out.step (slots_word w11 t none _ _ HS.out.tab 0 MS.zero (met0 _) room0 1 1 (by decide) 7 rfl)
    exact h
  refine T11.mono ?_
  rintro e w12 ⟨rfl, hs, hk⟩
  clear HS T11
  have HS := Lib.hid hs
  have B12 := Lib.hid (rd_keeps B11.out hk ZB.out)
  clear hs hk
  have QL : Calls Try.prog 35 #[.pointer (some ⟨t.q, 0, none⟩)] w12 fun e w' => e = .returned (.int .i64 2) ∧ w12 = w' := slots_len w12 t none _ _ HS.out.tab
  have QH := Lib.hid QL
  have b12 := B12.out
  clear QL
  go_wp2_with fail
  refine QH.out.mono ?_
  rintro e wc ⟨rfl, rfl⟩
  go_wp2_with fail
  go_ret
  exact ⟨rfl, HS.out.keep⟩
end Go.Proofs.Ytdkbdlhfhmgenaa
