/- Package gate: Take. -/
import Derived.Test.YtdhgiohjdhcedaaGreatGate
namespace Go.Proofs.YtdhgiohjdhcedaaGreat
open Go.RowKit
set_option linter.unusedVariables false
theorem two_of {w : World} {g : Nat} {t : TypeId} {x y : Value} (h : Blk w g t #[x, y]) : w.cell? ⟨g, 0, none⟩ = some x ∧ w.cell? ⟨g, 1, none⟩ = some y := ⟨(h.cell 0).trans rfl, (h.cell 1).trans rfl⟩
theorem far2 {w : World} {z k j : Nat} {u v : Value} (h : k ≠ z) : ((w.setCell ⟨z, 0, none⟩ u).setCell ⟨z, 1, none⟩ v).cell? ⟨k, j, none⟩ = w.cell? ⟨k, j, none⟩ :=
  World.cell?_of_block (by rw [Below.heap_setCell _ _ _ _ h, Below.heap_setCell _ _ _ _ h])
theorem af {w : World} {o : Obj} {k j : Nat} (h : k < w.heap.size) : (w.alloc o).cell? ⟨k, j, none⟩ = w.cell? ⟨k, j, none⟩ := World.cell?_of_block (Below.heap_alloc w o k h)
/-- The world behind three blocks of gates. -/
def W3 (w : World) (a b c : Gt) : World := ((w.alloc (.cells #[.int .i64 a.number, .int .i64 a.owner] 42)).alloc (.cells #[.int .i64 b.number, .int .i64 b.owner] 42)).alloc (.cells #[.int .i64 c.number, .int .i64 c.owner] 42)
theorem W3.keeps (w : World) (a b c : Gt) : Keeps [] w (W3 w a b c) := (((Keeps.refl _ _).alloc _).alloc _).alloc _
theorem W3.two (w : World) (a b c : Gt) : Blk (W3 w a b c) (w.heap.size + 1) 42 #[.int .i64 b.number, .int .i64 b.owner] := Blk.alloc (new_at _ _ _ (by simp)) _
theorem W3.three (w : World) (a b c : Gt) : Blk (W3 w a b c) (w.heap.size + 1 + 1) 42 #[.int .i64 c.number, .int .i64 c.owner] := new_at _ _ _ (by simp)
/-- The world behind a block that was written over and one more. -/
def W4 (w : World) (z : Nat) (c : Gt) : World := ((w.setCell ⟨z, 0, none⟩ (.int .i64 (-1))).setCell ⟨z, 1, none⟩ (.int .i64 0)).alloc (.cells #[.int .i64 c.number, .int .i64 c.owner] 42)
theorem W4.keeps (w : World) (z : Nat) (c : Gt) : Keeps [z] w (W4 w z c) := (((Keeps.refl [z] w).setCell (.inl (by simp)) _).setCell (.inl (by simp)) _).alloc _
theorem W4.two (w : World) (z : Nat) (c : Gt) {x y : Value} (h : Blk w z 42 #[x, y]) : Blk (W4 w z c) z 42 #[.int .i64 (-1), .int .i64 0] := by
  have h1 := ((h.set_ 0 (.int .i64 (-1))).set_ 1 (.int .i64 0)).alloc (.cells #[.int .i64 c.number, .int .i64 c.owner] 42)
  unfold W4
  simpa using h1
theorem W4.three (w : World) (z : Nat) (c : Gt) : Blk (W4 w z c) w.heap.size 42 #[.int .i64 c.number, .int .i64 c.owner] := new_at _ _ _ (by simp [World.setCell])

theorem take_bad (w : World) (q : Nat) (t : Int) (ht : t < 1 ∨ 8 < t) :
    Calls Tryz.prog 114 #[.pointer (some ⟨q, 0, none⟩), .int .i64 t] w fun e w' => e = .returned (.tuple #[.int .i64 0, .int .i64 1]) ∧ w = w' := by
  have HT := Lib.hid (isThread_no w t ht)
  go_enter Tryz.func114, Tryz.ntmps114
  go_wp2_with fail
  refine HT.out.mono ?_
  rintro e wa ⟨rfl, rfl⟩
  go_wp2_with fail
  go_ret2
  exact ⟨rfl, rfl⟩

set_option maxHeartbeats 1000000 in
theorem take_ok (w : World) (q r b : Nat) (mp : Option Nat) (g : Gt) (h : GateAt w q r b mp g) (lb : Nat) (s : MS) (hm : MetAt MT w mp lb s) (hl : Room mp s) (t : Int) (t1 : 1 ≤ t) (t2 : t ≤ 8) (n0 : 0 ≤ g.number) (n1 : g.number < 4611686018427387904) (n2 : g.number % 2 = 0) :
    Calls Tryz.prog 114 #[.pointer (some ⟨q, 0, none⟩), .int .i64 t] w fun e w' => e = .returned (.tuple #[.int .i64 (g.number + 1), .int .i64 0]) ∧ GLeft q r b mp ⟨g.number + 1, t⟩ lb (s.note 2 0 3 true) w w' := by
  have hm1 : (g.number.tmod 2 == 1) = false := by rw [Int.tmod_eq_emod_of_nonneg n0, n2]; rfl
  have hm2 : (g.number % 2 == 1) = false := by rw [n2]; rfl
  have hw1 : IntKind.i64.wrap (g.number + 1) = g.number + 1 := by rw [IntKind.wrap_i64]; omega
  have H := Lib.hid h
  have HM := Lib.hid hm
  have HL := Lib.hid hl
  have HT := Lib.hid (isThread_yes w t t1 t2)
  have hne : g ≠ ⟨-1, 0⟩ := by rintro rfl; simp at n0
  have HNE := Lib.hid hne
  clear h hm hl hne
  go_enter Tryz.func114, Tryz.ntmps114
  go_wp2_with fail
  refine HT.out.mono ?_
  rintro e wa ⟨rfl, rfl⟩
  go_wp2_with fail
  refine (gate_now w q r b mp g H.out).mono ?_
  rintro e w1 ⟨rfl, k1⟩
  have K1 := Lib.hid k1
  clear HT
  go_wp2_with fail
  have hwB : ((w1.alloc (.cells #[.int .i64 g.number, .int .i64 g.owner] 42)).alloc (.cells #[.int .i64 g.number, .int .i64 g.owner] 42)).alloc (.cells #[.int .i64 (g.number + 1), .int .i64 t] 42) = W3 w1 g g ⟨g.number + 1, t⟩ := rfl
  rw [hwB]
  have KB := Lib.hid (k1.trans (W3.keeps w1 g g ⟨g.number + 1, t⟩) (by simp))
  have W2 := Lib.hid (W3.two w1 g g ⟨g.number + 1, t⟩)
  have WN := Lib.hid (W3.three w1 g g ⟨g.number + 1, t⟩)
  clear k1 hwB
  generalize W3 w1 g g ⟨g.number + 1, t⟩ = wB at *
  simp only at WN
  have BW := Lib.hid (fun w' (hk : Keeps [] wB w') => W2.out.keeps hk (by simp))
  have BN := Lib.hid (fun w' (hk : Keeps [] wB w') => WN.out.keeps hk (by simp))
  have Z1 : Hid (w.heap.size ≤ w1.heap.size + 1) := by have := K1.out.size; unfold Hid; omega
  have Z2 : Hid (w.heap.size ≤ w1.heap.size + 1 + 1) := by have := K1.out.size; unfold Hid; omega
  have Z3 : Hid (w.heap.size ≤ wB.heap.size) := by have := KB.out.size; unfold Hid; omega
  have nq : q ≠ wB.heap.size := by have := H.out.1.lt; have := KB.out.size; omega
  have na : w1.heap.size + 1 ≠ wB.heap.size := by have := W2.out.lt; omega
  have nb : w1.heap.size + 1 + 1 ≠ wB.heap.size := by have := WN.out.lt; omega
  have QT := Lib.hid (fun w' (hk : Keeps [] wB w') => trade_held_yes (w' := w') ⟨g.number + 1, t⟩ H.out HM.out HL.out (KB.out.trans hk (by simp)))
  have HC := Lib.hid (show ∀ w', Keeps [] wB w' → w'.cell? ⟨q, 0, none⟩ = some (.pointer (some ⟨r, 0, none⟩)) ∧ w'.cell? ⟨w1.heap.size + 1, 0, none⟩ = some (.int .i64 g.number) ∧ w'.cell? ⟨w1.heap.size + 1, 1, none⟩ = some (.int .i64 g.owner) ∧ w'.cell? ⟨w1.heap.size + 1 + 1, 0, none⟩ = some (.int .i64 (g.number + 1)) ∧ w'.cell? ⟨w1.heap.size + 1 + 1, 1, none⟩ = some (.int .i64 t) from fun w' hk => ⟨((H.out.keeps (KB.out.trans hk (by simp)) (by simp) (by simp) (by simp)).1.cell 0).trans rfl, (two_of (BW.out _ hk)).1, (two_of (BW.out _ hk)).2, (two_of (BN.out _ hk)).1, (two_of (BN.out _ hk)).2⟩)
  obtain ⟨i0, i1, i2, i3, i4⟩ := HC.out _ (Keeps.refl _ _)
  go_region_held3 (fun w' => w'.cell? ⟨q, 0, none⟩ = some (.pointer (some ⟨r, 0, none⟩)) ∧ w'.cell? ⟨w1.heap.size + 1, 0, none⟩ = some (.int .i64 g.number) ∧ w'.cell? ⟨w1.heap.size + 1, 1, none⟩ = some (.int .i64 g.owner) ∧ w'.cell? ⟨w1.heap.size + 1 + 1, 0, none⟩ = some (.int .i64 (g.number + 1)) ∧ w'.cell? ⟨w1.heap.size + 1 + 1, 1, none⟩ = some (.int .i64 t)) (first | exact HC.out _ (by first | exact (Keeps.refl _ _).drew | exact (Keeps.refl _ _).drew.alloc _) | exact ⟨u0, u1, u2, u3, u4⟩ | exact ⟨(far2 nq).trans u0, (far2 na).trans u1, (far2 na).trans u2, (far2 nb).trans u3, (far2 nb).trans u4⟩ | exact ⟨(af lq).trans u0, (af ca).trans u1, (af ca).trans u2, (af cb).trans u3, (af cb).trans u4⟩ | exact ⟨(far2 (Nat.ne_of_lt lq)).trans ((af lq).trans u0), (far2 (Nat.ne_of_lt ca)).trans ((af ca).trans u1), (far2 (Nat.ne_of_lt ca)).trans ((af ca).trans u2), (far2 (Nat.ne_of_lt cb)).trans ((af cb).trans u3), (far2 (Nat.ne_of_lt cb)).trans ((af cb).trans u4)⟩ | go_keep) ((first
    | (go_at_call 200; refine (QT.out _ (show Keeps [] wB _ from (Keeps.refl _ _).drew.alloc (.cells #[.int .i64 0, .int .i64 0] 42))).mono ?_; rintro e w4 ⟨rfl, hl, hkeep, hq, hkw⟩; have HN := Lib.hid hl; have HKW := Lib.hid hkw; have u0 : w4.cell? ⟨q, 0, none⟩ = some (.pointer (some ⟨r, 0, none⟩)) := (hq.cell 0).trans rfl; have hwx := two_of (hkeep _ _ _ Z1.out (BW.out _ ((Keeps.refl _ _).drew.alloc _))); have hnx := two_of (hkeep _ _ _ Z2.out (BN.out _ ((Keeps.refl _ _).drew.alloc _))); have u1 := hwx.1; have u2 := hwx.2; have u3 := hnx.1; have u4 := hnx.2; have bz := hkeep wB.heap.size 42 #[.int .i64 0, .int .i64 0] Z3.out (new_at _ _ _ rfl); have v1 := (two_of bz).1; have v2 := (two_of bz).2; have y1 := bz.frozen 0; have y2 := bz.frozen 1; clear bz; clear hl hkw hkeep hq hwx hnx)
    | (go_at_call 200; refine (QT.out _ (show Keeps [] wB _ from (Keeps.refl _ _).drew)).mono ?_; rintro e w4 ⟨rfl, hl, hkeep, hq, hkw⟩; have HN := Lib.hid hl; have HKW := Lib.hid hkw; have u0 : w4.cell? ⟨q, 0, none⟩ = some (.pointer (some ⟨r, 0, none⟩)) := (hq.cell 0).trans rfl; have hwx := two_of (hkeep _ _ _ Z1.out (BW.out _ (Keeps.refl _ _).drew)); have hnx := two_of (hkeep _ _ _ Z2.out (BN.out _ (Keeps.refl _ _).drew)); have u1 := hwx.1; have u2 := hwx.2; have u3 := hnx.1; have u4 := hnx.2; have lq := hq.lt; have ca := (hkeep _ _ _ Z1.out (BW.out _ (Keeps.refl _ _).drew)).lt; have cb := (hkeep _ _ _ Z2.out (BN.out _ (Keeps.refl _ _).drew)).lt; clear hl hkw hkeep hq hwx hnx)))
  · have x3 : (w4.alloc (.cells #[.int .i64 g.number, .int .i64 g.owner] 42)).cell? ⟨w1.heap.size + 1 + 1, 0, none⟩ = some (.int .i64 (g.number + 1)) := (af cb).trans u3
    go_wp2_with fail
    go_ret2
    exact ⟨rfl, H.out.left HM.out HKW.out HN.out (S := []) (by simp) ((Keeps.refl _ _).alloc _)⟩
  · have x3 : ((w4.setCell ⟨wB.heap.size, 0, none⟩ (.int .i64 g.number)).setCell ⟨wB.heap.size, 1, none⟩ (.int .i64 g.owner)).cell? ⟨w1.heap.size + 1 + 1, 0, none⟩ = some (.int .i64 (g.number + 1)) := (far2 nb).trans u3
    go_wp2_with fail
    go_ret2
    exact ⟨rfl, H.out.left HM.out HKW.out HN.out (S := [wB.heap.size]) (fun z hz => by simp at hz; subst hz; exact ⟨Z3.out, .inl (by simp)⟩) (((Keeps.refl _ _).setCell (.inl (by simp)) _).setCell (.inl (by simp)) _)⟩

set_option maxHeartbeats 1000000 in
theorem take_held (w : World) (q r b : Nat) (mp : Option Nat) (g : Gt) (h : GateAt w q r b mp g) (lb : Nat) (s : MS) (hm : MetAt MT w mp lb s) (hl : Room mp s) (t : Int) (t1 : 1 ≤ t) (t2 : t ≤ 8) (n0 : 0 ≤ g.number) (n1 : g.number < 4611686018427387904) (n2 : g.number % 2 = 1) :
    Calls Tryz.prog 114 #[.pointer (some ⟨q, 0, none⟩), .int .i64 t] w fun e w' => e = .returned (.tuple #[.int .i64 0, .int .i64 5]) ∧ GLeft q r b mp g lb (s.note 2 0 3 false) w w' := by
  have hm1 : (g.number.tmod 2 == 1) = true := by rw [Int.tmod_eq_emod_of_nonneg n0, n2]; rfl
  have hm2 : (g.number % 2 == 1) = true := by rw [n2]; rfl
  have hw1 : IntKind.i64.wrap (g.number + 1) = g.number + 1 := by rw [IntKind.wrap_i64]; omega
  have H := Lib.hid h
  have HM := Lib.hid hm
  have HL := Lib.hid hl
  have HT := Lib.hid (isThread_yes w t t1 t2)
  have hne : g ≠ ⟨-1, 0⟩ := by rintro rfl; simp at n0
  have HNE := Lib.hid hne
  clear h hm hl hne
  go_enter Tryz.func114, Tryz.ntmps114
  go_wp2_with fail
  refine HT.out.mono ?_
  rintro e wa ⟨rfl, rfl⟩
  go_wp2_with fail
  refine (gate_now w q r b mp g H.out).mono ?_
  rintro e w1 ⟨rfl, k1⟩
  have K1 := Lib.hid k1
  clear HT
  have b1 := Lib.hid ((Blk.new w1 42 #[.int .i64 g.number, .int .i64 g.owner]).alloc (.cells #[.int .i64 g.number, .int .i64 g.owner] 42))
  have b2 := Lib.hid (show Blk ((w1.alloc (.cells #[.int .i64 g.number, .int .i64 g.owner] 42)).alloc (.cells #[.int .i64 g.number, .int .i64 g.owner] 42)) (w1.heap.size + 1) 42 #[.int .i64 g.number, .int .i64 g.owner] from new_at _ _ _ (by simp))
  go_wp2_with fail
  refine (gate_none _).mono ?_
  rintro e w2 ⟨rfl, k2⟩
  have c1 := b1.out.keeps k2 (by simp)
  have cw := b2.out.keeps k2 (by simp)
  have K2 := Lib.hid ((((Keeps.refl [] w1).alloc _).alloc _).trans k2 (by simp))
  have z0 := (two_of cw).1
  have z1 := (two_of cw).2
  have y0 := cw.frozen 0
  have y1 := cw.frozen 1
  have x6 : ((w2.setCell ⟨w1.heap.size + 1, 0, none⟩ (.int .i64 (-1))).setCell ⟨w1.heap.size + 1, 1, none⟩ (.int .i64 0)).cell? ⟨w1.heap.size, 0, none⟩ = some (.int .i64 g.number) := (far2 (by omega)).trans (two_of c1).1
  have CW := Lib.hid cw
  clear c1 cw k2
  go_wp2_with fail
  have hwB : ((w2.setCell ⟨w1.heap.size + 1, 0, none⟩ (.int .i64 (-1))).setCell ⟨w1.heap.size + 1, 1, none⟩ (.int .i64 0)).alloc (.cells #[.int .i64 (g.number + 1), .int .i64 t] 42) = W4 w2 (w1.heap.size + 1) ⟨g.number + 1, t⟩ := rfl
  rw [hwB]
  have KB := Lib.hid ((k1.trans K2.out (by simp)).trans (W4.keeps w2 (w1.heap.size + 1) ⟨g.number + 1, t⟩) (fun x hx => .inr (by simp at hx; subst hx; have := k1.size; omega)))
  have W2 := Lib.hid (W4.two w2 (w1.heap.size + 1) ⟨g.number + 1, t⟩ CW.out)
  have WN := Lib.hid (W4.three w2 (w1.heap.size + 1) ⟨g.number + 1, t⟩)
  clear k1 hwB x6 z0 z1 y0 y1 CW b1 b2
  generalize W4 w2 (w1.heap.size + 1) ⟨g.number + 1, t⟩ = wB at *
  simp only at WN
  have BW := Lib.hid (fun w' (hk : Keeps [] wB w') => W2.out.keeps hk (by simp))
  have BN := Lib.hid (fun w' (hk : Keeps [] wB w') => WN.out.keeps hk (by simp))
  have Z1 : Hid (w.heap.size ≤ w1.heap.size + 1) := by have := K1.out.size; unfold Hid; omega
  have Z2 : Hid (w.heap.size ≤ w2.heap.size) := by have := K1.out.size; have := K2.out.size; unfold Hid; omega
  have Z3 : Hid (w.heap.size ≤ wB.heap.size) := by have := KB.out.size; unfold Hid; omega
  have nq : q ≠ wB.heap.size := by have := H.out.1.lt; have := KB.out.size; omega
  have na : w1.heap.size + 1 ≠ wB.heap.size := by have := W2.out.lt; omega
  have nb : w2.heap.size ≠ wB.heap.size := by have := WN.out.lt; omega
  have QT := Lib.hid (fun w' (hk : Keeps [] wB w') => trade_held_not (w' := w') ⟨-1, 0⟩ ⟨g.number + 1, t⟩ H.out HM.out HL.out HNE.out (KB.out.trans hk (by simp)))
  have HC := Lib.hid (show ∀ w', Keeps [] wB w' → w'.cell? ⟨q, 0, none⟩ = some (.pointer (some ⟨r, 0, none⟩)) ∧ w'.cell? ⟨w1.heap.size + 1, 0, none⟩ = some (.int .i64 (-1)) ∧ w'.cell? ⟨w1.heap.size + 1, 1, none⟩ = some (.int .i64 0) ∧ w'.cell? ⟨w2.heap.size, 0, none⟩ = some (.int .i64 (g.number + 1)) ∧ w'.cell? ⟨w2.heap.size, 1, none⟩ = some (.int .i64 t) from fun w' hk => ⟨((H.out.keeps (KB.out.trans hk (by simp)) (by simp) (by simp) (by simp)).1.cell 0).trans rfl, (two_of (BW.out _ hk)).1, (two_of (BW.out _ hk)).2, (two_of (BN.out _ hk)).1, (two_of (BN.out _ hk)).2⟩)
  obtain ⟨i0, i1, i2, i3, i4⟩ := HC.out _ (Keeps.refl _ _)
  go_region_held3 (fun w' => w'.cell? ⟨q, 0, none⟩ = some (.pointer (some ⟨r, 0, none⟩)) ∧ w'.cell? ⟨w1.heap.size + 1, 0, none⟩ = some (.int .i64 (-1)) ∧ w'.cell? ⟨w1.heap.size + 1, 1, none⟩ = some (.int .i64 0) ∧ w'.cell? ⟨w2.heap.size, 0, none⟩ = some (.int .i64 (g.number + 1)) ∧ w'.cell? ⟨w2.heap.size, 1, none⟩ = some (.int .i64 t)) (first | exact HC.out _ (by first | exact (Keeps.refl _ _).drew | exact (Keeps.refl _ _).drew.alloc _) | exact ⟨u0, u1, u2, u3, u4⟩ | exact ⟨(far2 nq).trans u0, (far2 na).trans u1, (far2 na).trans u2, (far2 nb).trans u3, (far2 nb).trans u4⟩ | exact ⟨(af lq).trans u0, (af ca).trans u1, (af ca).trans u2, (af cb).trans u3, (af cb).trans u4⟩ | exact ⟨(far2 (Nat.ne_of_lt lq)).trans ((af lq).trans u0), (far2 (Nat.ne_of_lt ca)).trans ((af ca).trans u1), (far2 (Nat.ne_of_lt ca)).trans ((af ca).trans u2), (far2 (Nat.ne_of_lt cb)).trans ((af cb).trans u3), (far2 (Nat.ne_of_lt cb)).trans ((af cb).trans u4)⟩ | go_keep) ((first
    | (go_at_call 200; refine (QT.out _ (show Keeps [] wB _ from (Keeps.refl _ _).drew.alloc (.cells #[.int .i64 0, .int .i64 0] 42))).mono ?_; rintro e w4 ⟨rfl, hl, hkeep, hq, hkw⟩; have HN := Lib.hid hl; have HKW := Lib.hid hkw; have u0 : w4.cell? ⟨q, 0, none⟩ = some (.pointer (some ⟨r, 0, none⟩)) := (hq.cell 0).trans rfl; have hwx := two_of (hkeep _ _ _ Z1.out (BW.out _ ((Keeps.refl _ _).drew.alloc _))); have hnx := two_of (hkeep _ _ _ Z2.out (BN.out _ ((Keeps.refl _ _).drew.alloc _))); have u1 := hwx.1; have u2 := hwx.2; have u3 := hnx.1; have u4 := hnx.2; have bz := hkeep wB.heap.size 42 #[.int .i64 0, .int .i64 0] Z3.out (new_at _ _ _ rfl); have v1 := (two_of bz).1; have v2 := (two_of bz).2; have y1 := bz.frozen 0; have y2 := bz.frozen 1; clear bz; clear hl hkw hkeep hq hwx hnx)
    | (go_at_call 200; refine (QT.out _ (show Keeps [] wB _ from (Keeps.refl _ _).drew)).mono ?_; rintro e w4 ⟨rfl, hl, hkeep, hq, hkw⟩; have HN := Lib.hid hl; have HKW := Lib.hid hkw; have u0 : w4.cell? ⟨q, 0, none⟩ = some (.pointer (some ⟨r, 0, none⟩)) := (hq.cell 0).trans rfl; have hwx := two_of (hkeep _ _ _ Z1.out (BW.out _ (Keeps.refl _ _).drew)); have hnx := two_of (hkeep _ _ _ Z2.out (BN.out _ (Keeps.refl _ _).drew)); have u1 := hwx.1; have u2 := hwx.2; have u3 := hnx.1; have u4 := hnx.2; have lq := hq.lt; have ca := (hkeep _ _ _ Z1.out (BW.out _ (Keeps.refl _ _).drew)).lt; have cb := (hkeep _ _ _ Z2.out (BN.out _ (Keeps.refl _ _).drew)).lt; clear hl hkw hkeep hq hwx hnx)))
  · skip
    go_wp2_with fail
    go_ret2
    exact ⟨rfl, H.out.left HM.out HKW.out HN.out (S := []) (by simp) ((Keeps.refl _ _).alloc _)⟩
  · skip
    go_wp2_with fail
    go_ret2
    exact ⟨rfl, H.out.left HM.out HKW.out HN.out (S := [wB.heap.size]) (fun z hz => by simp at hz; subst hz; exact ⟨Z3.out, .inl (by simp)⟩) (((Keeps.refl _ _).setCell (.inl (by simp)) _).setCell (.inl (by simp)) _)⟩
end Go.Proofs.YtdhgiohjdhcedaaGreat
