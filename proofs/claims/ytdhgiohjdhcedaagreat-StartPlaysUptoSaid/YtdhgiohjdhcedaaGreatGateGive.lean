/- Package gate: Give, Look. -/
import Derived.Test.YtdhgiohjdhcedaaGreatGateTake
namespace Go.Proofs.YtdhgiohjdhcedaaGreat
open Go.RowKit
set_option linter.unusedVariables false
/-- The world behind two blocks of gates. -/
def W2g (w : World) (a b : Gt) : World := (w.alloc (.cells #[.int .i64 a.number, .int .i64 a.owner] 42)).alloc (.cells #[.int .i64 b.number, .int .i64 b.owner] 42)
theorem W2g.keeps (w : World) (a b : Gt) : Keeps [] w (W2g w a b) := ((Keeps.refl _ _).alloc _).alloc _
theorem W2g.one (w : World) (a b : Gt) : Blk (W2g w a b) w.heap.size 42 #[.int .i64 a.number, .int .i64 a.owner] := (Blk.new _ _ _).alloc _
theorem W2g.two (w : World) (a b : Gt) : Blk (W2g w a b) (w.heap.size + 1) 42 #[.int .i64 b.number, .int .i64 b.owner] := new_at _ _ _ (by simp)
/-- The world behind a block that was written over. -/
def W4g (w : World) (z : Nat) : World := (w.setCell ⟨z, 0, none⟩ (.int .i64 (-1))).setCell ⟨z, 1, none⟩ (.int .i64 0)
theorem W4g.keeps (w : World) (z : Nat) : Keeps [z] w (W4g w z) := ((Keeps.refl [z] w).setCell (.inl (by simp)) _).setCell (.inl (by simp)) _
theorem W4g.two (w : World) (z : Nat) {x y : Value} (h : Blk w z 42 #[x, y]) : Blk (W4g w z) z 42 #[.int .i64 (-1), .int .i64 0] := by
  have h1 := (h.set_ 0 (.int .i64 (-1))).set_ 1 (.int .i64 0)
  unfold W4g
  simpa using h1
theorem W4g.one (w : World) (z k : Nat) (hk : k ≠ z) {cs : Array Value} {t : TypeId} (h : Blk w k t cs) : Blk (W4g w z) k t cs := (h.far hk _).far hk _
theorem neq_run (w : World) (n o t : Int) (ht : o ≠ t) : (Op.equalIn 10000 42 (.agg #[.int .i64 n, .int .i64 o]) (.agg #[.int .i64 n, .int .i64 t])).run Tryz.prog w = .ok false w := by
  have := RowG.eq_run w ⟨n, o⟩ ⟨n, t⟩
  rw [this, decide_eq_false (by intro e; injection e with _ e2; exact ht e2)]
theorem same_run (w : World) (n o : Int) : (Op.equalIn 10000 42 (.agg #[.int .i64 n, .int .i64 o]) (.agg #[.int .i64 n, .int .i64 o])).run Tryz.prog w = .ok true w := by
  have := RowG.eq_run w ⟨n, o⟩ ⟨n, o⟩
  rw [this, decide_eq_true rfl]

theorem give_bad (w : World) (q : Nat) (t : Int) (ht : t < 1 ∨ 8 < t) :
    Calls Tryz.prog 126 #[.pointer (some ⟨q, 0, none⟩), .int .i64 t] w fun e w' => e = .returned (.int .i64 1) ∧ w = w' := by
  have HT := Lib.hid (isThread_no w t ht)
  go_enter Tryz.func126, Tryz.ntmps126
  go_wp2_with fail
  refine HT.out.mono ?_
  rintro e wa ⟨rfl, rfl⟩
  go_wp2_with fail
  go_ret
  exact ⟨rfl, rfl⟩

set_option maxHeartbeats 1000000 in
theorem give_ok (w : World) (q r b : Nat) (mp : Option Nat) (g : Gt) (h : GateAt w q r b mp g) (lb : Nat) (s : MS) (hm : MetAt MT w mp lb s) (hl : Room mp s) (t : Int) (t1 : 1 ≤ t) (t2 : t ≤ 8) (n0 : 0 ≤ g.number) (n1 : g.number < 4611686018427387904) (ho : g.owner = t) :
    Calls Tryz.prog 126 #[.pointer (some ⟨q, 0, none⟩), .int .i64 t] w fun e w' => e = .returned (.int .i64 0) ∧ GLeft q r b mp ⟨g.number + 1, 0⟩ lb (s.note 2 0 3 true) w w' := by
  have hw1 : IntKind.i64.wrap (g.number + 1) = g.number + 1 := by rw [IntKind.wrap_i64]; omega
  have he := fun w => same_run w g.number g.owner
  have H := Lib.hid h
  have HM := Lib.hid hm
  have HL := Lib.hid hl
  have HT := Lib.hid (isThread_yes w t t1 t2)
  have hne : g ≠ ⟨-1, 0⟩ := by rintro rfl; simp at n0
  have HNE := Lib.hid hne
  clear h hm hl hne
  subst ho
  go_enter Tryz.func126, Tryz.ntmps126
  go_wp2_with fail
  refine HT.out.mono ?_
  rintro e wa ⟨rfl, rfl⟩
  go_wp2_with fail
  refine (gate_now w q r b mp g H.out).mono ?_
  rintro e w1 ⟨rfl, k1⟩
  have K1 := Lib.hid k1
  clear HT
  go_wp2_with fail
  have hwB : (w1.alloc (.cells #[.int .i64 g.number, .int .i64 g.owner] 42)).alloc (.cells #[.int .i64 g.number, .int .i64 g.owner] 42) = W2g w1 g g := rfl
  rw [hwB]
  have KB := Lib.hid (k1.trans (W2g.keeps w1 g g) (by simp))
  have W2 := Lib.hid (W2g.two w1 g g)
  have WN := Lib.hid (W2g.one w1 g g)
  clear k1 hwB
  generalize W2g w1 g g = wB at *
  have BW := Lib.hid (fun w' (hk : Keeps [] wB w') => W2.out.keeps hk (by simp))
  have BN := Lib.hid (fun w' (hk : Keeps [] wB w') => WN.out.keeps hk (by simp))
  have Z1 : Hid (w.heap.size ≤ w1.heap.size + 1) := by have := K1.out.size; unfold Hid; omega
  have Z2 : Hid (w.heap.size ≤ w1.heap.size) := K1.out.size
  have Z3 : Hid (w.heap.size ≤ wB.heap.size) := by have := KB.out.size; unfold Hid; omega
  have nq : q ≠ wB.heap.size := by have := H.out.1.lt; have := KB.out.size; omega
  have na : w1.heap.size + 1 ≠ wB.heap.size := by have := W2.out.lt; omega
  have nb : w1.heap.size ≠ wB.heap.size := by have := WN.out.lt; omega
  have QT := Lib.hid (fun w' (hk : Keeps [] wB w') => trade_held_yes (w' := w') ⟨g.number + 1, 0⟩ H.out HM.out HL.out (KB.out.trans hk (by simp)))
  have HC := Lib.hid (show ∀ w', Keeps [] wB w' → w'.cell? ⟨q, 0, none⟩ = some (.pointer (some ⟨r, 0, none⟩)) ∧ w'.cell? ⟨w1.heap.size + 1, 0, none⟩ = some (.int .i64 g.number) ∧ w'.cell? ⟨w1.heap.size + 1, 1, none⟩ = some (.int .i64 g.owner) ∧ w'.cell? ⟨w1.heap.size, 0, none⟩ = some (.int .i64 g.number) ∧ w'.cell? ⟨w1.heap.size, 1, none⟩ = some (.int .i64 g.owner) from fun w' hk => ⟨((H.out.keeps (KB.out.trans hk (by simp)) (by simp) (by simp) (by simp)).1.cell 0).trans rfl, (two_of (BW.out _ hk)).1, (two_of (BW.out _ hk)).2, (two_of (BN.out _ hk)).1, (two_of (BN.out _ hk)).2⟩)
  obtain ⟨i0, i1, i2, i3, i4⟩ := HC.out _ (Keeps.refl _ _)
  go_region_held3 (fun w' => w'.cell? ⟨q, 0, none⟩ = some (.pointer (some ⟨r, 0, none⟩)) ∧ w'.cell? ⟨w1.heap.size + 1, 0, none⟩ = some (.int .i64 g.number) ∧ w'.cell? ⟨w1.heap.size + 1, 1, none⟩ = some (.int .i64 g.owner) ∧ w'.cell? ⟨w1.heap.size, 0, none⟩ = some (.int .i64 g.number) ∧ w'.cell? ⟨w1.heap.size, 1, none⟩ = some (.int .i64 g.owner)) (first | exact HC.out _ (by first | exact (Keeps.refl _ _).drew | exact (Keeps.refl _ _).drew.alloc _) | exact ⟨u0, u1, u2, u3, u4⟩ | exact ⟨(far2 nq).trans u0, (far2 na).trans u1, (far2 na).trans u2, (far2 nb).trans u3, (far2 nb).trans u4⟩ | exact ⟨(af lq).trans u0, (af ca).trans u1, (af ca).trans u2, (af cb).trans u3, (af cb).trans u4⟩ | exact ⟨(far2 (Nat.ne_of_lt lq)).trans ((af lq).trans u0), (far2 (Nat.ne_of_lt ca)).trans ((af ca).trans u1), (far2 (Nat.ne_of_lt ca)).trans ((af ca).trans u2), (far2 (Nat.ne_of_lt cb)).trans ((af cb).trans u3), (far2 (Nat.ne_of_lt cb)).trans ((af cb).trans u4)⟩ | go_keep) ((first
    | (go_at_call 200; refine (QT.out _ (show Keeps [] wB _ from (Keeps.refl _ _).drew.alloc (.cells #[.int .i64 0, .int .i64 0] 42))).mono ?_; rintro e w4 ⟨rfl, hl, hkeep, hq, hkw⟩; have HN := Lib.hid hl; have HKW := Lib.hid hkw; have u0 : w4.cell? ⟨q, 0, none⟩ = some (.pointer (some ⟨r, 0, none⟩)) := (hq.cell 0).trans rfl; have hwx := two_of (hkeep _ _ _ Z1.out (BW.out _ ((Keeps.refl _ _).drew.alloc _))); have hnx := two_of (hkeep _ _ _ Z2.out (BN.out _ ((Keeps.refl _ _).drew.alloc _))); have u1 := hwx.1; have u2 := hwx.2; have u3 := hnx.1; have u4 := hnx.2; have bz := hkeep wB.heap.size 42 #[.int .i64 0, .int .i64 0] Z3.out (new_at _ _ _ rfl); have v1 := (two_of bz).1; have v2 := (two_of bz).2; have y1 := bz.frozen 0; have y2 := bz.frozen 1; clear bz; clear hl hkw hkeep hq hwx hnx)
    | (go_at_call 200; refine (QT.out _ (show Keeps [] wB _ from (Keeps.refl _ _).drew)).mono ?_; rintro e w4 ⟨rfl, hl, hkeep, hq, hkw⟩; have HN := Lib.hid hl; have HKW := Lib.hid hkw; have u0 : w4.cell? ⟨q, 0, none⟩ = some (.pointer (some ⟨r, 0, none⟩)) := (hq.cell 0).trans rfl; have hwx := two_of (hkeep _ _ _ Z1.out (BW.out _ (Keeps.refl _ _).drew)); have hnx := two_of (hkeep _ _ _ Z2.out (BN.out _ (Keeps.refl _ _).drew)); have u1 := hwx.1; have u2 := hwx.2; have u3 := hnx.1; have u4 := hnx.2; have lq := hq.lt; have ca := (hkeep _ _ _ Z1.out (BW.out _ (Keeps.refl _ _).drew)).lt; have cb := (hkeep _ _ _ Z2.out (BN.out _ (Keeps.refl _ _).drew)).lt; clear hl hkw hkeep hq hwx hnx)))
  · go_wp2_with fail
    go_ret
    exact ⟨rfl, H.out.left HM.out HKW.out HN.out (S := []) (by simp) ((Keeps.refl _ _).alloc _)⟩
  · go_wp2_with fail
    go_ret
    exact ⟨rfl, H.out.left HM.out HKW.out HN.out (S := [wB.heap.size]) (fun z hz => by simp at hz; subst hz; exact ⟨Z3.out, .inl (by simp)⟩) (((Keeps.refl _ _).setCell (.inl (by simp)) _).setCell (.inl (by simp)) _)⟩

set_option maxHeartbeats 1000000 in
theorem give_not (w : World) (q r b : Nat) (mp : Option Nat) (g : Gt) (h : GateAt w q r b mp g) (lb : Nat) (s : MS) (hm : MetAt MT w mp lb s) (hl : Room mp s) (t : Int) (t1 : 1 ≤ t) (t2 : t ≤ 8) (n0 : 0 ≤ g.number) (n1 : g.number < 4611686018427387904) (ho : g.owner ≠ t) :
    Calls Tryz.prog 126 #[.pointer (some ⟨q, 0, none⟩), .int .i64 t] w fun e w' => e = .returned (.int .i64 4) ∧ GLeft q r b mp g lb (s.note 2 0 3 false) w w' := by
  have hw1 : IntKind.i64.wrap (g.number + 1) = g.number + 1 := by rw [IntKind.wrap_i64]; omega
  have he := fun w => neq_run w g.number g.owner t ho
  have H := Lib.hid h
  have HM := Lib.hid hm
  have HL := Lib.hid hl
  have HT := Lib.hid (isThread_yes w t t1 t2)
  have hne : g ≠ ⟨-1, 0⟩ := by rintro rfl; simp at n0
  have HNE := Lib.hid hne
  clear h hm hl hne
  have HO := Lib.hid ho; clear ho
  go_enter Tryz.func126, Tryz.ntmps126
  go_wp2_with fail
  refine HT.out.mono ?_
  rintro e wa ⟨rfl, rfl⟩
  go_wp2_with fail
  refine (gate_now w q r b mp g H.out).mono ?_
  rintro e w1 ⟨rfl, k1⟩
  have K1 := Lib.hid k1
  clear HT
  have b1 := Lib.hid ((Blk.new w1 42 #[.int .i64 g.number, .int .i64 g.owner]).alloc (.cells #[.int .i64 g.number, .int .i64 g.owner] 42))
  have b2 := Lib.hid (show Blk ((w1.alloc (.cells #[.int .i64 g.number, .int .i64 g.owner] 42)).alloc (.cells #[.int .i64 g.number, .int .i64 g.owner] 42)) (w1.heap.size + 1) 42 #[.int .i64 g.number, .int .i64 g.owner] from new_at _ _ _ (by simp))
  go_wp2_with fail
  refine (gate_none _).mono ?_
  rintro e w2 ⟨rfl, k2⟩
  have c1 := b1.out.keeps k2 (by simp)
  have cw := b2.out.keeps k2 (by simp)
  have K2 := Lib.hid ((((Keeps.refl [] w1).alloc _).alloc _).trans k2 (by simp))
  have z0 := (two_of cw).1
  have z1 := (two_of cw).2
  have y0 := cw.frozen 0
  have y1 := cw.frozen 1
  have CW := Lib.hid cw
  have C1 := Lib.hid c1
  clear c1 cw k2
  go_wp2_with fail
  have hwB : (w2.setCell ⟨w1.heap.size + 1, 0, none⟩ (.int .i64 (-1))).setCell ⟨w1.heap.size + 1, 1, none⟩ (.int .i64 0) = W4g w2 (w1.heap.size + 1) := rfl
  rw [hwB]
  have KB := Lib.hid ((k1.trans K2.out (by simp)).trans (W4g.keeps w2 (w1.heap.size + 1)) (fun x hx => .inr (by simp at hx; subst hx; have := k1.size; omega)))
  have W2 := Lib.hid (W4g.two w2 (w1.heap.size + 1) CW.out)
  have WN := Lib.hid (W4g.one w2 (w1.heap.size + 1) w1.heap.size (by omega) C1.out)
  clear k1 hwB z0 z1 y0 y1 CW C1 b1 b2
  generalize W4g w2 (w1.heap.size + 1) = wB at *
  have BW := Lib.hid (fun w' (hk : Keeps [] wB w') => W2.out.keeps hk (by simp))
  have BN := Lib.hid (fun w' (hk : Keeps [] wB w') => WN.out.keeps hk (by simp))
  have Z1 : Hid (w.heap.size ≤ w1.heap.size + 1) := by have := K1.out.size; unfold Hid; omega
  have Z2 : Hid (w.heap.size ≤ w1.heap.size) := K1.out.size
  have Z3 : Hid (w.heap.size ≤ wB.heap.size) := by have := KB.out.size; unfold Hid; omega
  have nq : q ≠ wB.heap.size := by have := H.out.1.lt; have := KB.out.size; omega
  have na : w1.heap.size + 1 ≠ wB.heap.size := by have := W2.out.lt; omega
  have nb : w1.heap.size ≠ wB.heap.size := by have := WN.out.lt; omega
  have QT := Lib.hid (fun w' (hk : Keeps [] wB w') => trade_held_not (w' := w') ⟨-1, 0⟩ ⟨g.number + 1, 0⟩ H.out HM.out HL.out HNE.out (KB.out.trans hk (by simp)))
  have HC := Lib.hid (show ∀ w', Keeps [] wB w' → w'.cell? ⟨q, 0, none⟩ = some (.pointer (some ⟨r, 0, none⟩)) ∧ w'.cell? ⟨w1.heap.size + 1, 0, none⟩ = some (.int .i64 (-1)) ∧ w'.cell? ⟨w1.heap.size + 1, 1, none⟩ = some (.int .i64 0) ∧ w'.cell? ⟨w1.heap.size, 0, none⟩ = some (.int .i64 g.number) ∧ w'.cell? ⟨w1.heap.size, 1, none⟩ = some (.int .i64 g.owner) from fun w' hk => ⟨((H.out.keeps (KB.out.trans hk (by simp)) (by simp) (by simp) (by simp)).1.cell 0).trans rfl, (two_of (BW.out _ hk)).1, (two_of (BW.out _ hk)).2, (two_of (BN.out _ hk)).1, (two_of (BN.out _ hk)).2⟩)
  obtain ⟨i0, i1, i2, i3, i4⟩ := HC.out _ (Keeps.refl _ _)
  go_region_held3 (fun w' => w'.cell? ⟨q, 0, none⟩ = some (.pointer (some ⟨r, 0, none⟩)) ∧ w'.cell? ⟨w1.heap.size + 1, 0, none⟩ = some (.int .i64 (-1)) ∧ w'.cell? ⟨w1.heap.size + 1, 1, none⟩ = some (.int .i64 0) ∧ w'.cell? ⟨w1.heap.size, 0, none⟩ = some (.int .i64 g.number) ∧ w'.cell? ⟨w1.heap.size, 1, none⟩ = some (.int .i64 g.owner)) (first | exact HC.out _ (by first | exact (Keeps.refl _ _).drew | exact (Keeps.refl _ _).drew.alloc _) | exact ⟨u0, u1, u2, u3, u4⟩ | exact ⟨(far2 nq).trans u0, (far2 na).trans u1, (far2 na).trans u2, (far2 nb).trans u3, (far2 nb).trans u4⟩ | exact ⟨(af lq).trans u0, (af ca).trans u1, (af ca).trans u2, (af cb).trans u3, (af cb).trans u4⟩ | exact ⟨(far2 (Nat.ne_of_lt lq)).trans ((af lq).trans u0), (far2 (Nat.ne_of_lt ca)).trans ((af ca).trans u1), (far2 (Nat.ne_of_lt ca)).trans ((af ca).trans u2), (far2 (Nat.ne_of_lt cb)).trans ((af cb).trans u3), (far2 (Nat.ne_of_lt cb)).trans ((af cb).trans u4)⟩ | go_keep) ((first
    | (go_at_call 200; refine (QT.out _ (show Keeps [] wB _ from (Keeps.refl _ _).drew.alloc (.cells #[.int .i64 0, .int .i64 0] 42))).mono ?_; rintro e w4 ⟨rfl, hl, hkeep, hq, hkw⟩; have HN := Lib.hid hl; have HKW := Lib.hid hkw; have u0 : w4.cell? ⟨q, 0, none⟩ = some (.pointer (some ⟨r, 0, none⟩)) := (hq.cell 0).trans rfl; have hwx := two_of (hkeep _ _ _ Z1.out (BW.out _ ((Keeps.refl _ _).drew.alloc _))); have hnx := two_of (hkeep _ _ _ Z2.out (BN.out _ ((Keeps.refl _ _).drew.alloc _))); have u1 := hwx.1; have u2 := hwx.2; have u3 := hnx.1; have u4 := hnx.2; have bz := hkeep wB.heap.size 42 #[.int .i64 0, .int .i64 0] Z3.out (new_at _ _ _ rfl); have v1 := (two_of bz).1; have v2 := (two_of bz).2; have y1 := bz.frozen 0; have y2 := bz.frozen 1; clear bz; clear hl hkw hkeep hq hwx hnx)
    | (go_at_call 200; refine (QT.out _ (show Keeps [] wB _ from (Keeps.refl _ _).drew)).mono ?_; rintro e w4 ⟨rfl, hl, hkeep, hq, hkw⟩; have HN := Lib.hid hl; have HKW := Lib.hid hkw; have u0 : w4.cell? ⟨q, 0, none⟩ = some (.pointer (some ⟨r, 0, none⟩)) := (hq.cell 0).trans rfl; have hwx := two_of (hkeep _ _ _ Z1.out (BW.out _ (Keeps.refl _ _).drew)); have hnx := two_of (hkeep _ _ _ Z2.out (BN.out _ (Keeps.refl _ _).drew)); have u1 := hwx.1; have u2 := hwx.2; have u3 := hnx.1; have u4 := hnx.2; have lq := hq.lt; have ca := (hkeep _ _ _ Z1.out (BW.out _ (Keeps.refl _ _).drew)).lt; have cb := (hkeep _ _ _ Z2.out (BN.out _ (Keeps.refl _ _).drew)).lt; clear hl hkw hkeep hq hwx hnx)))
  · go_wp2_with fail
    go_ret
    exact ⟨rfl, H.out.left HM.out HKW.out HN.out (S := []) (by simp) ((Keeps.refl _ _).alloc _)⟩
  · go_wp2_with fail
    go_ret
    exact ⟨rfl, H.out.left HM.out HKW.out HN.out (S := [wB.heap.size]) (fun z hz => by simp at hz; subst hz; exact ⟨Z3.out, .inl (by simp)⟩) (((Keeps.refl _ _).setCell (.inl (by simp)) _).setCell (.inl (by simp)) _)⟩

theorem look_ok (w : World) (q r b : Nat) (mp : Option Nat) (g : Gt) (h : GateAt w q r b mp g) (lb : Nat) (s : MS) (hm : MetAt MT w mp lb s) (hl : Room mp s) :
    Calls Tryz.prog 231 #[.pointer (some ⟨q, 0, none⟩)] w fun e w' => e = .returned (.agg #[.int .i64 g.number, .int .i64 g.owner]) ∧ GLeft q r b mp g lb (s.note 2 0 1 true) w w' := by
  have k0 : Keeps [] w (w.alloc (.cells #[.int .i64 0, .int .i64 0] 42)) := (Keeps.refl _ _).alloc _
  have c0 : (w.alloc (.cells #[.int .i64 0, .int .i64 0] 42)).cell? ⟨q, 0, none⟩ = some (.pointer (some ⟨r, 0, none⟩)) := ((h.1.keeps k0 (by simp)).cell 0).trans rfl
  have bZ := Lib.hid (Blk.new w 42 #[.int .i64 0, .int .i64 0])
  have HLD := Lib.hid (load0 _ r b 2 mp g (h.2.keeps k0 (by simp) (by simp)) lb s (hm.keeps k0 (by simp)) hl)
  have K0 := Lib.hid k0
  have H := Lib.hid h
  have HM := Lib.hid hm
  clear h k0 hm hl
  go_enter Tryz.func231, Tryz.ntmps231
  go_wp2_with fail
  refine HLD.out.mono ?_
  rintro e w1 ⟨rfl, hL⟩
  have bz := kept_left H.out HM.out hL bZ.out (Nat.le_refl _)
  have HN := Lib.hid hL
  have bz2 := bz.alloc (.cells #[.int .i64 g.number, .int .i64 g.owner] 42)
  have z0 := (two_of bz2).1
  have z1 := (two_of bz2).2
  have y0 := bz2.frozen 0
  have y1 := bz2.frozen 1
  have ZL := Lib.hid bz.lt
  clear bz bz2 hL c0
  go_wp2_with fail
  refine bodyPost_ret (v := .agg #[.int .i64 g.number, .int .i64 g.owner]) (by simp [results, Tryz.results231, go_sem, z0, z1]) rfl ⟨rfl, ?_⟩
  refine H.out.left HM.out K0.out HN.out (S := [w.heap.size]) (fun z hz => by simp at hz; subst hz; exact ⟨Nat.le_refl _, .inl (by simp)⟩) ?_
  exact ((((Keeps.refl _ _).alloc _).setCell (.inl (by simp)) _).setCell (.inl (by simp)) _)
end Go.Proofs.YtdhgiohjdhcedaaGreat
