/- SigBack -/
import Derived.Test.YtlpgcfgnimchaaaDoorRows
import Derived.Test.YtlpgcfgnimchaaaDoorSigAwake
import Derived.Test.YtlpgcfgnimchaaaDoorSigBackP
import Derived.Deep.RegionHeld3
import Derived.Test.YtlpgcfgnimchaaaDoorCards
import Derived.Test.YtlpgcfgnimchaaaDoorTie
import Derived.Deep.DeepHandedRow
import Derived.Lib.LaidTab
import Derived.WalkKit
import Derived.ProofKit
import Derived.OpenShut
import Derived.ShutString
import Derived.ChangeOld
import Derived.Below
import Derived.Carry
namespace Go.Proofs.YtlpgcfgnimchaaaDoor.sigBack
open Go.ChangeShapes Go.WideShapes Go.ChangeAt Go.RowKit
set_option linter.unusedVariables false


theorem two_cells {w : World} {g : Nat} {t : TypeId} {x y : Value} (h : Blk w g t #[x, y]) : w.cell? ⟨g, 0, none⟩ = some x ∧ w.cell? ⟨g, 1, none⟩ = some y := ⟨(h.cell 0).trans rfl, (h.cell 1).trans rfl⟩
theorem wrap_small (n : Nat) (h : n ≤ 128) : IntKind.i64.wrap (n : Int) = n := by rw [IntKind.wrap_i64]; omega
set_option maxRecDepth 100000 in
set_option maxHeartbeats 4000000 in
theorem walk (a b : Sg) (W : World) (hT : Tab W) (ha : a.ok) (hb : b.ok) :
    Calls Tryd.prog 8 #[.agg #[.int .u64 (a.a : Int), .int .u64 (a.b : Int)], .agg #[.int .u64 (b.a : Int), .int .u64 (b.b : Int)]] W fun e w' => e = .returned (.bool true) ∧ Below W.heap.size W w' := by
  obtain ⟨l1, l2, l3, l4⟩ := back_law a b ha hb
  obtain ⟨fr, fe⟩ := from_bits a ha
  have n1 := cnt_meet a b ha hb
  have n2 := cnt_join a b ha hb
  have q1 := fun w (h : Tab w) => bits_any w h a ha
  have q2 := fun w A c (h : Slc w A (bitsL a)) => from_any w A c _ h
  simp only [fr, fe] at q2
  have okm := Sg.meet_ok (t := b) ha
  have okd := Sg.minus_ok (t := b) ha
  have okj := Sg.join_ok ha hb
  have hlen : (bitsL a).length ≤ 128 := part_len a ha 2
  have q3 := fun w => meet_any w a b ha hb
  have q4 := fun w => minus_any w a b ha hb
  have q5 := fun w => join_any w (a.meet b) (a.minus b) okm okd
  have q6 := fun w => meets_any w (a.minus b) b okd hb
  have q7 := fun w => within_any w (a.meet b) b okm hb
  have q8 := fun w => within_any w (a.meet b) a okm ha
  have c1 := fun w (s : Sg) (h : s.ok) => count_any w s h
  have c6 := fun w => join_any w a b ha hb
  have p1 := fun w => meets_any w a b ha hb
  have p2 := fun w => within_any w a b ha hb
  have z1 := fun w => sig_zero w (a.meet b)
  have z2 := fun w => sig_zero w (a.minus b)
  have se := fun w => sig_same w (a.a : Int) (a.b : Int)
  have v1 := cnt_le (a.meet b)
  have v2 := cnt_le (a.minus b)
  have v3 := cnt_le a
  have v4 := cnt_le b
  have v5 := cnt_le (a.join b)
  rw [l1] at q5
  rw [l2] at q6
  rw [l3] at q7
  rw [l4] at q8
  generalize a.meet b = m at *
  generalize a.minus b = d at *
  generalize a.join b = j at *
  generalize m.none = bm at *
  generalize d.none = bd at *
  generalize bitsL a = L at *
  have n1 : ((cnt m : Nat) : Int) + ((cnt d : Nat) : Int) = ((cnt a : Nat) : Int) := by omega
  have n2 : ((cnt d : Nat) : Int) + ((cnt b : Nat) : Int) = ((cnt j : Nat) : Int) := by omega
  unfold Sg.val at q1 q2 q3 q4 q5 q6 q7 q8 c1 c6 p1 p2
  have Q1 := Lib.hid q1
  have Q2 := Lib.hid q2
  have Q3 := Lib.hid q3
  have Q4 := Lib.hid q4
  have Q5 := Lib.hid q5
  have Q6 := Lib.hid q6
  have Q7 := Lib.hid q7
  have Q8 := Lib.hid q8
  have C1 := Lib.hid c1
  have C6 := Lib.hid c6
  have P1 := Lib.hid p1
  have P2 := Lib.hid p2
  have N1 := Lib.hid n1
  have N2 := Lib.hid n2
  have HLEN := Lib.hid hlen
  clear q1 q2 q3 q4 q5 q6 q7 q8 c1 c6 p1 p2 n1 n2 hlen l1 l2 l3 l4 fr fe
  go_enter Tryd.func8, Tryd.ntmps8
  go_wp2_with fail
  refine (awake_any _ ((hT.keeps ((Keeps.refl [] W).alloc _)).keeps ((Keeps.refl [] _).alloc _))).mono ?_
  rintro e w1 ⟨rfl, k1⟩
  have bA := Lib.hid (((Blk.new W 31 #[.int .u64 (a.a : Int), .int .u64 (a.b : Int)]).alloc (.cells #[.int .u64 (b.a : Int), .int .u64 (b.b : Int)] 31)).keeps k1 (by simp))
  have bB := Lib.hid ((Blk.new (W.alloc (.cells #[.int .u64 (a.a : Int), .int .u64 (a.b : Int)] 31)) 31 #[.int .u64 (b.a : Int), .int .u64 (b.b : Int)]).keeps k1 (by simp))
  rw [World.size_alloc] at bB
  have K1 := Lib.hid ((((Keeps.refl [] W).alloc _).alloc _).trans k1 (by simp))
  have T1 := Lib.hid (hT.keeps K1.out)
  clear k1
  obtain ⟨a0, a1⟩ := two_cells bA.out
  obtain ⟨b0, b1⟩ := two_cells bB.out
  go_wp2_with fail
  refine (Q1.out _ T1.out).mono ?_
  rintro e w2 ⟨v, rfl, hrow⟩
  obtain ⟨A2, c2, rfl, _, hS2⟩ := Slc.of_own hrow.1 (by have := HLEN.out; unfold maxLen; omega)
  have S2 := Lib.hid hS2
  have k2 := Lib.hid hrow.2
  clear hS2 hrow
  go_wp2_with fail
  refine (Q2.out _ _ _ S2.out).mono ?_
  rintro e w3 ⟨rfl, k3⟩
  have k' := (k2.out.trans k3 (by simp)).alloc (.cells #[.int .u64 (a.a : Int), .int .u64 (a.b : Int)] 31)
  have bS := Lib.hid (Blk.new w3 31 #[.int .u64 (a.a : Int), .int .u64 (a.b : Int)])
  have bA := Lib.hid (bA.out.keeps k' (by simp))
  have bB := Lib.hid (bB.out.keeps k' (by simp))
  have K3 := Lib.hid (K1.out.trans k' (by simp))
  clear k' k3 k2 S2 a0 a1 b0 b1
  obtain ⟨a0, a1⟩ := two_cells bA.out
  obtain ⟨b0, b1⟩ := two_cells bB.out
  go_wp2_with fail
  refine (Q3.out _).mono ?_
  rintro e w4 ⟨rfl, k⟩
  have k' := k.alloc (.cells #[.int .u64 (m.a : Int), .int .u64 (m.b : Int)] 31)
  have bM := Lib.hid (Blk.new w4 31 #[.int .u64 (m.a : Int), .int .u64 (m.b : Int)])
  have bS := Lib.hid (bS.out.keeps k' (by simp))
  have bA := Lib.hid (bA.out.keeps k' (by simp))
  have bB := Lib.hid (bB.out.keeps k' (by simp))
  have K4 := Lib.hid (K3.out.trans k' (by simp))
  clear k k' a0 a1 b0 b1
  obtain ⟨a0, a1⟩ := two_cells bA.out
  obtain ⟨b0, b1⟩ := two_cells bB.out
  obtain ⟨m0, m1⟩ := two_cells bM.out
  go_wp2_with fail
  refine (Q4.out _).mono ?_
  rintro e w5 ⟨rfl, k⟩
  have k' := k.alloc (.cells #[.int .u64 (d.a : Int), .int .u64 (d.b : Int)] 31)
  have bD := Lib.hid (Blk.new w5 31 #[.int .u64 (d.a : Int), .int .u64 (d.b : Int)])
  have bS := Lib.hid (bS.out.keeps k' (by simp))
  have bA := Lib.hid (bA.out.keeps k' (by simp))
  have bB := Lib.hid (bB.out.keeps k' (by simp))
  have bM := Lib.hid (bM.out.keeps k' (by simp))
  have K5 := Lib.hid (K4.out.trans k' (by simp))
  clear k k' a0 a1 b0 b1 m0 m1
  obtain ⟨a0, a1⟩ := two_cells bA.out
  obtain ⟨b0, b1⟩ := two_cells bB.out
  obtain ⟨m0, m1⟩ := two_cells bM.out
  obtain ⟨d0, d1⟩ := two_cells bD.out
  go_wp2_with fail
  refine (Q5.out _).mono ?_
  rintro e w6 ⟨rfl, k⟩
  have k' := k.alloc (.cells #[.int .u64 (a.a : Int), .int .u64 (a.b : Int)] 31)
  have bP := Lib.hid (Blk.new w6 31 #[.int .u64 (a.a : Int), .int .u64 (a.b : Int)])
  have bS := Lib.hid (bS.out.keeps k' (by simp))
  have bA := Lib.hid (bA.out.keeps k' (by simp))
  have bB := Lib.hid (bB.out.keeps k' (by simp))
  have bM := Lib.hid (bM.out.keeps k' (by simp))
  have bD := Lib.hid (bD.out.keeps k' (by simp))
  have K6 := Lib.hid (K5.out.trans k' (by simp))
  clear k k' a0 a1 b0 b1 m0 m1 d0 d1
  obtain ⟨a0, a1⟩ := two_cells bA.out
  obtain ⟨b0, b1⟩ := two_cells bB.out
  obtain ⟨m0, m1⟩ := two_cells bM.out
  obtain ⟨d0, d1⟩ := two_cells bD.out
  go_wp2_with fail
  refine (Q6.out _).mono ?_
  rintro e w7 ⟨rfl, k⟩
  have bS := Lib.hid (bS.out.keeps k (by simp))
  have bA := Lib.hid (bA.out.keeps k (by simp))
  have bB := Lib.hid (bB.out.keeps k (by simp))
  have bM := Lib.hid (bM.out.keeps k (by simp))
  have bD := Lib.hid (bD.out.keeps k (by simp))
  have bP := Lib.hid (bP.out.keeps k (by simp))
  have K7 := Lib.hid (K6.out.trans k (by simp))
  clear k a0 a1 b0 b1 m0 m1 d0 d1
  obtain ⟨a0, a1⟩ := two_cells bA.out
  obtain ⟨b0, b1⟩ := two_cells bB.out
  obtain ⟨m0, m1⟩ := two_cells bM.out
  obtain ⟨d0, d1⟩ := two_cells bD.out
  go_wp2_with fail
  refine (Q7.out _).mono ?_
  rintro e w8 ⟨rfl, k⟩
  have bS := Lib.hid (bS.out.keeps k (by simp))
  have bA := Lib.hid (bA.out.keeps k (by simp))
  have bB := Lib.hid (bB.out.keeps k (by simp))
  have bM := Lib.hid (bM.out.keeps k (by simp))
  have bD := Lib.hid (bD.out.keeps k (by simp))
  have bP := Lib.hid (bP.out.keeps k (by simp))
  have K8 := Lib.hid (K7.out.trans k (by simp))
  clear k a0 a1 b0 b1 m0 m1 d0 d1
  obtain ⟨a0, a1⟩ := two_cells bA.out
  obtain ⟨b0, b1⟩ := two_cells bB.out
  obtain ⟨m0, m1⟩ := two_cells bM.out
  obtain ⟨d0, d1⟩ := two_cells bD.out
  go_wp2_with fail
  refine (Q8.out _).mono ?_
  rintro e w9 ⟨rfl, k⟩
  have bS := Lib.hid (bS.out.keeps k (by simp))
  have bA := Lib.hid (bA.out.keeps k (by simp))
  have bB := Lib.hid (bB.out.keeps k (by simp))
  have bM := Lib.hid (bM.out.keeps k (by simp))
  have bD := Lib.hid (bD.out.keeps k (by simp))
  have bP := Lib.hid (bP.out.keeps k (by simp))
  have K9 := Lib.hid (K8.out.trans k (by simp))
  clear k a0 a1 b0 b1 m0 m1 d0 d1
  obtain ⟨a0, a1⟩ := two_cells bA.out
  obtain ⟨b0, b1⟩ := two_cells bB.out
  obtain ⟨m0, m1⟩ := two_cells bM.out
  obtain ⟨d0, d1⟩ := two_cells bD.out
  clear a0 a1 b0 b1 m0 m1 d0 d1
  go_wp2_with fail
  have n1 : IntKind.i64.wrap (((cnt m : Nat) : Int) + ((cnt d : Nat) : Int)) = ((cnt a : Nat) : Int) := by rw [N1.out]; exact wrap_small _ v3
  have n2 : IntKind.i64.wrap (((cnt d : Nat) : Int) + ((cnt b : Nat) : Int)) = ((cnt j : Nat) : Int) := by rw [N2.out]; exact wrap_small _ v5
  clear v1 v2 v3 v4 v5
  have HC := Lib.hid (show ∀ w', Keeps [] w9 w' → w'.cell? ⟨W.heap.size, 0, none⟩ = some (.int .u64 (a.a : Int)) ∧ w'.cell? ⟨W.heap.size, 1, none⟩ = some (.int .u64 (a.b : Int)) ∧ w'.cell? ⟨(W.heap.size + 1), 0, none⟩ = some (.int .u64 (b.a : Int)) ∧ w'.cell? ⟨(W.heap.size + 1), 1, none⟩ = some (.int .u64 (b.b : Int)) ∧ w'.cell? ⟨w4.heap.size, 0, none⟩ = some (.int .u64 (m.a : Int)) ∧ w'.cell? ⟨w4.heap.size, 1, none⟩ = some (.int .u64 (m.b : Int)) ∧ w'.cell? ⟨w5.heap.size, 0, none⟩ = some (.int .u64 (d.a : Int)) ∧ w'.cell? ⟨w5.heap.size, 1, none⟩ = some (.int .u64 (d.b : Int)) from
    fun w' hk => ⟨(two_cells (bA.out.keeps hk (by simp))).1, (two_cells (bA.out.keeps hk (by simp))).2, (two_cells (bB.out.keeps hk (by simp))).1, (two_cells (bB.out.keeps hk (by simp))).2, (two_cells (bM.out.keeps hk (by simp))).1, (two_cells (bM.out.keeps hk (by simp))).2, (two_cells (bD.out.keeps hk (by simp))).1, (two_cells (bD.out.keeps hk (by simp))).2⟩)
  have hkB : Keeps [] w9 w9 := Keeps.refl _ _
  go_region_held3 (fun w' => w'.cell? ⟨W.heap.size, 0, none⟩ = some (.int .u64 (a.a : Int)) ∧ w'.cell? ⟨W.heap.size, 1, none⟩ = some (.int .u64 (a.b : Int)) ∧ w'.cell? ⟨(W.heap.size + 1), 0, none⟩ = some (.int .u64 (b.a : Int)) ∧ w'.cell? ⟨(W.heap.size + 1), 1, none⟩ = some (.int .u64 (b.b : Int)) ∧ w'.cell? ⟨w4.heap.size, 0, none⟩ = some (.int .u64 (m.a : Int)) ∧ w'.cell? ⟨w4.heap.size, 1, none⟩ = some (.int .u64 (m.b : Int)) ∧ w'.cell? ⟨w5.heap.size, 0, none⟩ = some (.int .u64 (d.a : Int)) ∧ w'.cell? ⟨w5.heap.size, 1, none⟩ = some (.int .u64 (d.b : Int))) (first | exact HC.out _ (by first | assumption | exact Keeps.drew (by assumption)) | go_keep) ((first
    | (go_at_call 33; refine (Held (wB := w9) (C1.out _ _ (by assumption)) (by first | assumption | exact Keeps.drew (by assumption))).mono ?_; rintro e wc ⟨rfl, hkc⟩)
    | (go_at_call 18; refine (Held (wB := w9) (C6.out _) (by first | assumption | exact Keeps.drew (by assumption))).mono ?_; rintro e wc ⟨rfl, hkc⟩)))
  have K10 := Lib.hid (K9.out.trans hkc (by simp))
  have bS := Lib.hid (bS.out.keeps hkc (by simp))
  have bA := Lib.hid (bA.out.keeps hkc (by simp))
  have bB := Lib.hid (bB.out.keeps hkc (by simp))
  have bM := Lib.hid (bM.out.keeps hkc (by simp))
  have bD := Lib.hid (bD.out.keeps hkc (by simp))
  have bP := Lib.hid (bP.out.keeps hkc (by simp))
  clear hkB HC n1 n2
  go_wp2_with fail
  have HC := Lib.hid (show ∀ w', Keeps [] wc w' → w'.cell? ⟨w3.heap.size, 0, none⟩ = some (.int .u64 (a.a : Int)) ∧ w'.cell? ⟨w3.heap.size, 1, none⟩ = some (.int .u64 (a.b : Int)) ∧ w'.cell? ⟨W.heap.size, 0, none⟩ = some (.int .u64 (a.a : Int)) ∧ w'.cell? ⟨W.heap.size, 1, none⟩ = some (.int .u64 (a.b : Int)) ∧ w'.cell? ⟨(W.heap.size + 1), 0, none⟩ = some (.int .u64 (b.a : Int)) ∧ w'.cell? ⟨(W.heap.size + 1), 1, none⟩ = some (.int .u64 (b.b : Int)) ∧ w'.cell? ⟨w4.heap.size, 0, none⟩ = some (.int .u64 (m.a : Int)) ∧ w'.cell? ⟨w4.heap.size, 1, none⟩ = some (.int .u64 (m.b : Int)) ∧ w'.cell? ⟨w5.heap.size, 0, none⟩ = some (.int .u64 (d.a : Int)) ∧ w'.cell? ⟨w5.heap.size, 1, none⟩ = some (.int .u64 (d.b : Int)) ∧ w'.cell? ⟨w6.heap.size, 0, none⟩ = some (.int .u64 (a.a : Int)) ∧ w'.cell? ⟨w6.heap.size, 1, none⟩ = some (.int .u64 (a.b : Int)) from
    fun w' hk => ⟨(two_cells (bS.out.keeps hk (by simp))).1, (two_cells (bS.out.keeps hk (by simp))).2, (two_cells (bA.out.keeps hk (by simp))).1, (two_cells (bA.out.keeps hk (by simp))).2, (two_cells (bB.out.keeps hk (by simp))).1, (two_cells (bB.out.keeps hk (by simp))).2, (two_cells (bM.out.keeps hk (by simp))).1, (two_cells (bM.out.keeps hk (by simp))).2, (two_cells (bD.out.keeps hk (by simp))).1, (two_cells (bD.out.keeps hk (by simp))).2, (two_cells (bP.out.keeps hk (by simp))).1, (two_cells (bP.out.keeps hk (by simp))).2⟩)
  have hkB : Keeps [] wc wc := Keeps.refl _ _
  go_region_held3 (fun w' => w'.cell? ⟨w3.heap.size, 0, none⟩ = some (.int .u64 (a.a : Int)) ∧ w'.cell? ⟨w3.heap.size, 1, none⟩ = some (.int .u64 (a.b : Int)) ∧ w'.cell? ⟨W.heap.size, 0, none⟩ = some (.int .u64 (a.a : Int)) ∧ w'.cell? ⟨W.heap.size, 1, none⟩ = some (.int .u64 (a.b : Int)) ∧ w'.cell? ⟨(W.heap.size + 1), 0, none⟩ = some (.int .u64 (b.a : Int)) ∧ w'.cell? ⟨(W.heap.size + 1), 1, none⟩ = some (.int .u64 (b.b : Int)) ∧ w'.cell? ⟨w4.heap.size, 0, none⟩ = some (.int .u64 (m.a : Int)) ∧ w'.cell? ⟨w4.heap.size, 1, none⟩ = some (.int .u64 (m.b : Int)) ∧ w'.cell? ⟨w5.heap.size, 0, none⟩ = some (.int .u64 (d.a : Int)) ∧ w'.cell? ⟨w5.heap.size, 1, none⟩ = some (.int .u64 (d.b : Int)) ∧ w'.cell? ⟨w6.heap.size, 0, none⟩ = some (.int .u64 (a.a : Int)) ∧ w'.cell? ⟨w6.heap.size, 1, none⟩ = some (.int .u64 (a.b : Int))) (first | exact HC.out _ (by first | assumption | exact Keeps.drew (by assumption)) | go_keep) ((first
    | (go_at_call 20; refine (Held (wB := wc) (P1.out _) (by first | assumption | exact Keeps.drew (by assumption))).mono ?_; rintro e wd ⟨rfl, hkd⟩)
    | (go_at_call 21; refine (Held (wB := wc) (P2.out _) (by first | assumption | exact Keeps.drew (by assumption))).mono ?_; rintro e wd ⟨rfl, hkd⟩)))
  go_wp2_with fail
  go_ret
  exact ⟨rfl, (K10.out.trans hkd (by simp)).below (by simp) (Nat.le_refl _)⟩

theorem own : ownKnob Tryd.prog.godebug = none := by kernel_rfl
theorem laidOut : laidOutB Tryd.prog = true := by kernel_rfl
theorem gTab : Tryd.prog.globalNamed "math/bits.deBruijn64tab" = some 0 := by kernel_rfl
theorem gTabType : (Tryd.prog.globals[0]?).map (·.type) = some 46 := by kernel_rfl
theorem cellsT : Tryd.prog.cellsOf 46 = 64 := by kernel_rfl
theorem cellsE : Tryd.prog.cellsOf 5 = 1 := by kernel_rfl
theorem table {W : World} (h : laidMetH Tryd.prog Rows.sigBackRow.laid W) : Lib.TabIs Tryd.prog W "math/bits.deBruijn64tab" .u8 (Lib.deBruijn64tab.map (fun k : Nat => (k : Int))) :=
  Lib.tabIs_of_head (rest := []) gTab gTabType Tryd.underlying46 Tryd.underlying5 cellsE cellsT h
theorem tabAt {W : World} (h : laidMetH Tryd.prog Rows.sigBackRow.laid W) : Tab W := by
  have hc : ∀ j, j < Lib.deBruijn64tab.length → W.cell? ⟨0, j, none⟩ = some (.int .u8 (Lib.deBruijn64tab.getD j 0 : Nat)) := by
    intro j hj
    have := (table h).cell gTab j (by simpa using hj)
    rw [this]
    congr 2
    simp [List.getElem?_eq_getElem hj, List.getD]
  refine ⟨?_, hc⟩
  have h0 := hc 0 (by decide)
  rcases Nat.lt_or_ge 0 W.heap.size with hlt | hge
  · exact hlt
  · rw [World.cell?, Array.getElem?_eq_none (by exact hge)] at h0; cases h0

theorem contract (H : Type) (enc : TypeId × Value → H) (W : World) (base : Nat) (args : Array Value) (ds gs : List (DataW H)) (before : List MemPlace)
    (hval0 : ∀ (j : Nat) t v, Tryd.f8.params[j]? = some t → args[j]? = some v → Value.okWide Tryd.prog W .any base t v)
    (hW : DataW.Whole enc Tryd.prog Tryd.f8.params.toList Rows.sigBackSpec.vars false W args.toList ds gs before) (hL : laidMetH Tryd.prog Rows.sigBackRow.laid W)
    (hsz : (DataW.weightsEach Tryd.prog (Tryd.f8.params.toList ++ (OpenSpec.ofChange Rows.sigBackSpec).bare.plain.varTypes Tryd.prog) (ds ++ gs)).all (· ≤ reachBytes) = true) :
    Calls Tryd.prog 8 args W fun e W' => ∃ v, e = .returned v ∧ Rows.sigBackSpec.post enc Tryd.prog Tryd.f8 false true false false W args v W' := by
  have hval := hval0
  have hW' := hW
  obtain ⟨p, q, hA0, hV, rfl, hfz, hnd⟩ := hW
  have hA : DataW.TrodAll enc Tryd.prog W 0 (fun _ => true) true Tryd.f8.params.toList args.toList ds p := hA0
  rw [Tryd.params8] at hA hval
  obtain ⟨v0, vs0, d0, ds0, p0, q0, hargs, rfl, rfl, h0, r0⟩ := trodAll_cons hA
  obtain ⟨v1, vs1, d1, ds1, p1, q1, rfl, rfl, rfl, h1, r1⟩ := trodAll_cons r0
  obtain ⟨rfl, rfl, rfl⟩ := trodAll_nil r1
  obtain rfl : args = #[v0, v1] := by cases args; simp_all
  obtain ⟨rfl, rfl⟩ := trodVars_none hV
  have k0 := h0
  have lt0 : ∀ x ∈ p0, x.block < W.heap.size := by obtain ⟨m, hm⟩ := k0; exact DataW.trod_lt m _ _ _ hm
  obtain ⟨s0, rfl, o0⟩ := sig_open (hval 0 31 v0 rfl rfl) h0
  have k1 := h1
  have lt1 : ∀ x ∈ p1, x.block < W.heap.size := by obtain ⟨m, hm⟩ := k1; exact DataW.trod_lt m _ _ _ hm
  obtain ⟨s1, rfl, o1⟩ := sig_open (hval 1 31 v1 rfl rfl) h1
  clear hA0
  refine (walk s0 s1 W (tabAt hL) o0 o1).mono fun e W' ⟨he, bel⟩ => ?_
  subst he
  exact ⟨_, rfl, _, _, _, [], _, [], hW', trodAll_mk1 (shut_bool Tryd.underlying4 _), (trodAll_cons_mk (Below.trod laidOut (by kernel_rfl) (of_decide_eq_true (by kernel_rfl)) k0 bel lt0) (trodAll_cons_mk (Below.trod laidOut (by kernel_rfl) (of_decide_eq_true (by kernel_rfl)) k1 bel lt1) trodAll_mk0)), rfl, bel.frame _, fun h => by cases h⟩

/-- A world for the witness: the table holds what its initialiser lays. -/
noncomputable def laidWorld (os : Os) : World :=
  { World.holding Tryd.prog os ⟨#[], #[], []⟩ with heap := (World.holding Tryd.prog os ⟨#[], #[], []⟩).heap.modify 0 fun
      | .cells _ t frozen => .cells (Lib.deBruijn64tab.map (fun k : Nat => Value.int .u8 k)).toArray t frozen
      | o => o }
theorem laid_met (os : Os) : laidMet Tryd.prog Rows.sigBackRow.laid ((laidWorld os).forCall (fun _ _ => 0) ⟨#[], #[.agg #[.int .u64 0, .int .u64 0], .agg #[.int .u64 0, .int .u64 0]], []⟩).memory :=
  laidMet_of_run' 8 (by kernel_rfl) (by kernel_rfl)
theorem reads (os : Os) {H : Type} (enc : TypeId × Value → H) : ∃ places, DataW.whole enc Tryd.prog ((laidWorld os).forCall (fun _ _ => 0) ⟨#[], #[.agg #[.int .u64 0, .int .u64 0], .agg #[.int .u64 0, .int .u64 0]], []⟩).memory Tryd.f8.params.toList Rows.sigBackSpec.vars false (#[.agg #[.int .u64 0, .int .u64 0], .agg #[.int .u64 0, .int .u64 0]] : Array Value).toList 8 = some ([.agg [.lit (.int .u64 0), .lit (.int .u64 0)], .agg [.lit (.int .u64 0), .lit (.int .u64 0)]], [], places) :=
  ⟨[], by kernel_rfl⟩

set_option maxRecDepth 100000 in
theorem lifted (os : Os) (started : os.Started) (H : Type) (enc : TypeId × Value → H) (F : Stop.Interp) :
    ReturnsInHanded {} Tryd.checked os 8 .any ((OpenSpec.ofChange Rows.sigBackSpec).preRow enc Tryd.prog Tryd.f8 Rows.sigBackRow.domain false Rows.sigBackRow.laid) (((OpenSpec.ofChange Rows.sigBackSpec).at F).post enc Tryd.prog Tryd.f8 false true false false) := by
  obtain ⟨places, hx⟩ := reads os enc
  refine returnsInHanded_of_row (C := Tryd.checked) (s := OpenSpec.ofChange Rows.sigBackSpec) own started (by kernel_rfl) Tryd.func8
    (witness_row_at (enc := enc) (C := Tryd.checked) false (laidWorld os) #[.agg #[.int .u64 0, .int .u64 0], .agg #[.int .u64 0, .int .u64 0]] rfl (by kernel_rfl) (by kernel_rfl) (by kernel_rfl)
      (OpenSpec.preRow_of_cond 8 hx (by kernel_rfl) (fun k hk => by cases hk) (by kernel_rfl) (laid_met os))) ?_
  intro W base args ds gs before hval hW _ _ hsz hL _ _
  exact contract H enc W base args ds gs before hval hW hL hsz

theorem said : Rows.SigBackSaid :=
  OpenClaim.holds_of_cond 8 Tryd.f8 rfl rfl rfl rfl rfl rfl rfl ⟨rfl, rfl, rfl, rfl, rfl⟩ rfl rfl rfl rfl rfl (by kernel_rfl) Tryd.func8 (by kernel_rfl)
    (of_decide_eq_true (by kernel_rfl)) (by unfold Func.isWrapper; first | (rw [if_pos (by decide +kernel)]; kernel_rfl) | (rw [if_neg (by decide +kernel)]; exact ⟨rfl, rfl⟩))
    (fun os started H enc _ F => by rw [OpenClaim.pre_eq_preRow]; exact lifted os started H enc F)

theorem plain (f : FuncId) (fn : Func) (hf : Tryd.pinned.checked.prog.funcNamed "quash/quashlaw02.SigBack" = some f) (hfn : Tryd.pinned.checked.prog.funcs[f]? = some fn) :
    false = Tryd.pinned.checked.prog.looks [] ∧ ∀ (j : Nat) t, fn.params[j]? = some t → Tryd.pinned.checked.prog.wantsStandIn t = false := by
  obtain rfl : f = 8 := Option.some.inj ((show Tryd.prog.funcNamed "quash/quashlaw02.SigBack" = some 8 by kernel_rfl).symm.trans hf) |>.symm
  obtain rfl : fn = Tryd.f8 := (Option.some.inj (Tryd.func8.symm.trans hfn)).symm
  refine ⟨by kernel_rfl, fun j t ht => ?_⟩
  rw [Tryd.params8] at ht
  have hm : t = 31 ∨ t = 31 := by simpa using Array.mem_of_getElem? ht
  rcases hm with rfl | rfl
  · exact (show Tryd.prog.wantsStandIn 31 = false by kernel_rfl)
  · exact (show Tryd.prog.wantsStandIn 31 = false by kernel_rfl)

/-- The card: the statement. -/
theorem proved : Rows.SigBackCardSaid :=
  Claim7.holds_tied_plain_at .later [] _ _ _ _ said (fun _ h => by cases h) (by kernel_rfl) (fun _ h => by cases h) sigBack_row_tie rfl ⟨rfl, rfl⟩ (by kernel_rfl) rfl plain (by kernel_rfl)
#print axioms proved
end Go.Proofs.YtlpgcfgnimchaaaDoor.sigBack
