/- SigSets -/
import Derived.Test.YtlpgcfgnimchaaaDoorRows
import Derived.Test.YtlpgcfgnimchaaaDoorSigAwake
import Derived.Test.YtlpgcfgnimchaaaDoorSigSetsP
import Derived.Test.YtlpgcfgnimchaaaDoorSigSame
import Derived.Deep.RegionHeld3
import Derived.Test.YtlpgcfgnimchaaaDoorCards
import Derived.Test.YtlpgcfgnimchaaaDoorTie
import Derived.Deep.DeepHandedRow
import Derived.Lib.LaidTab
import Derived.WalkKit
import Derived.ProofKit
import Derived.OpenShut
import Derived.ShutString
import Derived.ChangeOld
import Derived.Below
import Derived.Carry
namespace Go.Proofs.YtlpgcfgnimchaaaDoor.sigSets
open Go.ChangeShapes Go.WideShapes Go.ChangeAt Go.RowKit
set_option linter.unusedVariables false


theorem two_cells {w : World} {g : Nat} {t : TypeId} {x y : Value} (h : Blk w g t #[x, y]) : w.cell? ⟨g, 0, none⟩ = some x ∧ w.cell? ⟨g, 1, none⟩ = some y := ⟨(h.cell 0).trans rfl, (h.cell 1).trans rfl⟩
theorem two_row (w : World) (x y : Int) (k : Nat) (hk : w.heap.size = k) : (w.alloc (.cells #[.int .i64 x, .int .i64 y] 3)).ownsRow 0 3 1 (.slice (some ⟨k, 0, none⟩) 2 2) 2 ([x, y].map (Value.int .i64)) := by
  subst hk
  exact ⟨rfl, .inr ⟨w.heap.size, 2, #[.int .i64 x, .int .i64 y], rfl, Nat.zero_le _, heap_alloc_new w _, Nat.le_refl _, by decide, rfl, rfl⟩⟩
set_option maxRecDepth 100000 in
set_option maxHeartbeats 4000000 in
theorem walk (a b : Sg) (W : World) (hT : Tab W) (ha : a.ok) (hb : b.ok) :
    Calls Tryd.prog 7 #[.agg #[.int .u64 (a.a : Int), .int .u64 (a.b : Int)], .agg #[.int .u64 (b.a : Int), .int .u64 (b.b : Int)]] W fun e w' => e = .returned (.bool true) ∧ Below W.heap.size W w' := by
  obtain ⟨i0, hi, hz0, hz1, hz2⟩ := info_parts Tryd.infoInt
  have q0 := fun w => join_any w a b ha hb
  have q1 := fun w => rjoin_any w a b ha hb
  have q2 := fun w => meet_any w a b ha hb
  have q3 := fun w => rmeet_any w a b ha hb
  have q4 := fun w => minus_any w a b ha hb
  have q5 := fun w => rminus_any w a b ha hb
  have q6 := fun w => meets_any w a b ha hb
  have q7 := fun w => rmeets_any w a b ha hb
  have q8 := fun w => within_any w a b ha hb
  have q9 := fun w => rwithin_any w a b ha hb
  have q10 := fun w (h : Tab w) => bits_any w h a ha
  have q11 := fun w => rbits_any w a ha
  have q12 := fun w => touched_any w a b ha hb
  have q13 := fun w => rtouched_any w a b ha hb
  have q14 := fun w => count_any w a ha
  have hll : (bitsL a).length ≤ 128 := part_len a ha 2
  have hlw := words_len (b.minus a)
  have hcn := cnt_bits a ha
  rw [← hcn] at q14
  generalize a.join b = j at *
  generalize a.meet b = m at *
  generalize wordsL (b.minus a) = U at *
  generalize a.minus b = d at *
  generalize (!m.none) = bm at *
  generalize d.none = bd at *
  generalize bitsL a = L at *
  have sj := fun w => sig_same w (j.a : Int) (j.b : Int)
  have sm := fun w => sig_same w (m.a : Int) (m.b : Int)
  have sd := fun w => sig_same w (d.a : Int) (d.b : Int)
  unfold Sg.val at q0 q1 q2 q3 q4 q5 q6 q7 q8 q9 q10 q11 q12 q13 q14
  have Q0 := Lib.hid q0
  have Q1 := Lib.hid q1
  have Q2 := Lib.hid q2
  have Q3 := Lib.hid q3
  have Q4 := Lib.hid q4
  have Q5 := Lib.hid q5
  have Q6 := Lib.hid q6
  have Q7 := Lib.hid q7
  have Q8 := Lib.hid q8
  have Q9 := Lib.hid q9
  have Q10 := Lib.hid q10
  have Q11 := Lib.hid q11
  have Q12 := Lib.hid q12
  have Q13 := Lib.hid q13
  have Q14 := Lib.hid q14
  have HLL := Lib.hid hll
  have HLW := Lib.hid hlw
  clear q0 q1 q2 q3 q4 q5 q6 q7 q8 q9 q10 q11 q12 q13 q14 hll hlw hcn ha hb
  go_enter Tryd.func7, Tryd.ntmps7
  go_wp2_with fail
  refine (awake_any _ ((hT.keeps ((Keeps.refl [] W).alloc _)).keeps ((Keeps.refl [] _).alloc _))).mono ?_
  rintro e w1 ⟨rfl, k1⟩
  have bA := Lib.hid (((Blk.new W 31 #[.int .u64 (a.a : Int), .int .u64 (a.b : Int)]).alloc (.cells #[.int .u64 (b.a : Int), .int .u64 (b.b : Int)] 31)).keeps k1 (by simp))
  have bB := Lib.hid ((Blk.new (W.alloc (.cells #[.int .u64 (a.a : Int), .int .u64 (a.b : Int)] 31)) 31 #[.int .u64 (b.a : Int), .int .u64 (b.b : Int)]).keeps k1 (by simp))
  rw [World.size_alloc] at bB
  have K1 := Lib.hid ((((Keeps.refl [] W).alloc _).alloc _).trans k1 (by simp))
  have hs1 : W.heap.size + 1 < w1.heap.size := bB.out.lt
  have HS1 := Lib.hid hs1
  clear k1 hs1
  go_wp2_with fail
  have HC := Lib.hid (show ∀ w', Keeps [] w1 w' → w'.cell? ⟨W.heap.size, 0, none⟩ = some (.int .u64 (a.a : Int)) ∧ w'.cell? ⟨W.heap.size, 1, none⟩ = some (.int .u64 (a.b : Int)) ∧ w'.cell? ⟨(W.heap.size + 1), 0, none⟩ = some (.int .u64 (b.a : Int)) ∧ w'.cell? ⟨(W.heap.size + 1), 1, none⟩ = some (.int .u64 (b.b : Int)) from
    fun w' hk => ⟨(two_cells (bA.out.keeps hk (by simp))).1, (two_cells (bA.out.keeps hk (by simp))).2, (two_cells (bB.out.keeps hk (by simp))).1, (two_cells (bB.out.keeps hk (by simp))).2⟩)
  have hkB : Keeps [] w1 w1 := Keeps.refl _ _
  go_region_held3 (fun w' => w'.cell? ⟨W.heap.size, 0, none⟩ = some (.int .u64 (a.a : Int)) ∧ w'.cell? ⟨W.heap.size, 1, none⟩ = some (.int .u64 (a.b : Int)) ∧ w'.cell? ⟨(W.heap.size + 1), 0, none⟩ = some (.int .u64 (b.a : Int)) ∧ w'.cell? ⟨(W.heap.size + 1), 1, none⟩ = some (.int .u64 (b.b : Int))) (first | exact HC.out _ (by first | assumption | exact Keeps.drew (by assumption)) | go_keep) ((first
    | (go_at_call 18; refine (Held (wB := w1) (Q0.out _) (by first | assumption | exact Keeps.drew (by assumption))).mono ?_; rintro e w2 ⟨rfl, hkc⟩)
    | (go_at_call 22; refine (Held (wB := w1) (Q1.out _) (by first | assumption | exact Keeps.drew (by assumption))).mono ?_; rintro e w2 ⟨rfl, hkc⟩)
    | (go_at_call 23; refine (Held (wB := w1) (Q2.out _) (by first | assumption | exact Keeps.drew (by assumption))).mono ?_; rintro e w2 ⟨rfl, hkc⟩)
    | (go_at_call 24; refine (Held (wB := w1) (Q3.out _) (by first | assumption | exact Keeps.drew (by assumption))).mono ?_; rintro e w2 ⟨rfl, hkc⟩)
    | (go_at_call 25; refine (Held (wB := w1) (Q4.out _) (by first | assumption | exact Keeps.drew (by assumption))).mono ?_; rintro e w2 ⟨rfl, hkc⟩)
    | (go_at_call 26; refine (Held (wB := w1) (Q5.out _) (by first | assumption | exact Keeps.drew (by assumption))).mono ?_; rintro e w2 ⟨rfl, hkc⟩)))
  have bA := Lib.hid (bA.out.keeps hkc (by simp))
  have bB := Lib.hid (bB.out.keeps hkc (by simp))
  have K2 := Lib.hid (K1.out.trans hkc (by simp))
  have HS2 := Lib.hid (Nat.lt_of_lt_of_le HS1.out hkc.size)
  clear hkB HC sj sm sd hkc
  go_wp2_with fail
  have HC := Lib.hid (show ∀ w', Keeps [] w2 w' → w'.cell? ⟨W.heap.size, 0, none⟩ = some (.int .u64 (a.a : Int)) ∧ w'.cell? ⟨W.heap.size, 1, none⟩ = some (.int .u64 (a.b : Int)) ∧ w'.cell? ⟨(W.heap.size + 1), 0, none⟩ = some (.int .u64 (b.a : Int)) ∧ w'.cell? ⟨(W.heap.size + 1), 1, none⟩ = some (.int .u64 (b.b : Int)) from
    fun w' hk => ⟨(two_cells (bA.out.keeps hk (by simp))).1, (two_cells (bA.out.keeps hk (by simp))).2, (two_cells (bB.out.keeps hk (by simp))).1, (two_cells (bB.out.keeps hk (by simp))).2⟩)
  have hkB : Keeps [] w2 w2 := Keeps.refl _ _
  go_region_held3 (fun w' => w'.cell? ⟨W.heap.size, 0, none⟩ = some (.int .u64 (a.a : Int)) ∧ w'.cell? ⟨W.heap.size, 1, none⟩ = some (.int .u64 (a.b : Int)) ∧ w'.cell? ⟨(W.heap.size + 1), 0, none⟩ = some (.int .u64 (b.a : Int)) ∧ w'.cell? ⟨(W.heap.size + 1), 1, none⟩ = some (.int .u64 (b.b : Int))) (first | exact HC.out _ (by first | assumption | exact Keeps.drew (by assumption)) | go_keep) ((first
    | (go_at_call 20; refine (Held (wB := w2) (Q6.out _) (by first | assumption | exact Keeps.drew (by assumption))).mono ?_; rintro e w3 ⟨rfl, hkc⟩)
    | (go_at_call 27; refine (Held (wB := w2) (Q7.out _) (by first | assumption | exact Keeps.drew (by assumption))).mono ?_; rintro e w3 ⟨rfl, hkc⟩)
    | (go_at_call 21; refine (Held (wB := w2) (Q8.out _) (by first | assumption | exact Keeps.drew (by assumption))).mono ?_; rintro e w3 ⟨rfl, hkc⟩)
    | (go_at_call 28; refine (Held (wB := w2) (Q9.out _) (by first | assumption | exact Keeps.drew (by assumption))).mono ?_; rintro e w3 ⟨rfl, hkc⟩)))
  have bA := Lib.hid (bA.out.keeps hkc (by simp))
  have bB := Lib.hid (bB.out.keeps hkc (by simp))
  have K3 := Lib.hid (K2.out.trans hkc (by simp))
  have HS3 := Lib.hid (Nat.lt_of_lt_of_le HS2.out hkc.size)
  have T3 := Lib.hid (hT.keeps K3.out)
  clear hkB HC hkc K1 K2 HS1 HS2 Q0 Q1 Q2 Q3 Q4 Q5 Q6 Q7 Q8 Q9
  obtain ⟨a0, a1⟩ := two_cells bA.out
  obtain ⟨b0, b1⟩ := two_cells bB.out
  go_wp2_with fail
  refine (Q10.out _ T3.out).mono ?_
  rintro e w4 ⟨v, rfl, hrow⟩
  obtain ⟨Al, cl, rfl, _, _⟩ := Slc.of_own hrow.1 (by have := HLL.out; unfold maxLen; omega)
  have Rl := Lib.hid hrow
  have bA := Lib.hid (bA.out.keeps hrow.2 (by simp))
  have bB := Lib.hid (bB.out.keeps hrow.2 (by simp))
  have K4 := Lib.hid (K3.out.trans hrow.2 (by simp))
  have Ol := Lib.hid hrow.1
  have Zl := Lib.hid hrow.2.size
  clear hrow a0 a1 b0 b1
  have T4 := Lib.hid (hT.keeps K4.out)
  obtain ⟨a0, a1⟩ := two_cells bA.out
  obtain ⟨b0, b1⟩ := two_cells bB.out
  go_wp2_with fail
  refine (Q10.out _ T4.out).mono ?_
  rintro e w5 ⟨v, rfl, hrow⟩
  obtain ⟨Am, cm, rfl, _, _⟩ := Slc.of_own hrow.1 (by have := HLL.out; unfold maxLen; omega)
  have Rm := Lib.hid hrow
  have bA := Lib.hid (bA.out.keeps hrow.2 (by simp))
  have bB := Lib.hid (bB.out.keeps hrow.2 (by simp))
  have K5 := Lib.hid (K4.out.trans hrow.2 (by simp))
  have Ol := Lib.hid (own_keeps Ol.out hrow.2 (by simp))
  have Om := Lib.hid hrow.1
  have Zm := Lib.hid hrow.2.size
  clear hrow a0 a1 b0 b1
  obtain ⟨a0, a1⟩ := two_cells bA.out
  obtain ⟨b0, b1⟩ := two_cells bB.out
  go_wp2_with fail
  refine (Q12.out _).mono ?_
  rintro e w6 ⟨v, rfl, hrow⟩
  obtain ⟨Aw, cw, rfl, _, _⟩ := Slc.of_own hrow.1 (by have := HLW.out; unfold maxLen; omega)
  have Rw := Lib.hid hrow
  have bA := Lib.hid (bA.out.keeps hrow.2 (by simp))
  have bB := Lib.hid (bB.out.keeps hrow.2 (by simp))
  have K6 := Lib.hid (K5.out.trans hrow.2 (by simp))
  have Ol := Lib.hid (own_keeps Ol.out hrow.2 (by simp))
  have Om := Lib.hid (own_keeps Om.out hrow.2 (by simp))
  have Ow := Lib.hid hrow.1
  have Zw := Lib.hid hrow.2.size
  clear hrow a0 a1 b0 b1
  obtain ⟨a0, a1⟩ := two_cells bA.out
  obtain ⟨b0, b1⟩ := two_cells bB.out
  go_wp2_with fail
  refine (Q12.out _).mono ?_
  rintro e w7 ⟨v, rfl, hrow⟩
  obtain ⟨Ax, cx, rfl, _, _⟩ := Slc.of_own hrow.1 (by have := HLW.out; unfold maxLen; omega)
  have Rx := Lib.hid hrow
  have bA := Lib.hid (bA.out.keeps hrow.2 (by simp))
  have bB := Lib.hid (bB.out.keeps hrow.2 (by simp))
  have K7 := Lib.hid (K6.out.trans hrow.2 (by simp))
  have Ol := Lib.hid (own_keeps Ol.out hrow.2 (by simp))
  have Om := Lib.hid (own_keeps Om.out hrow.2 (by simp))
  have Ow := Lib.hid (own_keeps Ow.out hrow.2 (by simp))
  have Ox := Lib.hid hrow.1
  have Zx := Lib.hid hrow.2.size
  clear hrow a0 a1 b0 b1
  obtain ⟨a0, a1⟩ := two_cells bA.out
  obtain ⟨b0, b1⟩ := two_cells bB.out
  go_wp2_with fail
  refine (Q11.out _).mono ?_
  rintro e w8 ⟨v, rfl, hrow⟩
  obtain ⟨At, ct, rfl, _, _⟩ := Slc.of_own hrow.1 (by have := HLL.out; unfold maxLen; omega)
  have Rt := Lib.hid hrow
  have bA := Lib.hid (bA.out.keeps hrow.2 (by simp))
  have bB := Lib.hid (bB.out.keeps hrow.2 (by simp))
  have K8 := Lib.hid (K7.out.trans hrow.2 (by simp))
  have Ol := Lib.hid (own_keeps Ol.out hrow.2 (by simp))
  have Om := Lib.hid (own_keeps Om.out hrow.2 (by simp))
  have Ow := Lib.hid (own_keeps Ow.out hrow.2 (by simp))
  have Ox := Lib.hid (own_keeps Ox.out hrow.2 (by simp))
  have Ot := Lib.hid hrow.1
  have Zt := Lib.hid hrow.2.size
  clear hrow a0 a1 b0 b1
  obtain ⟨a0, a1⟩ := two_cells bA.out
  obtain ⟨b0, b1⟩ := two_cells bB.out
  go_wp2_with fail
  refine (Q13.out _).mono ?_
  rintro e w9 ⟨v, rfl, hrow⟩
  obtain ⟨Az, cz, rfl, _, _⟩ := Slc.of_own hrow.1 (by have := HLW.out; unfold maxLen; omega)
  have Rz := Lib.hid hrow
  have bA := Lib.hid (bA.out.keeps hrow.2 (by simp))
  have bB := Lib.hid (bB.out.keeps hrow.2 (by simp))
  have K9 := Lib.hid (K8.out.trans hrow.2 (by simp))
  have Ol := Lib.hid (own_keeps Ol.out hrow.2 (by simp))
  have Om := Lib.hid (own_keeps Om.out hrow.2 (by simp))
  have Ow := Lib.hid (own_keeps Ow.out hrow.2 (by simp))
  have Ox := Lib.hid (own_keeps Ox.out hrow.2 (by simp))
  have Ot := Lib.hid (own_keeps Ot.out hrow.2 (by simp))
  have Oz := Lib.hid hrow.1
  have Zz := Lib.hid hrow.2.size
  clear hrow a0 a1 b0 b1
  have MX := Lib.hid (show L.length ≤ maxLen by have := HLL.out; unfold maxLen; omega)
  have MU := Lib.hid (show U.length ≤ maxLen by have := HLW.out; unfold maxLen; omega)
  go_wp2_with fail
  refine (sameInts_yes _ _ _ L _ _ (slc_own Ol.out MX.out) (slc_own Ot.out MX.out)).mono ?_
  rintro e w10 ⟨rfl, k10⟩
  have k11 := Lib.hid k10
  clear k10
  go_wp2_with fail
  refine (sameInts_yes _ _ _ U _ _ (slc_own (own_keeps Ow.out k11.out (by simp)) MU.out) (slc_own (own_keeps Oz.out k11.out (by simp)) MU.out)).mono ?_
  rintro e w11 ⟨rfl, k12⟩
  have K := Lib.hid (k11.out.trans k12 (by simp))
  have Ol := Lib.hid (own_keeps Ol.out K.out (by simp))
  have Om := Lib.hid (own_keeps Om.out K.out (by simp))
  have Ow := Lib.hid (own_keeps Ow.out K.out (by simp))
  have Ox := Lib.hid (own_keeps Ox.out K.out (by simp))
  have Ot := Lib.hid (own_keeps Ot.out K.out (by simp))
  have Oz := Lib.hid (own_keeps Oz.out K.out (by simp))
  have bA := Lib.hid (bA.out.keeps K.out (by simp))
  have K11 := Lib.hid (K9.out.trans K.out (by simp))
  have Kz := Lib.hid K.out.size
  clear K k11 k12
  obtain ⟨S1, hS1⟩ : ∃ S, (Value.slice Al L.length cl).ownBlock.toList = S := ⟨_, rfl⟩
  obtain ⟨S2, hS2⟩ : ∃ S, (Value.slice Aw U.length cw).ownBlock.toList = S := ⟨_, rfl⟩
  have sl : Hid (∀ g, Al = some ⟨g, 0, none⟩ → g ∈ S1) := by unfold Hid; rintro g rfl; rw [← hS1]; simp [Value.ownBlock]
  have sw : Hid (∀ g, Aw = some ⟨g, 0, none⟩ → g ∈ S2) := by unfold Hid; rintro g rfl; rw [← hS2]; simp [Value.ownBlock]
  have hSl : Hid (∀ k, (Value.slice Al L.length cl).ownBlock = some k → k ∈ S1) := by unfold Hid; intro k hk; rw [← hS1]; simp [hk]
  have hSw : Hid (∀ k, (Value.slice Aw U.length cw).ownBlock = some k → k ∈ S2) := by unfold Hid; intro k hk; rw [← hS2]; simp [hk]
  have nm : Hid (∀ k, (Value.slice Am L.length cm).ownBlock = some k → k ∉ S1 ++ S2) := by
    unfold Hid; intro k hk; rw [← hS1, ← hS2, List.mem_append]; rintro (h | h)
    · exact RowAt.far' Rl.out Rm.out (Nat.le_refl _) k hk h
    · exact RowAt.far Rm.out Rw.out (Nat.le_refl _) k hk h
  have nx : Hid (∀ k, (Value.slice Ax U.length cx).ownBlock = some k → k ∉ S1 ++ S2) := by
    unfold Hid; intro k hk; rw [← hS1, ← hS2, List.mem_append]; rintro (h | h)
    · exact RowAt.far' Rl.out Rx.out (Nat.le_trans Zm.out Zw.out) k hk h
    · exact RowAt.far' Rw.out Rx.out (Nat.le_refl _) k hk h
  have nt : Hid (∀ k, (Value.slice At L.length ct).ownBlock = some k → k ∉ S1 ++ S2) := by
    unfold Hid; intro k hk; rw [← hS1, ← hS2, List.mem_append]; rintro (h | h)
    · exact RowAt.far' Rl.out Rt.out (Nat.le_trans Zm.out (Nat.le_trans Zw.out Zx.out)) k hk h
    · exact RowAt.far' Rw.out Rt.out Zx.out k hk h
  have nz : Hid (∀ k, (Value.slice Az U.length cz).ownBlock = some k → k ∉ S1 ++ S2) := by
    unfold Hid; intro k hk; rw [← hS1, ← hS2, List.mem_append]; rintro (h | h)
    · exact RowAt.far' Rl.out Rz.out (Nat.le_trans Zm.out (Nat.le_trans Zw.out (Nat.le_trans Zx.out Zt.out))) k hk h
    · exact RowAt.far' Rw.out Rz.out (Nat.le_trans Zx.out Zt.out) k hk h
  have na : Hid (W.heap.size ∉ S1 ++ S2) := by
    unfold Hid; rw [← hS1, ← hS2, List.mem_append]; rintro (h | h)
    · have := (Rl.out.1.lt _ (Option.mem_toList.1 h)).1; have := HS3.out; omega
    · have := (Rw.out.1.lt _ (Option.mem_toList.1 h)).1; have := HS3.out; have := Zl.out; have := Zm.out; omega
  have hSlo : Hid (∀ x, x ∈ S1 ++ S2 → W.heap.size ≤ x) := by
    unfold Hid; intro x hx; rw [← hS1, ← hS2, List.mem_append] at hx; rcases hx with h | h
    · have := (Rl.out.1.lt _ (Option.mem_toList.1 h)).1; have := HS3.out; omega
    · have := (Rw.out.1.lt _ (Option.mem_toList.1 h)).1; have := HS3.out; have := Zl.out; have := Zm.out; omega
  have dlw : Hid (∀ k, (Value.slice Aw U.length cw).ownBlock = some k → k ∉ S1) := Lib.hid (hS1 ▸ RowAt.far' Rl.out Rw.out Zm.out)
  have dwl : Hid (∀ k, (Value.slice Al L.length cl).ownBlock = some k → k ∉ S2) := Lib.hid (hS2 ▸ RowAt.far Rl.out Rw.out Zm.out)
  clear Rl Rm Rw Rx Rt Rz Zl Zm Zw Zx Zt Zz hS1 hS2 K3 K4 K5 K6 K7 K8 K9 T3 T4 Q10 Q11 Q12 Q13
  go_wp2_with fail
  go_loopw [15] (fun i wr => ∃ k : Nat, k ≤ L.length ∧ i = .int .i64 k ∧ Over w11 S1 (.slice Al L.length cl) L.length wr) (fun i _ => L.length - (intOf i).toNat)
  case atStart => exact ⟨0, Nat.zero_le _, rfl, Over.of Ol.out⟩
  case round =>
    obtain ⟨k, hk, rfl, hov⟩ := hrel
    have HVl := Lib.hid hov
    clear hov
    obtain ⟨wr1, hwr1⟩ : ∃ w, w = wr := ⟨_, rfl⟩
    subst hwr1
    by_cases hlt : (k : Int) < (L.length : Int)
    · have k0 : (0 : Int) ≤ (k : Int) := by omega
      have hbd : (L.length : Int) ≤ 128 := by have := HLL.out; omega
      obtain ⟨g, rfl, ⟨z, hz⟩, hf⟩ := HVl.out.spot (k := k) (by omega)
      go_wp2_with fail
      go_roundw
      case rel => exact ⟨k + 1, by omega, by go_num, HVl.out.put (sl.out g rfl) k (-1)⟩
      case measure => simp [intOf]; omega
    · clear hk
      obtain ⟨⟨xs1, ho1⟩, K1b⟩ := HVl.out
      have HOw := Lib.hid (own_keeps Ow.out K1b dlw.out)
      have K1b := Lib.hid (K1b.mono (T := S1 ++ S2) (fun x hx => .inl (by simp [hx])))
      have ho1 := Lib.hid ho1
      clear HVl Ow
      go_wp2_with fail
      go_loopw [16] (fun i wr => ∃ k : Nat, k ≤ U.length ∧ i = .int .i64 k ∧ Over wr1 S2 (.slice Aw U.length cw) U.length wr) (fun i _ => U.length - (intOf i).toNat)
      case atStart => exact ⟨0, Nat.zero_le _, rfl, Over.of HOw.out⟩
      case round =>
        obtain ⟨k, hk, rfl, hov⟩ := hrel
        have HVw := Lib.hid hov
        clear hov
        by_cases hlt : (k : Int) < (U.length : Int)
        · have k0 : (0 : Int) ≤ (k : Int) := by omega
          have hbd : (U.length : Int) ≤ 128 := by have := HLW.out; omega
          obtain ⟨g, rfl, ⟨z, hz⟩, hf⟩ := HVw.out.spot (k := k) (by omega)
          go_wp2_with fail
          go_roundw
          case rel => exact ⟨k + 1, by omega, by go_num, HVw.out.put (sw.out g rfl) k (-1)⟩
          case measure => simp [intOf]; omega
        · clear hk
          obtain ⟨⟨xs2, ho2⟩, K2b⟩ := HVw.out
          have HO1 := Lib.hid (own_keeps ho1.out K2b dwl.out)
          have HO2 := Lib.hid ho2
          have K13 := Lib.hid (K1b.out.trans (K2b.mono (T := S1 ++ S2) (fun x hx => .inl (by simp [hx]))) (fun x hx => .inl hx))
          have l1 : xs1.length = L.length := by have := ho1.out.1; simpa using this
          have l2 : xs2.length = U.length := by have := ho2.1; simpa using this
          have m1 : Hid (L.length + 2 ≤ maxLen) := by have := HLL.out; unfold Hid maxLen; omega
          have m2 : Hid ((L.length + 2) * 8 ≤ 140737488355328) := by have := HLL.out; unfold Hid; omega
          have m3 : Hid (U.length + 2 ≤ maxLen) := by have := HLW.out; unfold Hid maxLen; omega
          have m4 : Hid ((U.length + 2) * 8 ≤ 140737488355328) := by have := HLW.out; unfold Hid; omega
          clear HVw ho2 K2b ho1 K1b l1 l2
          go_wp2_with (first
            | (at_builtin; refine wpList_append_row (o := ⟨some 102, _, _, _, _, _⟩) rfl (.tmp 100) (.tmp 101) 27 rfl 3 i0 _ 1 8 Tryd.underlying27 hi hz0 hz1 hz2 rfl (by decide) _ L.length (xs1.map (Value.int .i64)) rfl (own_keeps HO1.out ((Keeps.refl [] _).alloc _) (by simp)) _ 2 ([5, 6].map (Value.int .i64)) rfl (two_row _ 5 6 _ rfl) (one_ints _) m1.out m2.out ?_; intro v14 w14 hown1 hg1 hat1; have G1 := Lib.hid (((Keeps.refl S1 wr).alloc _).grown hg1 (fun k hk => .inl (hSl.out k hk))); have HO2 := Lib.hid (own_keeps HO2.out G1.out dlw.out); have K14 := Lib.hid (K13.out.trans (G1.out.mono (T := S1 ++ S2) (fun x hx => .inl (by simp [hx]))) (fun x hx => .inl hx)); clear hown1 hg1 hat1 HO1 m1 m2 G1)
            | (at_builtin; refine wpList_append_row (o := ⟨some 105, _, _, _, _, _⟩) rfl (.tmp 103) (.tmp 104) 27 rfl 3 i0 _ 1 8 Tryd.underlying27 hi hz0 hz1 hz2 rfl (by decide) _ U.length (xs2.map (Value.int .i64)) rfl (own_keeps HO2.out ((Keeps.refl [] _).alloc _) (by simp)) _ 2 ([5, 6].map (Value.int .i64)) rfl (two_row _ 5 6 _ rfl) (one_ints _) m3.out m4.out ?_; intro v15 w15 hown1 hg1 hat1; have G2 := Lib.hid (((Keeps.refl S2 w14).alloc _).grown hg1 (fun k hk => .inl (hSw.out k hk))); have K15 := Lib.hid (K14.out.trans (G2.out.mono (T := S1 ++ S2) (fun x hx => .inl (by simp [hx]))) (fun x hx => .inl hx)); clear hown1 hg1 hat1 HO2 m3 m4 G2 K13 K14; have hA15 := two_cells (bA.out.keeps K15.out na.out); have a0 := hA15.1; have a1 := hA15.2; clear hA15))
          refine (Q14.out _).mono ?_
          rintro e w16 ⟨rfl, k16⟩
          have K16 := Lib.hid (K15.out.trans k16 (by simp))
          clear k16
          go_wp2_with fail
          refine (sameInts_yes _ _ _ L _ _ (slc_own (own_keeps Om.out K16.out nm.out) MX.out) (slc_own (own_keeps Ot.out K16.out nt.out) MX.out)).mono ?_
          rintro e w17 ⟨rfl, k17⟩
          have K17 := Lib.hid (K16.out.trans k17 (by simp))
          clear k17
          go_wp2_with fail
          refine (sameInts_yes _ _ _ U _ _ (slc_own (own_keeps Ox.out K17.out nx.out) MU.out) (slc_own (own_keeps Oz.out K17.out nz.out) MU.out)).mono ?_
          rintro e w18 ⟨rfl, k18⟩
          have K18 := Lib.hid (K17.out.trans k18 (by simp))
          clear k18
          go_wp2_with fail
          go_ret
          exact ⟨rfl, (K11.out.trans K18.out (fun x hx => .inr (hSlo.out x hx))).below (by simp) (Nat.le_refl _)⟩

theorem own : ownKnob Tryd.prog.godebug = none := by kernel_rfl
theorem laidOut : laidOutB Tryd.prog = true := by kernel_rfl
theorem gTab : Tryd.prog.globalNamed "math/bits.deBruijn64tab" = some 0 := by kernel_rfl
theorem gTabType : (Tryd.prog.globals[0]?).map (·.type) = some 46 := by kernel_rfl
theorem cellsT : Tryd.prog.cellsOf 46 = 64 := by kernel_rfl
theorem cellsE : Tryd.prog.cellsOf 5 = 1 := by kernel_rfl
theorem table {W : World} (h : laidMetH Tryd.prog Rows.sigSetsRow.laid W) : Lib.TabIs Tryd.prog W "math/bits.deBruijn64tab" .u8 (Lib.deBruijn64tab.map (fun k : Nat => (k : Int))) :=
  Lib.tabIs_of_head (rest := []) gTab gTabType Tryd.underlying46 Tryd.underlying5 cellsE cellsT h
theorem tabAt {W : World} (h : laidMetH Tryd.prog Rows.sigSetsRow.laid W) : Tab W := by
  have hc : ∀ j, j < Lib.deBruijn64tab.length → W.cell? ⟨0, j, none⟩ = some (.int .u8 (Lib.deBruijn64tab.getD j 0 : Nat)) := by
    intro j hj
    have := (table h).cell gTab j (by simpa using hj)
    rw [this]
    congr 2
    simp [List.getElem?_eq_getElem hj, List.getD]
  refine ⟨?_, hc⟩
  have h0 := hc 0 (by decide)
  rcases Nat.lt_or_ge 0 W.heap.size with hlt | hge
  · exact hlt
  · rw [World.cell?, Array.getElem?_eq_none (by exact hge)] at h0; cases h0

theorem contract (H : Type) (enc : TypeId × Value → H) (W : World) (base : Nat) (args : Array Value) (ds gs : List (DataW H)) (before : List MemPlace)
    (hval0 : ∀ (j : Nat) t v, Tryd.f7.params[j]? = some t → args[j]? = some v → Value.okWide Tryd.prog W .any base t v)
    (hW : DataW.Whole enc Tryd.prog Tryd.f7.params.toList Rows.sigSetsSpec.vars false W args.toList ds gs before) (hL : laidMetH Tryd.prog Rows.sigSetsRow.laid W)
    (hsz : (DataW.weightsEach Tryd.prog (Tryd.f7.params.toList ++ (OpenSpec.ofChange Rows.sigSetsSpec).bare.plain.varTypes Tryd.prog) (ds ++ gs)).all (· ≤ reachBytes) = true) :
    Calls Tryd.prog 7 args W fun e W' => ∃ v, e = .returned v ∧ Rows.sigSetsSpec.post enc Tryd.prog Tryd.f7 false true false false W args v W' := by
  have hval := hval0
  have hW' := hW
  obtain ⟨p, q, hA0, hV, rfl, hfz, hnd⟩ := hW
  have hA : DataW.TrodAll enc Tryd.prog W 0 (fun _ => true) true Tryd.f7.params.toList args.toList ds p := hA0
  rw [Tryd.params7] at hA hval
  obtain ⟨v0, vs0, d0, ds0, p0, q0, hargs, rfl, rfl, h0, r0⟩ := trodAll_cons hA
  obtain ⟨v1, vs1, d1, ds1, p1, q1, rfl, rfl, rfl, h1, r1⟩ := trodAll_cons r0
  obtain ⟨rfl, rfl, rfl⟩ := trodAll_nil r1
  obtain rfl : args = #[v0, v1] := by cases args; simp_all
  obtain ⟨rfl, rfl⟩ := trodVars_none hV
  have k0 := h0
  have lt0 : ∀ x ∈ p0, x.block < W.heap.size := by obtain ⟨m, hm⟩ := k0; exact DataW.trod_lt m _ _ _ hm
  obtain ⟨s0, rfl, o0⟩ := sig_open (hval 0 31 v0 rfl rfl) h0
  have k1 := h1
  have lt1 : ∀ x ∈ p1, x.block < W.heap.size := by obtain ⟨m, hm⟩ := k1; exact DataW.trod_lt m _ _ _ hm
  obtain ⟨s1, rfl, o1⟩ := sig_open (hval 1 31 v1 rfl rfl) h1
  clear hA0
  refine (walk s0 s1 W (tabAt hL) o0 o1).mono fun e W' ⟨he, bel⟩ => ?_
  subst he
  exact ⟨_, rfl, _, _, _, [], _, [], hW', trodAll_mk1 (shut_bool Tryd.underlying4 _), (trodAll_cons_mk (Below.trod laidOut (by kernel_rfl) (of_decide_eq_true (by kernel_rfl)) k0 bel lt0) (trodAll_cons_mk (Below.trod laidOut (by kernel_rfl) (of_decide_eq_true (by kernel_rfl)) k1 bel lt1) trodAll_mk0)), rfl, bel.frame _, fun h => by cases h⟩

/-- A world for the witness: the table holds what its initialiser lays. -/
noncomputable def laidWorld (os : Os) : World :=
  { World.holding Tryd.prog os ⟨#[], #[], []⟩ with heap := (World.holding Tryd.prog os ⟨#[], #[], []⟩).heap.modify 0 fun
      | .cells _ t frozen => .cells (Lib.deBruijn64tab.map (fun k : Nat => Value.int .u8 k)).toArray t frozen
      | o => o }
theorem laid_met (os : Os) : laidMet Tryd.prog Rows.sigSetsRow.laid ((laidWorld os).forCall (fun _ _ => 0) ⟨#[], #[.agg #[.int .u64 0, .int .u64 0], .agg #[.int .u64 0, .int .u64 0]], []⟩).memory :=
  laidMet_of_run' 8 (by kernel_rfl) (by kernel_rfl)
theorem reads (os : Os) {H : Type} (enc : TypeId × Value → H) : ∃ places, DataW.whole enc Tryd.prog ((laidWorld os).forCall (fun _ _ => 0) ⟨#[], #[.agg #[.int .u64 0, .int .u64 0], .agg #[.int .u64 0, .int .u64 0]], []⟩).memory Tryd.f7.params.toList Rows.sigSetsSpec.vars false (#[.agg #[.int .u64 0, .int .u64 0], .agg #[.int .u64 0, .int .u64 0]] : Array Value).toList 8 = some ([.agg [.lit (.int .u64 0), .lit (.int .u64 0)], .agg [.lit (.int .u64 0), .lit (.int .u64 0)]], [], places) :=
  ⟨[], by kernel_rfl⟩

set_option maxRecDepth 100000 in
theorem lifted (os : Os) (started : os.Started) (H : Type) (enc : TypeId × Value → H) (F : Stop.Interp) :
    ReturnsInHanded {} Tryd.checked os 7 .any ((OpenSpec.ofChange Rows.sigSetsSpec).preRow enc Tryd.prog Tryd.f7 Rows.sigSetsRow.domain false Rows.sigSetsRow.laid) (((OpenSpec.ofChange Rows.sigSetsSpec).at F).post enc Tryd.prog Tryd.f7 false true false false) := by
  obtain ⟨places, hx⟩ := reads os enc
  refine returnsInHanded_of_row (C := Tryd.checked) (s := OpenSpec.ofChange Rows.sigSetsSpec) own started (by kernel_rfl) Tryd.func7
    (witness_row_at (enc := enc) (C := Tryd.checked) false (laidWorld os) #[.agg #[.int .u64 0, .int .u64 0], .agg #[.int .u64 0, .int .u64 0]] rfl (by kernel_rfl) (by kernel_rfl) (by kernel_rfl)
      (OpenSpec.preRow_of_cond 8 hx (by kernel_rfl) (fun k hk => by cases hk) (by kernel_rfl) (laid_met os))) ?_
  intro W base args ds gs before hval hW _ _ hsz hL _ _
  exact contract H enc W base args ds gs before hval hW hL hsz

theorem said : Rows.SigSetsSaid :=
  OpenClaim.holds_of_cond 7 Tryd.f7 rfl rfl rfl rfl rfl rfl rfl ⟨rfl, rfl, rfl, rfl, rfl⟩ rfl rfl rfl rfl rfl (by kernel_rfl) Tryd.func7 (by kernel_rfl)
    (of_decide_eq_true (by kernel_rfl)) (by unfold Func.isWrapper; first | (rw [if_pos (by decide +kernel)]; kernel_rfl) | (rw [if_neg (by decide +kernel)]; exact ⟨rfl, rfl⟩))
    (fun os started H enc _ F => by rw [OpenClaim.pre_eq_preRow]; exact lifted os started H enc F)

theorem plain (f : FuncId) (fn : Func) (hf : Tryd.pinned.checked.prog.funcNamed "quash/quashlaw02.SigSets" = some f) (hfn : Tryd.pinned.checked.prog.funcs[f]? = some fn) :
    false = Tryd.pinned.checked.prog.looks [] ∧ ∀ (j : Nat) t, fn.params[j]? = some t → Tryd.pinned.checked.prog.wantsStandIn t = false := by
  obtain rfl : f = 7 := Option.some.inj ((show Tryd.prog.funcNamed "quash/quashlaw02.SigSets" = some 7 by kernel_rfl).symm.trans hf) |>.symm
  obtain rfl : fn = Tryd.f7 := (Option.some.inj (Tryd.func7.symm.trans hfn)).symm
  refine ⟨by kernel_rfl, fun j t ht => ?_⟩
  rw [Tryd.params7] at ht
  have hm : t = 31 ∨ t = 31 := by simpa using Array.mem_of_getElem? ht
  rcases hm with rfl | rfl
  · exact (show Tryd.prog.wantsStandIn 31 = false by kernel_rfl)
  · exact (show Tryd.prog.wantsStandIn 31 = false by kernel_rfl)

/-- The card: the statement. -/
theorem proved : Rows.SigSetsCardSaid :=
  Claim7.holds_tied_plain_at .later [] _ _ _ _ said (fun _ h => by cases h) (by kernel_rfl) (fun _ h => by cases h) sigSets_row_tie rfl ⟨rfl, rfl⟩ (by kernel_rfl) rfl plain (by kernel_rfl)
#print axioms proved
end Go.Proofs.YtlpgcfgnimchaaaDoor.sigSets
