/- SigTouches -/
import Derived.Test.YtlpgcfgnimchaaaDoorRows
import Derived.Test.YtlpgcfgnimchaaaDoorSigAwake
import Derived.Test.YtlpgcfgnimchaaaDoorSigPlain
import Derived.BigQuiet
import Derived.Deep.QuietTactic
import Derived.RegionTactic
import Derived.BigRegion
import Derived.Test.YtlpgcfgnimchaaaDoorCards
import Derived.Test.YtlpgcfgnimchaaaDoorTie
import Derived.Deep.DeepHandedRow
import Derived.Lib.LaidTab
import Derived.WalkKit
import Derived.ProofKit
import Derived.OpenShut
import Derived.ShutString
import Derived.ChangeOld
import Derived.Below
import Derived.Carry
namespace Go.Proofs.YtlpgcfgnimchaaaDoor.sigTouches
open Go.ChangeShapes Go.WideShapes Go.ChangeAt Go.RowKit
set_option linter.unusedVariables false


theorem two_cells {w : World} {g : Nat} {t : TypeId} {x y : Value} (h : Blk w g t #[x, y]) : w.cell? ⟨g, 0, none⟩ = some x ∧ w.cell? ⟨g, 1, none⟩ = some y := ⟨(h.cell 0).trans rfl, (h.cell 1).trans rfl⟩
/-- The blocks of s and both. -/
def St2 (w : World) (j : Sg) (p q : Nat) (wr : World) : Prop := Blk wr (w.heap.size + 1) 31 #[.int .u64 (p : Int), .int .u64 (q : Int)] ∧ Blk wr w.heap.size 31 #[.int .u64 (j.a : Int), .int .u64 (j.b : Int)]
theorem St2.keeps {w wr w' : World} {j : Sg} {p q : Nat} (h : St2 w j p q wr) (hk : Keeps [] wr w') : St2 w j p q w' := ⟨h.1.keeps hk (by simp), h.2.keeps hk (by simp)⟩
theorem St2.step0 {w wr : World} {j : Sg} {p q n : Nat} (h : St2 w j p q wr) : St2 w j j.a q ((wr.drewN n).setCell ⟨w.heap.size + 1, 0, none⟩ (.int .u64 (j.a : Int))) :=
  ⟨by simpa using (h.1.drewN n).set_ 0 (.int .u64 (j.a : Int)), (h.2.drewN n).far (by simp) _⟩
theorem St2.step1 {w wr : World} {j : Sg} {p q n : Nat} (h : St2 w j p q wr) : St2 w j p j.b ((wr.drewN n).setCell ⟨w.heap.size + 1, 1, none⟩ (.int .u64 (j.b : Int))) :=
  ⟨by simpa using (h.1.drewN n).set_ 1 (.int .u64 (j.b : Int)), (h.2.drewN n).far (by simp) _⟩
set_option maxHeartbeats 2000000 in
theorem walk (a b : Sg) (W : World) (hT : Tab W) (ha : a.ok) (hb : b.ok) :
    Calls Tryd.prog 5 #[.agg #[.int .u64 (a.a : Int), .int .u64 (a.b : Int)], .agg #[.int .u64 (b.a : Int), .int .u64 (b.b : Int)]] W fun e w' => e = .returned (.bool true) ∧ Below W.heap.size W w' := by
  go_enter Tryd.func5, Tryd.ntmps5
  go_wp2_with fail
  refine (awake_any _ ((hT.keeps ((Keeps.refl [] W).alloc _)).keeps ((Keeps.refl [] _).alloc _))).mono ?_
  rintro e w1 ⟨rfl, k1⟩
  have p1 := Lib.hid (((Blk.new W 31 #[.int .u64 (a.a : Int), .int .u64 (a.b : Int)]).alloc (.cells #[.int .u64 (b.a : Int), .int .u64 (b.b : Int)] 31)).keeps k1 (by simp))
  have p2 := Lib.hid ((Blk.new (W.alloc (.cells #[.int .u64 (a.a : Int), .int .u64 (a.b : Int)] 31)) 31 #[.int .u64 (b.a : Int), .int .u64 (b.b : Int)]).keeps k1 (by simp))
  rw [World.size_alloc] at p2
  have K1 := Lib.hid ((((Keeps.refl [] W).alloc _).alloc _).trans k1 (by simp))
  clear k1
  obtain ⟨a0, a1⟩ := two_cells p1.out
  obtain ⟨b0, b1⟩ := two_cells p2.out
  go_wp2_with fail
  refine (join_any _ a b ha hb).mono ?_
  rintro e w2 ⟨rfl, k2⟩
  unfold Sg.val
  obtain ⟨j, hj⟩ : ∃ j, a.join b = j := ⟨_, rfl⟩
  rw [hj]
  have HJ := Lib.hid hj
  have k2' := k2.alloc (.cells #[.int .u64 (j.a : Int), .int .u64 (j.b : Int)] 31)
  have k3' := k2'.alloc (.cells #[.int .u64 (a.a : Int), .int .u64 (a.b : Int)] 31)
  have p12 := Lib.hid (p1.out.keeps k2' (by simp))
  have p13 := Lib.hid (p1.out.keeps k3' (by simp))
  have p23 := Lib.hid (p2.out.keeps k3' (by simp))
  have K2 := Lib.hid (K1.out.trans k3' (by simp))
  have pst : Hid (St2 w2 j a.a a.b ((w2.alloc (.cells #[.int .u64 (j.a : Int), .int .u64 (j.b : Int)] 31)).alloc (.cells #[.int .u64 (a.a : Int), .int .u64 (a.b : Int)] 31))) := ⟨new_at _ _ _ (by simp), (Blk.new _ _ _).alloc _⟩
  have k2s := Lib.hid k2.size
  clear hj k2 k2' k3' a0 a1 b0 b1 p1 p2
  obtain ⟨a0, a1⟩ := two_cells p12.out
  obtain ⟨a2, a3⟩ := two_cells p13.out
  obtain ⟨b2, b3⟩ := two_cells p23.out
  go_wp2_with fail
  refine (touched_any _ a b ha hb).mono ?_
  rintro e w3 ⟨v, rfl, hrow⟩
  have hat := hrow.at
  have hk3 := hrow.2
  have hs3 := Lib.hid (pst.out.keeps hk3)
  have K3 := Lib.hid (K2.out.trans hk3 (by simp))
  obtain ⟨L, hL⟩ : ∃ L, wordsL (b.minus a) = L := ⟨_, rfl⟩
  rw [hL] at hat
  clear hrow hk3 a0 a1 a2 a3 b2 b3
  rcases hat with ⟨rfl, rfl⟩ | ⟨g, c, rfl, hg, hgl, hlc, hcell⟩
  · have hja : a = j := by
      rw [← HJ.out]
      have := hL
      unfold wordsL P2 P1 P0 at this
      simp at this
      obtain ⟨e1, e2⟩ := this
      have f1 := (minusN_zero a.a b.a ha.1 hb.1).1 e1
      have f2 := (minusN_zero a.b b.b ha.2 hb.2).1 e2
      unfold Sg.join
      rw [f1, f2]
    subst hja
    have he := fun w => sig_same w (a.a : Int) (a.b : Int)
    obtain ⟨s0, s1⟩ := two_cells hs3.out.1
    obtain ⟨t0, t1⟩ := two_cells hs3.out.2
    go_wp2_with fail
    go_loopw [10] (fun i wr => i = .int .i64 0 ∧ wr = w3) (fun i _ => 0)
    case atStart => exact ⟨rfl, rfl⟩
    case round =>
      obtain ⟨rfl, rfl⟩ := hrel
      go_wp2_with fail
      go_ret
      exact ⟨rfl, K3.out.below (by simp) (Nat.le_refl _)⟩
  · have hj1 : j.a = a.a ||| b.a ∧ j.b = a.b ||| b.b := by rw [← HJ.out]; exact ⟨rfl, rfl⟩
    have hz1 := minusN_zero a.a b.a ha.1 hb.1
    have hz2 := minusN_zero a.b b.b ha.2 hb.2
    by_cases m1 : minusN b.a a.a = 0
    · by_cases m2 : minusN b.b a.b = 0
      · have hL2 : [] = L := by rw [← hL]; simp [wordsL, P2, P1, P0, Sg.minus, m1, m2]
        subst hL2
        have hja : a = j := by
          have f1 := hz1.1 m1
          have f2 := hz2.1 m2
          rw [← HJ.out]
          unfold Sg.join
          rw [f1, f2]
        subst hja
        have he := fun w => sig_same w (a.a : Int) (a.b : Int)
        obtain ⟨s0, s1⟩ := two_cells hs3.out.1
        obtain ⟨t0, t1⟩ := two_cells hs3.out.2
        clear m1 m2 hz1 hz2 hj1 hL hcell
        simp only [List.length_nil] at hlc ⊢
        go_wp2_with fail
        go_loopw [10] (fun i wr => i = .int .i64 0 ∧ wr = w3) (fun i _ => 0)
        case atStart => exact ⟨rfl, rfl⟩
        case round =>
          obtain ⟨rfl, rfl⟩ := hrel
          go_wp2_with fail
          go_ret
          exact ⟨rfl, K3.out.below (by simp) (Nat.le_refl _)⟩
      · have hL2 : [1] = L := by rw [← hL]; simp [wordsL, P2, P1, P0, Sg.minus, m1, m2]
        subst hL2
        have n0 : ((a.b : Int) == (j.b : Int)) = false := by
          have : ¬ j.b = a.b := fun h => m2 (hz2.2 (hj1.2.symm.trans h))
          simp; omega
        have hb2 : a.a = j.a := by rw [hj1.1]; exact (hz1.1 m1).symm
        have l0 := hcell 0 1 rfl
        have he := fun w => sig_same w (j.a : Int) (j.b : Int)
        have HN := Lib.hid n0
        clear m1 m2 hz1 hz2 hj1 hL hcell
        simp only [List.length_cons, List.length_nil] at hlc ⊢
        go_wp2_with fail
        go_loopw [9, 10] (fun last i wr => (last = .int .i64 (-1) ∧ i = .int .i64 0 ∧ wr = w3) ∨ (last = .int .i64 1 ∧ i = .int .i64 1 ∧ St2 w2 j a.a j.b wr ∧ Keeps [w2.heap.size + 1] w3 wr)) (fun _ i _ => 1 - (intOf i).toNat)
        case atStart => exact .inl ⟨rfl, rfl, rfl⟩
        case round =>
          rcases hrel with ⟨rfl, rfl, rfl⟩ | ⟨rfl, rfl, hst, hkk⟩
          · obtain ⟨s0, s1⟩ := two_cells hs3.out.1
            obtain ⟨t0, t1⟩ := two_cells hs3.out.2
            have f0 := hs3.out.1.frozen 1
            have n0 := HN.out
            go_wp2_with fail
            go_quiet (fail)
            go_wp2_with fail
            go_region
            go_wp2_with fail
            exact ⟨.inr ⟨rfl, rfl, hs3.out.step1, (Keeps.refl _ _).drewN _ |>.setCell (.inl (by simp)) _⟩, by decide⟩
          · obtain ⟨s0, s1⟩ := two_cells hst.1
            obtain ⟨t0, t1⟩ := two_cells hst.2
            rw [hb2] at s0
            have K4 := Lib.hid (K3.out.trans hkk (by have := K1.out.size; have := k2s.out; simp; omega))
            go_wp2_with fail
            go_ret
            exact ⟨rfl, K4.out.below (by simp) (Nat.le_refl _)⟩
    · by_cases m2 : minusN b.b a.b = 0
      · have hL2 : [0] = L := by rw [← hL]; simp [wordsL, P2, P1, P0, Sg.minus, m1, m2]
        subst hL2
        have n0 : ((a.a : Int) == (j.a : Int)) = false := by
          have : ¬ j.a = a.a := fun h => m1 (hz1.2 (hj1.1.symm.trans h))
          simp; omega
        have hb2 : a.b = j.b := by rw [hj1.2]; exact (hz2.1 m2).symm
        have l0 := hcell 0 0 rfl
        have he := fun w => sig_same w (j.a : Int) (j.b : Int)
        have HN := Lib.hid n0
        clear m1 m2 hz1 hz2 hj1 hL hcell
        simp only [List.length_cons, List.length_nil] at hlc ⊢
        go_wp2_with fail
        go_loopw [9, 10] (fun last i wr => (last = .int .i64 (-1) ∧ i = .int .i64 0 ∧ wr = w3) ∨ (last = .int .i64 0 ∧ i = .int .i64 1 ∧ St2 w2 j j.a a.b wr ∧ Keeps [w2.heap.size + 1] w3 wr)) (fun _ i _ => 1 - (intOf i).toNat)
        case atStart => exact .inl ⟨rfl, rfl, rfl⟩
        case round =>
          rcases hrel with ⟨rfl, rfl, rfl⟩ | ⟨rfl, rfl, hst, hkk⟩
          · obtain ⟨s0, s1⟩ := two_cells hs3.out.1
            obtain ⟨t0, t1⟩ := two_cells hs3.out.2
            have f0 := hs3.out.1.frozen 0
            have n0 := HN.out
            go_wp2_with fail
            go_quiet (fail)
            go_wp2_with fail
            go_region
            go_wp2_with fail
            exact ⟨.inr ⟨rfl, rfl, hs3.out.step0, (Keeps.refl _ _).drewN _ |>.setCell (.inl (by simp)) _⟩, by decide⟩
          · obtain ⟨s0, s1⟩ := two_cells hst.1
            obtain ⟨t0, t1⟩ := two_cells hst.2
            rw [hb2] at s1
            have K4 := Lib.hid (K3.out.trans hkk (by have := K1.out.size; have := k2s.out; simp; omega))
            go_wp2_with fail
            go_ret
            exact ⟨rfl, K4.out.below (by simp) (Nat.le_refl _)⟩
      · have hL2 : [0, 1] = L := by rw [← hL]; simp [wordsL, P2, P1, P0, Sg.minus, m1, m2]
        subst hL2
        have n0 : ((a.a : Int) == (j.a : Int)) = false := by
          have : ¬ j.a = a.a := fun h => m1 (hz1.2 (hj1.1.symm.trans h))
          simp; omega
        have n1 : ((a.b : Int) == (j.b : Int)) = false := by
          have : ¬ j.b = a.b := fun h => m2 (hz2.2 (hj1.2.symm.trans h))
          simp; omega
        have l0 := Lib.hid (hcell 0 0 rfl)
        have l1 := Lib.hid (hcell 1 1 rfl)
        have he := fun w => sig_same w (j.a : Int) (j.b : Int)
        have HN0 := Lib.hid n0
        have HN1 := Lib.hid n1
        clear m1 m2 hz1 hz2 hj1 hL hcell n0 n1
        simp only [List.length_cons, List.length_nil] at hlc ⊢
        go_wp2_with fail
        go_loopw [9, 10] (fun last i wr => (last = .int .i64 (-1) ∧ i = .int .i64 0 ∧ wr = w3) ∨ (last = .int .i64 0 ∧ i = .int .i64 1 ∧ St2 w2 j j.a a.b wr ∧ Keeps [w2.heap.size + 1] w3 wr) ∨ (last = .int .i64 1 ∧ i = .int .i64 2 ∧ St2 w2 j j.a j.b wr ∧ Keeps [w2.heap.size + 1] w3 wr)) (fun _ i _ => 2 - (intOf i).toNat)
        case atStart => exact .inl ⟨rfl, rfl, rfl⟩
        case round =>
          rcases hrel with ⟨rfl, rfl, rfl⟩ | ⟨rfl, rfl, hst, hkk⟩ | ⟨rfl, rfl, hst, hkk⟩
          · obtain ⟨s0, s1⟩ := two_cells hs3.out.1
            obtain ⟨t0, t1⟩ := two_cells hs3.out.2
            have f0 := hs3.out.1.frozen 0
            have n0 := HN0.out
            have l0 := l0.out
            go_wp2_with fail
            go_quiet (fail)
            go_wp2_with fail
            go_region
            go_wp2_with fail
            exact ⟨.inr (.inl ⟨rfl, rfl, hs3.out.step0, (Keeps.refl _ _).drewN _ |>.setCell (.inl (by simp)) _⟩), by decide⟩
          · obtain ⟨s0, s1⟩ := two_cells hst.1
            obtain ⟨t0, t1⟩ := two_cells hst.2
            have f0 := hst.1.frozen 1
            have n1 := HN1.out
            have l1 := (keeps_cell hkk (p := ⟨g, 1, none⟩) hgl (by simp at hg ⊢; omega)).trans l1.out
            go_wp2_with fail
            go_quiet (fail)
            go_wp2_with fail
            go_region
            go_wp2_with fail
            exact ⟨.inr (.inr ⟨rfl, rfl, hst.step1, hkk.drewN _ |>.setCell (.inl (by simp)) _⟩), by decide⟩
          · obtain ⟨s0, s1⟩ := two_cells hst.1
            obtain ⟨t0, t1⟩ := two_cells hst.2
            have K4 := Lib.hid (K3.out.trans hkk (by have := K1.out.size; have := k2s.out; simp; omega))
            go_wp2_with fail
            go_ret
            exact ⟨rfl, K4.out.below (by simp) (Nat.le_refl _)⟩

theorem own : ownKnob Tryd.prog.godebug = none := by kernel_rfl
theorem laidOut : laidOutB Tryd.prog = true := by kernel_rfl
theorem gTab : Tryd.prog.globalNamed "math/bits.deBruijn64tab" = some 0 := by kernel_rfl
theorem gTabType : (Tryd.prog.globals[0]?).map (·.type) = some 46 := by kernel_rfl
theorem cellsT : Tryd.prog.cellsOf 46 = 64 := by kernel_rfl
theorem cellsE : Tryd.prog.cellsOf 5 = 1 := by kernel_rfl
theorem table {W : World} (h : laidMetH Tryd.prog Rows.sigTouchesRow.laid W) : Lib.TabIs Tryd.prog W "math/bits.deBruijn64tab" .u8 (Lib.deBruijn64tab.map (fun k : Nat => (k : Int))) :=
  Lib.tabIs_of_head (rest := []) gTab gTabType Tryd.underlying46 Tryd.underlying5 cellsE cellsT h
theorem tabAt {W : World} (h : laidMetH Tryd.prog Rows.sigTouchesRow.laid W) : Tab W := by
  have hc : ∀ j, j < Lib.deBruijn64tab.length → W.cell? ⟨0, j, none⟩ = some (.int .u8 (Lib.deBruijn64tab.getD j 0 : Nat)) := by
    intro j hj
    have := (table h).cell gTab j (by simpa using hj)
    rw [this]
    congr 2
    simp [List.getElem?_eq_getElem hj, List.getD]
  refine ⟨?_, hc⟩
  have h0 := hc 0 (by decide)
  rcases Nat.lt_or_ge 0 W.heap.size with hlt | hge
  · exact hlt
  · rw [World.cell?, Array.getElem?_eq_none (by exact hge)] at h0; cases h0

theorem contract (H : Type) (enc : TypeId × Value → H) (W : World) (base : Nat) (args : Array Value) (ds gs : List (DataW H)) (before : List MemPlace)
    (hval0 : ∀ (j : Nat) t v, Tryd.f5.params[j]? = some t → args[j]? = some v → Value.okWide Tryd.prog W .any base t v)
    (hW : DataW.Whole enc Tryd.prog Tryd.f5.params.toList Rows.sigTouchesSpec.vars false W args.toList ds gs before) (hL : laidMetH Tryd.prog Rows.sigTouchesRow.laid W)
    (hsz : (DataW.weightsEach Tryd.prog (Tryd.f5.params.toList ++ (OpenSpec.ofChange Rows.sigTouchesSpec).bare.plain.varTypes Tryd.prog) (ds ++ gs)).all (· ≤ reachBytes) = true) :
    Calls Tryd.prog 5 args W fun e W' => ∃ v, e = .returned v ∧ Rows.sigTouchesSpec.post enc Tryd.prog Tryd.f5 false true false false W args v W' := by
  have hval := hval0
  have hW' := hW
  obtain ⟨p, q, hA0, hV, rfl, hfz, hnd⟩ := hW
  have hA : DataW.TrodAll enc Tryd.prog W 0 (fun _ => true) true Tryd.f5.params.toList args.toList ds p := hA0
  rw [Tryd.params5] at hA hval
  obtain ⟨v0, vs0, d0, ds0, p0, q0, hargs, rfl, rfl, h0, r0⟩ := trodAll_cons hA
  obtain ⟨v1, vs1, d1, ds1, p1, q1, rfl, rfl, rfl, h1, r1⟩ := trodAll_cons r0
  obtain ⟨rfl, rfl, rfl⟩ := trodAll_nil r1
  obtain rfl : args = #[v0, v1] := by cases args; simp_all
  obtain ⟨rfl, rfl⟩ := trodVars_none hV
  have k0 := h0
  have lt0 : ∀ x ∈ p0, x.block < W.heap.size := by obtain ⟨m, hm⟩ := k0; exact DataW.trod_lt m _ _ _ hm
  obtain ⟨s0, rfl, o0⟩ := sig_open (hval 0 31 v0 rfl rfl) h0
  have k1 := h1
  have lt1 : ∀ x ∈ p1, x.block < W.heap.size := by obtain ⟨m, hm⟩ := k1; exact DataW.trod_lt m _ _ _ hm
  obtain ⟨s1, rfl, o1⟩ := sig_open (hval 1 31 v1 rfl rfl) h1
  clear hA0
  refine (walk s0 s1 W (tabAt hL) o0 o1).mono fun e W' ⟨he, bel⟩ => ?_
  subst he
  exact ⟨_, rfl, _, _, _, [], _, [], hW', trodAll_mk1 (shut_bool Tryd.underlying4 _), (trodAll_cons_mk (Below.trod laidOut (by kernel_rfl) (of_decide_eq_true (by kernel_rfl)) k0 bel lt0) (trodAll_cons_mk (Below.trod laidOut (by kernel_rfl) (of_decide_eq_true (by kernel_rfl)) k1 bel lt1) trodAll_mk0)), rfl, bel.frame _, fun h => by cases h⟩

/-- A world for the witness: the table holds what its initialiser lays. -/
noncomputable def laidWorld (os : Os) : World :=
  { World.holding Tryd.prog os ⟨#[], #[], []⟩ with heap := (World.holding Tryd.prog os ⟨#[], #[], []⟩).heap.modify 0 fun
      | .cells _ t frozen => .cells (Lib.deBruijn64tab.map (fun k : Nat => Value.int .u8 k)).toArray t frozen
      | o => o }
theorem laid_met (os : Os) : laidMet Tryd.prog Rows.sigTouchesRow.laid ((laidWorld os).forCall (fun _ _ => 0) ⟨#[], #[.agg #[.int .u64 0, .int .u64 0], .agg #[.int .u64 0, .int .u64 0]], []⟩).memory :=
  laidMet_of_run' 8 (by kernel_rfl) (by kernel_rfl)
theorem reads (os : Os) {H : Type} (enc : TypeId × Value → H) : ∃ places, DataW.whole enc Tryd.prog ((laidWorld os).forCall (fun _ _ => 0) ⟨#[], #[.agg #[.int .u64 0, .int .u64 0], .agg #[.int .u64 0, .int .u64 0]], []⟩).memory Tryd.f5.params.toList Rows.sigTouchesSpec.vars false (#[.agg #[.int .u64 0, .int .u64 0], .agg #[.int .u64 0, .int .u64 0]] : Array Value).toList 8 = some ([.agg [.lit (.int .u64 0), .lit (.int .u64 0)], .agg [.lit (.int .u64 0), .lit (.int .u64 0)]], [], places) :=
  ⟨[], by kernel_rfl⟩

set_option maxRecDepth 100000 in
theorem lifted (os : Os) (started : os.Started) (H : Type) (enc : TypeId × Value → H) (F : Stop.Interp) :
    ReturnsInHanded {} Tryd.checked os 5 .any ((OpenSpec.ofChange Rows.sigTouchesSpec).preRow enc Tryd.prog Tryd.f5 Rows.sigTouchesRow.domain false Rows.sigTouchesRow.laid) (((OpenSpec.ofChange Rows.sigTouchesSpec).at F).post enc Tryd.prog Tryd.f5 false true false false) := by
  obtain ⟨places, hx⟩ := reads os enc
  refine returnsInHanded_of_row (C := Tryd.checked) (s := OpenSpec.ofChange Rows.sigTouchesSpec) own started (by kernel_rfl) Tryd.func5
    (witness_row_at (enc := enc) (C := Tryd.checked) false (laidWorld os) #[.agg #[.int .u64 0, .int .u64 0], .agg #[.int .u64 0, .int .u64 0]] rfl (by kernel_rfl) (by kernel_rfl) (by kernel_rfl)
      (OpenSpec.preRow_of_cond 8 hx (by kernel_rfl) (fun k hk => by cases hk) (by kernel_rfl) (laid_met os))) ?_
  intro W base args ds gs before hval hW _ _ hsz hL _ _
  exact contract H enc W base args ds gs before hval hW hL hsz

theorem said : Rows.SigTouchesSaid :=
  OpenClaim.holds_of_cond 5 Tryd.f5 rfl rfl rfl rfl rfl rfl rfl ⟨rfl, rfl, rfl, rfl, rfl⟩ rfl rfl rfl rfl rfl (by kernel_rfl) Tryd.func5 (by kernel_rfl)
    (of_decide_eq_true (by kernel_rfl)) (by unfold Func.isWrapper; first | (rw [if_pos (by decide +kernel)]; kernel_rfl) | (rw [if_neg (by decide +kernel)]; exact ⟨rfl, rfl⟩))
    (fun os started H enc _ F => by rw [OpenClaim.pre_eq_preRow]; exact lifted os started H enc F)

theorem plain (f : FuncId) (fn : Func) (hf : Tryd.pinned.checked.prog.funcNamed "quash/quashlaw02.SigTouches" = some f) (hfn : Tryd.pinned.checked.prog.funcs[f]? = some fn) :
    false = Tryd.pinned.checked.prog.looks [] ∧ ∀ (j : Nat) t, fn.params[j]? = some t → Tryd.pinned.checked.prog.wantsStandIn t = false := by
  obtain rfl : f = 5 := Option.some.inj ((show Tryd.prog.funcNamed "quash/quashlaw02.SigTouches" = some 5 by kernel_rfl).symm.trans hf) |>.symm
  obtain rfl : fn = Tryd.f5 := (Option.some.inj (Tryd.func5.symm.trans hfn)).symm
  refine ⟨by kernel_rfl, fun j t ht => ?_⟩
  rw [Tryd.params5] at ht
  have hm : t = 31 ∨ t = 31 := by simpa using Array.mem_of_getElem? ht
  rcases hm with rfl | rfl
  · exact (show Tryd.prog.wantsStandIn 31 = false by kernel_rfl)
  · exact (show Tryd.prog.wantsStandIn 31 = false by kernel_rfl)

/-- The card: the statement. -/
theorem proved : Rows.SigTouchesCardSaid :=
  Claim7.holds_tied_plain_at .later [] _ _ _ _ said (fun _ h => by cases h) (by kernel_rfl) (fun _ h => by cases h) sigTouches_row_tie rfl ⟨rfl, rfl⟩ (by kernel_rfl) rfl plain (by kernel_rfl)
#print axioms proved
end Go.Proofs.YtlpgcfgnimchaaaDoor.sigTouches
