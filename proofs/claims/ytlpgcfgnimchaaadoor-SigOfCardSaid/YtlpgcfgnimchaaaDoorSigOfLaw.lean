/- SigOf -/
import Derived.Test.YtlpgcfgnimchaaaDoorRows
import Derived.Test.YtlpgcfgnimchaaaDoorSigAwake
import Derived.Test.YtlpgcfgnimchaaaDoorSigROf
import Derived.Test.YtlpgcfgnimchaaaDoorSigRFrom
import Derived.Test.YtlpgcfgnimchaaaDoorSigWhole
import Derived.Test.YtlpgcfgnimchaaaDoorCards
import Derived.Test.YtlpgcfgnimchaaaDoorTie
import Derived.Deep.DeepHandedRow
import Derived.Lib.LaidTab
import Derived.WalkKit
import Derived.ProofKit
import Derived.OpenShut
import Derived.ShutString
import Derived.ChangeOld
import Derived.Below
import Derived.Carry
namespace Go.Proofs.YtlpgcfgnimchaaaDoor.sigOf
open Go.ChangeShapes Go.WideShapes Go.ChangeAt Go.RowKit
set_option linter.unusedVariables false


theorem ints_room {n : Nat} {ws : List Nat} (z : n = 0 ∨ ∃ r, (n + r) * Tryd.prog.bytesOf 3 ∈ ws) (hsz : ∀ q ∈ ws, q ≤ reachBytes) : (n + 2) * 8 ≤ 140737488355328 := by
  rcases z with rfl | ⟨r, hr⟩
  · decide
  · have := hsz _ hr
    rw [show Tryd.prog.bytesOf 3 = 8 by kernel_rfl] at this
    unfold reachBytes at this
    omega
theorem two_cells {w : World} {g : Nat} {t : TypeId} {x y : Value} (h : Blk w g t #[x, y]) : w.cell? ⟨g, 0, none⟩ = some x ∧ w.cell? ⟨g, 1, none⟩ = some y := ⟨(h.cell 0).trans rfl, (h.cell 1).trans rfl⟩
def ofS (n : Int) (l : List Int) : Sg := if n < 1 ∨ 128 < n then Sg.zero else ofR n l
def ofF (n : Int) (l : List Int) : Int := if n < 1 ∨ 128 < n then 1 else ofE l
theorem of_all (w : World) (A : Option Addr) (c : Nat) (l : List Int) (hA : Slc w A l) (n : Int) :
    Calls Tryd.prog 13 #[.slice A l.length c, .int .i64 n] w fun e w' => e = .returned (.tuple #[.agg #[.int .u64 ((ofS n l).a : Int), .int .u64 ((ofS n l).b : Int)], .int .i64 (ofF n l)]) ∧ Keeps [] w w' := by
  by_cases h : n < 1 ∨ 128 < n
  · unfold ofS ofF; rw [if_pos h, if_pos h]; exact of_arg w A _ c n h
  · unfold ofS ofF; rw [if_neg h, if_neg h]; exact of_any w A c l hA n (by omega) (by omega)
theorem rof_all (w : World) (A : Option Addr) (c : Nat) (l : List Int) (hA : Slc w A l) (n : Int) :
    Calls Tryd.prog 14 #[.slice A l.length c, .int .i64 n] w fun e w' => e = .returned (.tuple #[.agg #[.int .u64 ((ofS n l).a : Int), .int .u64 ((ofS n l).b : Int)], .int .i64 (ofF n l)]) ∧ Keeps [] w w' := by
  by_cases h : n < 1 ∨ 128 < n
  · unfold ofS ofF; rw [if_pos h, if_pos h]; exact rof_arg w A _ c n h
  · unfold ofS ofF; rw [if_neg h, if_neg h]; exact rof_any w A c l hA n (by omega) (by omega)
theorem from_all (w : World) (A : Option Addr) (c : Nat) (l : List Int) (hA : Slc w A l) :
    Calls Tryd.prog 15 #[.slice A l.length c] w fun e w' => e = .returned (.tuple #[.agg #[.int .u64 ((fromR l).a : Int), .int .u64 ((fromR l).b : Int)], .int .i64 (fromE l)]) ∧ Keeps [] w w' := from_any w A c l hA
theorem rfrom_all (w : World) (A : Option Addr) (c : Nat) (l : List Int) (hA : Slc w A l) :
    Calls Tryd.prog 16 #[.slice A l.length c] w fun e w' => e = .returned (.tuple #[.agg #[.int .u64 ((fromR l).a : Int), .int .u64 ((fromR l).b : Int)], .int .i64 (fromE l)]) ∧ Keeps [] w w' := rfrom_any w A c l hA
set_option maxHeartbeats 2000000 in
theorem walk (A : Option Addr) (c : Nat) (xs : List Int) (n : Int) (B : Option Addr) (d : Nat) (ys : List Int) (W : World) (hT : Tab W) (hA : Slc W A xs) (lx : (xs.length + 2) * 8 ≤ 140737488355328) (hn : (Lit.int IntKind.i64 n).wf = true) (hB : Slc W B ys) (ly : (ys.length + 2) * 8 ≤ 140737488355328) :
    Calls Tryd.prog 4 #[.slice A xs.length c, .int .i64 n, .slice B ys.length d] W fun e w' => e = .returned (.bool true) ∧ Below W.heap.size W w' := by
  have HA := Lib.hid hA
  have HB := Lib.hid hB
  have HLX := Lib.hid lx
  have HLY := Lib.hid ly
  obtain ⟨s, hs⟩ : ∃ s, ofS n xs = s := ⟨_, rfl⟩
  obtain ⟨f, hf⟩ : ∃ f, ofF n xs = f := ⟨_, rfl⟩
  obtain ⟨u, hu⟩ : ∃ u, fromR ys = u := ⟨_, rfl⟩
  obtain ⟨h, hh⟩ : ∃ h, fromE ys = h := ⟨_, rfl⟩
  have q1 := fun w A c (h : Slc w A xs) => of_all w A c xs h n
  have q2 := fun w A c (h : Slc w A xs) => rof_all w A c xs h n
  have q3 := fun w A c (h : Slc w A ys) => from_all w A c ys h
  have q4 := fun w A c (h : Slc w A ys) => rfrom_all w A c ys h
  simp only [hs, hf, hu, hh] at q1 q2 q3 q4
  have Q1 := Lib.hid q1
  have Q2 := Lib.hid q2
  have Q3 := Lib.hid q3
  have Q4 := Lib.hid q4
  have se1 := fun w => sig_same w (s.a : Int) (s.b : Int)
  have se2 := fun w => sig_same w (u.a : Int) (u.b : Int)
  clear q1 q2 q3 q4 hA hB lx ly hs hf hu hh
  go_enter Tryd.func4, Tryd.ntmps4
  go_wp2_with fail
  refine (awake_any _ hT).mono ?_
  rintro e w1 ⟨rfl, k1⟩
  have K1 := Lib.hid k1
  clear k1
  go_wp2_with fail
  refine (lent_any _ _ _ xs (HA.out.keeps K1.out) HLX.out).mono ?_
  rintro e w2 ⟨v, rfl, g1, c1, rfl, hc1, hm1, hs1, k2⟩
  have S1 := Lib.hid hs1
  have K2 := Lib.hid (K1.out.trans k2 (by simp))
  clear k2 hs1
  go_wp2_with fail
  refine (lent_any _ _ _ ys (HB.out.keeps K2.out) HLY.out).mono ?_
  rintro e w3 ⟨v, rfl, g2, c2, rfl, hc2, hm2, hs2, k3⟩
  have S2 := Lib.hid hs2
  have S13 := Lib.hid (S1.out.keeps k3)
  have K3 := Lib.hid (K2.out.trans k3 (by simp))
  clear k3 hs2
  go_wp2_with fail
  refine (Q1.out _ _ _ S13.out.left).mono ?_
  rintro e w4 ⟨rfl, k4⟩
  have k4' := k4.alloc (.cells #[.int .u64 (s.a : Int), .int .u64 (s.b : Int)] 31)
  have b4 := Lib.hid (Blk.new w4 31 #[.int .u64 (s.a : Int), .int .u64 (s.b : Int)])
  have S14 := Lib.hid (S13.out.keeps k4')
  have S24 := Lib.hid (S2.out.keeps k4')
  have K4 := Lib.hid (K3.out.trans k4' (by simp))
  clear k4 k4'
  go_wp2_with fail
  refine (Q2.out _ _ _ (HA.out.keeps K4.out)).mono ?_
  rintro e w5 ⟨rfl, k5⟩
  have k5' := k5.alloc (.cells #[.int .u64 (s.a : Int), .int .u64 (s.b : Int)] 31)
  have b5 := Lib.hid (Blk.new w5 31 #[.int .u64 (s.a : Int), .int .u64 (s.b : Int)])
  have S15 := Lib.hid (S14.out.keeps k5')
  have S25 := Lib.hid (S24.out.keeps k5')
  have K5 := Lib.hid (K4.out.trans k5' (by simp))
  have b4 := Lib.hid (b4.out.keeps k5' (by simp))
  clear k5 k5'
  go_wp2_with fail
  refine (Q3.out _ _ _ S25.out.left).mono ?_
  rintro e w6 ⟨rfl, k6⟩
  have k6' := k6.alloc (.cells #[.int .u64 (u.a : Int), .int .u64 (u.b : Int)] 31)
  have b6 := Lib.hid (Blk.new w6 31 #[.int .u64 (u.a : Int), .int .u64 (u.b : Int)])
  have S16 := Lib.hid (S15.out.keeps k6')
  have S26 := Lib.hid (S25.out.keeps k6')
  have K6 := Lib.hid (K5.out.trans k6' (by simp))
  have b4 := Lib.hid (b4.out.keeps k6' (by simp))
  have b5 := Lib.hid (b5.out.keeps k6' (by simp))
  clear k6 k6'
  go_wp2_with fail
  refine (Q4.out _ _ _ (HB.out.keeps K6.out)).mono ?_
  rintro e w7 ⟨rfl, k7⟩
  have k7' := k7.alloc (.cells #[.int .u64 (u.a : Int), .int .u64 (u.b : Int)] 31)
  have b7 := Lib.hid (Blk.new w7 31 #[.int .u64 (u.a : Int), .int .u64 (u.b : Int)])
  have S17 := Lib.hid (S16.out.keeps k7')
  have S27 := Lib.hid (S26.out.keeps k7')
  have K7 := Lib.hid (K6.out.trans k7' (by simp))
  have b4 := Lib.hid (b4.out.keeps k7' (by simp))
  have b5 := Lib.hid (b5.out.keeps k7' (by simp))
  have b6 := Lib.hid (b6.out.keeps k7' (by simp))
  clear k7 k7'
  obtain ⟨x4_a, y4_a⟩ := two_cells b4.out
  obtain ⟨x5_a, y5_a⟩ := two_cells b5.out
  obtain ⟨x6_a, y6_a⟩ := two_cells b6.out
  obtain ⟨x7_a, y7_a⟩ := two_cells b7.out
  go_wp2_with fail
  refine (whole_any _ g1 c1 _ _ xs S17.out hc1 hm1 (HA.out.keeps K7.out)).mono ?_
  rintro e w8 ⟨rfl, k8⟩
  have S28 := Lib.hid (S27.out.keeps k8)
  have K8 := Lib.hid (K7.out.trans k8 (by simp))
  have b4 := Lib.hid (b4.out.keeps k8 (by simp))
  have b5 := Lib.hid (b5.out.keeps k8 (by simp))
  have b6 := Lib.hid (b6.out.keeps k8 (by simp))
  have b7 := Lib.hid (b7.out.keeps k8 (by simp))
  clear k8
  obtain ⟨x4_ab, y4_ab⟩ := two_cells b4.out
  obtain ⟨x5_ab, y5_ab⟩ := two_cells b5.out
  obtain ⟨x6_ab, y6_ab⟩ := two_cells b6.out
  obtain ⟨x7_ab, y7_ab⟩ := two_cells b7.out
  go_wp2_with fail
  refine (whole_any _ g2 c2 _ _ ys S28.out hc2 hm2 (HB.out.keeps K8.out)).mono ?_
  rintro e w9 ⟨rfl, k9⟩
  have K9 := Lib.hid (K8.out.trans k9 (by simp))
  have b4 := Lib.hid (b4.out.keeps k9 (by simp))
  have b5 := Lib.hid (b5.out.keeps k9 (by simp))
  have b6 := Lib.hid (b6.out.keeps k9 (by simp))
  have b7 := Lib.hid (b7.out.keeps k9 (by simp))
  clear k9
  obtain ⟨x4_bb, y4_bb⟩ := two_cells b4.out
  obtain ⟨x5_bb, y5_bb⟩ := two_cells b5.out
  obtain ⟨x6_bb, y6_bb⟩ := two_cells b6.out
  obtain ⟨x7_bb, y7_bb⟩ := two_cells b7.out
  go_wp2_with fail
  go_ret
  exact ⟨rfl, K9.out.below (by simp) (Nat.le_refl _)⟩

theorem own : ownKnob Tryd.prog.godebug = none := by kernel_rfl
theorem laidOut : laidOutB Tryd.prog = true := by kernel_rfl
theorem gTab : Tryd.prog.globalNamed "math/bits.deBruijn64tab" = some 0 := by kernel_rfl
theorem gTabType : (Tryd.prog.globals[0]?).map (·.type) = some 46 := by kernel_rfl
theorem cellsT : Tryd.prog.cellsOf 46 = 64 := by kernel_rfl
theorem cellsE : Tryd.prog.cellsOf 5 = 1 := by kernel_rfl
theorem table {W : World} (h : laidMetH Tryd.prog Rows.sigOfRow.laid W) : Lib.TabIs Tryd.prog W "math/bits.deBruijn64tab" .u8 (Lib.deBruijn64tab.map (fun k : Nat => (k : Int))) :=
  Lib.tabIs_of_head (rest := []) gTab gTabType Tryd.underlying46 Tryd.underlying5 cellsE cellsT h
theorem tabAt {W : World} (h : laidMetH Tryd.prog Rows.sigOfRow.laid W) : Tab W := by
  have hc : ∀ j, j < Lib.deBruijn64tab.length → W.cell? ⟨0, j, none⟩ = some (.int .u8 (Lib.deBruijn64tab.getD j 0 : Nat)) := by
    intro j hj
    have := (table h).cell gTab j (by simpa using hj)
    rw [this]
    congr 2
    simp [List.getElem?_eq_getElem hj, List.getD]
  refine ⟨?_, hc⟩
  have h0 := hc 0 (by decide)
  rcases Nat.lt_or_ge 0 W.heap.size with hlt | hge
  · exact hlt
  · rw [World.cell?, Array.getElem?_eq_none (by exact hge)] at h0; cases h0

theorem contract (H : Type) (enc : TypeId × Value → H) (W : World) (base : Nat) (args : Array Value) (ds gs : List (DataW H)) (before : List MemPlace)
    (hval0 : ∀ (j : Nat) t v, Tryd.f4.params[j]? = some t → args[j]? = some v → Value.okWide Tryd.prog W .any base t v)
    (hW : DataW.Whole enc Tryd.prog Tryd.f4.params.toList Rows.sigOfSpec.vars false W args.toList ds gs before) (hL : laidMetH Tryd.prog Rows.sigOfRow.laid W)
    (hsz : (DataW.weightsEach Tryd.prog (Tryd.f4.params.toList ++ (OpenSpec.ofChange Rows.sigOfSpec).bare.plain.varTypes Tryd.prog) (ds ++ gs)).all (· ≤ reachBytes) = true) :
    Calls Tryd.prog 4 args W fun e W' => ∃ v, e = .returned v ∧ Rows.sigOfSpec.post enc Tryd.prog Tryd.f4 false true false false W args v W' := by
  have hval := hval0
  have hW' := hW
  obtain ⟨p, q, hA0, hV, rfl, hfz, hnd⟩ := hW
  have hA : DataW.TrodAll enc Tryd.prog W 0 (fun _ => true) true Tryd.f4.params.toList args.toList ds p := hA0
  rw [Tryd.params4] at hA hval
  obtain ⟨v0, vs0, d0, ds0, p0, q0, hargs, rfl, rfl, h0, r0⟩ := trodAll_cons hA
  obtain ⟨v1, vs1, d1, ds1, p1, q1, rfl, rfl, rfl, h1, r1⟩ := trodAll_cons r0
  obtain ⟨v2, vs2, d2, ds2, p2, q2, rfl, rfl, rfl, h2, r2⟩ := trodAll_cons r1
  obtain ⟨rfl, rfl, rfl⟩ := trodAll_nil r2
  obtain rfl : args = #[v0, v1, v2] := by cases args; simp_all
  obtain ⟨rfl, rfl⟩ := trodVars_none hV
  have k0 := h0
  have lt0 : ∀ x ∈ p0, x.block < W.heap.size := by obtain ⟨m, hm⟩ := k0; exact DataW.trod_lt m _ _ _ hm
  obtain ⟨A0, n0, c0, rfl⟩ := okWide_slice Tryd.underlying27 (hval 0 27 v0 rfl rfl)
  obtain ⟨fl0, hf0⟩ := h0
  obtain ⟨⟨xs0, s0⟩, z0⟩ := ints_open Tryd.underlying27 Tryd.underlying3 (by kernel_rfl) hf0
  have b0 := ints_room z0 (fun q hq => by have h := List.all_eq_true.1 hsz _ (DataW.weights_mem_each (j := 0) (t := 27) (d := d0) rfl rfl q hq); simpa using h)
  obtain rfl := s0.1
  obtain ⟨a1, rfl, rfl, rfl, w1⟩ := open_int Tryd.underlying3 (hval 1 3 v1 rfl rfl) h1
  have k2 := h2
  have lt2 : ∀ x ∈ p2, x.block < W.heap.size := by obtain ⟨m, hm⟩ := k2; exact DataW.trod_lt m _ _ _ hm
  obtain ⟨A2, n2, c2, rfl⟩ := okWide_slice Tryd.underlying27 (hval 2 27 v2 rfl rfl)
  obtain ⟨fl2, hf2⟩ := h2
  obtain ⟨⟨xs2, s2⟩, z2⟩ := ints_open Tryd.underlying27 Tryd.underlying3 (by kernel_rfl) hf2
  have b2 := ints_room z2 (fun q hq => by have h := List.all_eq_true.1 hsz _ (DataW.weights_mem_each (j := 2) (t := 27) (d := d2) rfl rfl q hq); simpa using h)
  obtain rfl := s2.1
  clear hA0
  refine (walk A0 c0 xs0 a1 A2 c2 xs2 W (tabAt hL) (Slc.of_ints s0) b0 w1 (Slc.of_ints s2) b2).mono fun e W' ⟨he, bel⟩ => ?_
  subst he
  exact ⟨_, rfl, _, _, _, [], _, [], hW', trodAll_mk1 (shut_bool Tryd.underlying4 _), (trodAll_cons_mk (Below.trod laidOut (by kernel_rfl) (of_decide_eq_true (by kernel_rfl)) k0 bel lt0) (trodAll_cons_mk (shut_int Tryd.underlying3 w1) (trodAll_cons_mk (Below.trod laidOut (by kernel_rfl) (of_decide_eq_true (by kernel_rfl)) k2 bel lt2) trodAll_mk0))), rfl, bel.frame _, fun h => by cases h⟩

/-- A world for the witness: the table holds what its initialiser lays. -/
noncomputable def laidWorld (os : Os) : World :=
  { World.holding Tryd.prog os ⟨#[], #[], []⟩ with heap := (World.holding Tryd.prog os ⟨#[], #[], []⟩).heap.modify 0 fun
      | .cells _ t frozen => .cells (Lib.deBruijn64tab.map (fun k : Nat => Value.int .u8 k)).toArray t frozen
      | o => o }
theorem laid_met (os : Os) : laidMet Tryd.prog Rows.sigOfRow.laid ((laidWorld os).forCall (fun _ _ => 0) ⟨#[], #[.slice none 0 0, .int .i64 0, .slice none 0 0], []⟩).memory :=
  laidMet_of_run' 8 (by kernel_rfl) (by kernel_rfl)
theorem reads (os : Os) {H : Type} (enc : TypeId × Value → H) : ∃ places, DataW.whole enc Tryd.prog ((laidWorld os).forCall (fun _ _ => 0) ⟨#[], #[.slice none 0 0, .int .i64 0, .slice none 0 0], []⟩).memory Tryd.f4.params.toList Rows.sigOfSpec.vars false (#[.slice none 0 0, .int .i64 0, .slice none 0 0] : Array Value).toList 8 = some ([.nil, .lit (.int .i64 0), .nil], [], places) :=
  ⟨[], by kernel_rfl⟩

set_option maxRecDepth 100000 in
theorem lifted (os : Os) (started : os.Started) (H : Type) (enc : TypeId × Value → H) (F : Stop.Interp) :
    ReturnsInHanded {} Tryd.checked os 4 .any ((OpenSpec.ofChange Rows.sigOfSpec).preRow enc Tryd.prog Tryd.f4 Rows.sigOfRow.domain false Rows.sigOfRow.laid) (((OpenSpec.ofChange Rows.sigOfSpec).at F).post enc Tryd.prog Tryd.f4 false true false false) := by
  obtain ⟨places, hx⟩ := reads os enc
  refine returnsInHanded_of_row (C := Tryd.checked) (s := OpenSpec.ofChange Rows.sigOfSpec) own started (by kernel_rfl) Tryd.func4
    (witness_row_at (enc := enc) (C := Tryd.checked) false (laidWorld os) #[.slice none 0 0, .int .i64 0, .slice none 0 0] rfl (by kernel_rfl) (by kernel_rfl) (by kernel_rfl)
      (OpenSpec.preRow_of_cond 8 hx (by kernel_rfl) (fun k hk => by cases hk) (by kernel_rfl) (laid_met os))) ?_
  intro W base args ds gs before hval hW _ _ hsz hL _ _
  exact contract H enc W base args ds gs before hval hW hL hsz

theorem said : Rows.SigOfSaid :=
  OpenClaim.holds_of_cond 4 Tryd.f4 rfl rfl rfl rfl rfl rfl rfl ⟨rfl, rfl, rfl, rfl, rfl⟩ rfl rfl rfl rfl rfl (by kernel_rfl) Tryd.func4 (by kernel_rfl)
    (of_decide_eq_true (by kernel_rfl)) (by unfold Func.isWrapper; first | (rw [if_pos (by decide +kernel)]; kernel_rfl) | (rw [if_neg (by decide +kernel)]; exact ⟨rfl, rfl⟩))
    (fun os started H enc _ F => by rw [OpenClaim.pre_eq_preRow]; exact lifted os started H enc F)

theorem plain (f : FuncId) (fn : Func) (hf : Tryd.pinned.checked.prog.funcNamed "quash/quashlaw02.SigOf" = some f) (hfn : Tryd.pinned.checked.prog.funcs[f]? = some fn) :
    false = Tryd.pinned.checked.prog.looks [] ∧ ∀ (j : Nat) t, fn.params[j]? = some t → Tryd.pinned.checked.prog.wantsStandIn t = false := by
  obtain rfl : f = 4 := Option.some.inj ((show Tryd.prog.funcNamed "quash/quashlaw02.SigOf" = some 4 by kernel_rfl).symm.trans hf) |>.symm
  obtain rfl : fn = Tryd.f4 := (Option.some.inj (Tryd.func4.symm.trans hfn)).symm
  refine ⟨by kernel_rfl, fun j t ht => ?_⟩
  rw [Tryd.params4] at ht
  have hm : t = 27 ∨ t = 3 ∨ t = 27 := by simpa using Array.mem_of_getElem? ht
  rcases hm with rfl | rfl | rfl
  · exact (show Tryd.prog.wantsStandIn 27 = false by kernel_rfl)
  · exact (show Tryd.prog.wantsStandIn 3 = false by kernel_rfl)
  · exact (show Tryd.prog.wantsStandIn 27 = false by kernel_rfl)

/-- The card: the statement. -/
theorem proved : Rows.SigOfCardSaid :=
  Claim7.holds_tied_plain_at .later [] _ _ _ _ said (fun _ h => by cases h) (by kernel_rfl) (fun _ h => by cases h) sigOf_row_tie rfl ⟨rfl, rfl⟩ (by kernel_rfl) rfl plain (by kernel_rfl)
#print axioms proved
end Go.Proofs.YtlpgcfgnimchaaaDoor.sigOf
