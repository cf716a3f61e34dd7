/- ReadPlays: the walk: what the call does, wherever what it reads is of bulk at most 1048576. -/
import Derived.Test.YtdhgiohjdhcedaaGreatRdKit
import Derived.Test.YtdhgiohjdhcedaaGreatRegT
import Derived.Test.YtdhgiohjdhcedaaGreatElStep
import Derived.Test.YtdhgiohjdhcedaaGreatOneStruct
import Derived.Deep.RegionHeld3
import Derived.Deep.QuietTactic
import Derived.BigQuiet
import Derived.Deep.DeepCutAuto
import Derived.Deep.CutBlock
import Derived.WalkKit
namespace Go.Proofs.YtdhgiohjdhcedaaGreat.readPlays
open Go.RowKit
set_option linter.unusedVariables false
set_option linter.unusedSimpArgs false

open PR
theorem src_of {w : World} {A : Option Addr} {xs : List Int} (h : Slc w A xs) : Src w A xs := fun h0 => by
  rcases h.2 with rfl | ⟨b, off, rfl, _, hc⟩
  · simp at h0
  · refine ⟨_, rfl, fun j v hv => ?_⟩
    rw [List.getElem?_map] at hv
    cases hx : xs[j]? with
    | none => simp [hx] at hv
    | some x =>
      simp [hx] at hv
      have e : (⟨b, off, none⟩ : Addr).add j = ⟨b, off + j, none⟩ := by unfold Addr.add; split <;> simp_all
      rw [e, ← hv]
      exact hc j x hx
section
variable {w0 w w' : World} {z : Sb} {F : List Nat} {y : Rb} {G : List Nat} {S T : Sp}
theorem fill_two (h : Two w0 w z F y G S T) (A : Option Addr) (xs : List Int) (c : Nat) (hA : Slc w0 A xs) : Calls Tryz.prog 74 #[PT z.p, .slice A xs.length c] w fun e w' => e = .returned (.int .i64 (S.fill xs).1) ∧ ∃ F', Two w0 w' z F' y G (S.fill xs).2 T :=
  (sp_fill h.sp A xs c (src_of (hA.keeps h.sp.keep)) hA.1).mono fun e w' ⟨he, hw⟩ => ⟨he, by obtain ⟨F', h1, _⟩ := h.left hw; exact ⟨F', h1⟩⟩
theorem rfill_two (h : Two w0 w z F y G S T) (A : Option Addr) (xs : List Int) (c : Nat) (hA : Slc w0 A xs) : Calls Tryz.prog 75 #[PT y.r, .slice A xs.length c] w fun e w' => e = .returned (.int .i64 (T.fill xs).1) ∧ ∃ G', Two w0 w' z F y G' S (T.fill xs).2 :=
  (rp_fill h.rp A xs c hA).mono fun e w' ⟨he, hw⟩ => ⟨he, by obtain ⟨G', h1, _⟩ := h.right hw; exact ⟨G', h1⟩⟩
end
theorem fill_c (S : Sp) (l : List Int) : (S.fill l).2.c = S.c := by unfold Sp.fill; split <;> rfl
set_option maxRecDepth 100000 in
set_option maxHeartbeats 16000000 in
theorem walk (cf : Cf) (B : Option Addr) (cb : Nat) (ys : List Int) (A : Option Addr) (n c : Nat) (ops : List ElStep) (w : World) (hB : Slc w B ys) (hs : LstStep w A n c ops) :
    Calls Tryz.prog 12 #[.agg #[.int .i64 cf.cells, .int .i64 cf.slots, .int .i64 cf.bits, .int .i64 cf.tag, .int .i64 cf.bias, .int .i64 cf.defer], .slice B ys.length cb, .slice A n c] w fun e w' => e = .returned (.bool true) ∧ Below w.heap.size w w' := by
  have HSC := Lib.hid hs
  have HBS := Lib.hid hB
  have hn := hs.2.2.1
  have hni : (n : Int) ≤ 1048576 := by omega
  clear hs hB
  have kB : Keeps [] w (w.alloc (.cells cf.vals 23)) := (Keeps.refl _ _).alloc _
  have hb : Blk (w.alloc (.cells cf.vals 23)) w.heap.size 23 cf.vals := Blk.new _ _ _
  have HKB := Lib.hid kB
  have HBB := Lib.hid hb
  clear kB hb
  go_enter Tryz.func12, Tryz.ntmps12
  go_wp2_with fail
  refine (awake11 _).mono ?_
  rintro e w1 ⟨rfl, hk1⟩
  have HK1 : Hid (Keeps [] w w1) := HKB.out.trans hk1 (by simp)
  have HB1 : Hid (Blk w1 w.heap.size 23 cf.vals) := HBB.out.keeps hk1 (by simp)
  clear hk1 HKB HBB
  obtain ⟨d0, d1, d2, d3, d4, d5⟩ := cf_cells HB1.out
  go_wp2_with fail
  by_cases hok : cf.ok
  · refine (sp_new w1 cf hok).mono ?_
    rintro e w2 ⟨z, F, rfl, hsp⟩
    have HS2 := Lib.hid (hsp.base HK1.out)
    have hk2 := hsp.keep
    have HB2 : Hid (Blk w2 w.heap.size 23 cf.vals) := HB1.out.keeps hk2 (by simp)
    clear hsp hk2 d0 d1 d2 d3 d4 d5 HB1
    obtain ⟨d0, d1, d2, d3, d4, d5⟩ := cf_cells HB2.out
    go_wp2_with fail
    refine (rp_new w2 cf hok).mono ?_
    rintro e w3 ⟨y, G, rfl, hrp⟩
    have HT : Hid (Two w w3 z F y G (Sp.new cf) (Sp.new cf)) := by
      have hk3 := hrp.keep
      refine ⟨HS2.out.calm hk3, hrp.base HS2.out.keep, fun x hx hg => ?_⟩
      have h1 := HS2.out.lt x hx
      have h2 := hrp.low x hg
      omega
    clear hrp d0 d1 d2 d3 d4 d5 HS2 HB2 HK1
    obtain ⟨ans, hans⟩ : ∃ v, ((Sp.new cf).fill ys).1 = v := ⟨_, rfl⟩
    obtain ⟨S0, hS0⟩ : ∃ v, ((Sp.new cf).fill ys).2 = v := ⟨_, rfl⟩
    have QF : Hid (∀ w' (F G : List Nat) (T : Sp), Two w w' z F y G (Sp.new cf) T → Calls Tryz.prog 74 #[PT z.p, .slice B ys.length cb] w' fun e w'' => e = .returned (.int .i64 ans) ∧ ∃ F', Two w w'' z F' y G S0 T) := fun w' F G T h => by
      have := fill_two h B ys cb HBS.out
      rw [hans, hS0] at this
      exact this
    have QG : Hid (∀ w' (F G : List Nat) (S : Sp), Two w w' z F y G S (Sp.new cf) → Calls Tryz.prog 75 #[PT y.r, .slice B ys.length cb] w' fun e w'' => e = .returned (.int .i64 ans) ∧ ∃ G', Two w w'' z F y G' S S0) := fun w' F G S h => by
      have := rfill_two h B ys cb HBS.out
      rw [hans, hS0] at this
      exact this
    have HF0 : Hid (Fit 0 S0) := hS0 ▸ (Fit.new hok).fill ys
    have HC0 : Hid (S0.c = cf) := hS0 ▸ fill_c _ _
    have hkB : Keeps [] w3 w3 := Keeps.refl _ _
    clear hans hS0 HBS
    go_upto_region 8 with fail
    go_cut [62] (fun v wx => v = .bool false ∧ ∃ F' G', Two w wx z F' y G' S0 S0)
    case first =>
      refine wp_region_noPanic ?_
      refine wp_region_L 99 (fun w' => w'.cell? ⟨y.p, 7, none⟩ = some (PT y.r)) (by kernel_rfl) ?_
      have hHeld := (HT.out.rp.calm hkB.drew).cells.2.2.2.2.1
      refine wpAnyL_takeT (i := 0) (v := ?rvf0) rfl (by kernel_rfl) (by kernel_rfl) (by kernel_rfl) (by kernel_rfl) (fun _ _ _ h => h) (Or.inl ⟨by rfl, ?ryf0⟩) hHeld ?rrf0
      case ryf0 => (intro w' hSw; (try dsimp only at hSw); go_simp; first | done | with_reducible rfl)
      case' rrf0 => (try simp only [Act.put, List.setIfInBounds_toArray, List.set_cons_zero, List.set_cons_succ])
      refine wpAnyL_takeT (i := 1) (v := ?rvf1) rfl (by kernel_rfl) (by kernel_rfl) (by kernel_rfl) (by kernel_rfl) (fun _ _ _ h => h) (Or.inl ⟨by rfl, ?ryf1⟩) hHeld ?rrf1
      case ryf1 => (intro w' hSw; (try dsimp only at hSw); go_simp; first | done | with_reducible rfl)
      case' rrf1 => (try simp only [Act.put, List.setIfInBounds_toArray, List.set_cons_zero, List.set_cons_succ])
      refine wpAnyL_takeT (i := 3) (v := ?rvf3) rfl (by kernel_rfl) (by kernel_rfl) (by kernel_rfl) (by kernel_rfl) (fun _ _ _ h => h) (Or.inl ⟨by rfl, ?ryf3⟩) hHeld ?rrf3
      case ryf3 => (intro w' hSw; (try dsimp only at hSw); go_simp; first | done | with_reducible rfl)
      case' rrf3 => (try simp only [Act.put, List.setIfInBounds_toArray, List.set_cons_zero, List.set_cons_succ])
      refine wpAnyL_takeT (i := 4) (v := ?rvf4) rfl (by kernel_rfl) (by kernel_rfl) (by kernel_rfl) (by kernel_rfl) (fun _ _ _ h => h) (Or.inl ⟨by rfl, ?ryf4⟩) hHeld ?rrf4
      case ryf4 => (intro w' hSw; (try dsimp only at hSw); go_simp; first | done | with_reducible rfl)
      case' rrf4 => (try simp only [Act.put, List.setIfInBounds_toArray, List.set_cons_zero, List.set_cons_succ])
      refine wpAnyL_takeT (i := 5) (v := ?rvf5) rfl (by kernel_rfl) (by kernel_rfl) (by kernel_rfl) (by kernel_rfl) (fun _ _ _ h => h) (Or.inl ⟨by rfl, ?ryf5⟩) hHeld ?rrf5
      case ryf5 => (intro w' hSw; (try dsimp only at hSw); go_simp; first | done | with_reducible rfl)
      case' rrf5 => (try simp only [Act.put, List.setIfInBounds_toArray, List.set_cons_zero, List.set_cons_succ])
      refine wpAnyL_takeT (i := 6) (v := ?rvf6) rfl (by kernel_rfl) (by kernel_rfl) (by kernel_rfl) (by kernel_rfl) (fun _ _ _ h => h) (Or.inl ⟨by rfl, ?ryf6⟩) hHeld ?rrf6
      case ryf6 => (intro w' hSw; (try dsimp only at hSw); go_simp; first | done | with_reducible rfl)
      case' rrf6 => (try simp only [Act.put, List.setIfInBounds_toArray, List.set_cons_zero, List.set_cons_succ])
      refine wpAnyL_takeT (i := 7) (v := ?rvf7) rfl (by kernel_rfl) (by kernel_rfl) (by kernel_rfl) (by kernel_rfl) (fun _ _ _ h => h) (Or.inl ⟨by rfl, ?ryf7⟩) hHeld ?rrf7
      case ryf7 => (intro w' hSw; (try dsimp only at hSw); go_simp; first | done | with_reducible rfl)
      case' rrf7 => (try simp only [Act.put, List.setIfInBounds_toArray, List.set_cons_zero, List.set_cons_succ])
      refine wpAnyL_oneT (i := 2) (by kernel_rfl) rfl (fun K hK => ?_)
      go_simp
      go_at_call 74
      refine (QF.out _ _ _ _ (HT.out.calm hkB.drew)).mono ?_
      rintro e w4 ⟨rfl, F4, hT4⟩
      go_simp
      refine hK.out _ _ (fun _ => hT4.rp.cells.2.2.2.2.1) ?_
      clear hK K
      try simp only [Act.put, List.setIfInBounds_toArray, List.set_cons_zero, List.set_cons_succ]
      refine wpAnyL_oneT (i := 8) (by kernel_rfl) rfl (fun K hK => ?_)
      go_simp
      go_at_call 75
      refine (QG.out _ _ _ _ hT4).mono ?_
      rintro e w5 ⟨rfl, G5, hT5⟩
      go_simp
      refine hK.out _ _ (fun _ => hT5.rp.cells.2.2.2.2.1) ?_
      clear hK K
      try simp only [Act.put, List.setIfInBounds_toArray, List.set_cons_zero, List.set_cons_succ]
      replace hHeld := hT5.rp.cells.2.2.2.2.1
      refine wpAnyL_takeT (i := 9) (v := ?rvf9) rfl (by kernel_rfl) (by kernel_rfl) (by kernel_rfl) (by kernel_rfl) (fun _ _ _ h => h) (Or.inl ⟨by rfl, ?ryf9⟩) hHeld ?rrf9
      case ryf9 => (intro w' hSw; (try dsimp only at hSw); go_simp; first | done | with_reducible rfl)
      case' rrf9 => (try simp only [Act.put, List.setIfInBounds_toArray, List.set_cons_zero, List.set_cons_succ])
      refine wpAnyL_done (by kernel_rfl) ?_ _
      refine NoPanic.normal ?_
      go_wp2_with fail
      go_meet
      exact ⟨rfl, _, _, hT5⟩
    case rest =>
      obtain ⟨rfl, F5, G5, ht5⟩ := hcut
      obtain ⟨w6, hw6⟩ : ∃ v, v = wc := ⟨_, rfl⟩
      subst hw6
      have HR0 := Lib.hid (Rig.start rk ht5.sp ht5.rp ht5.far)
      clear HT QF QG hkB ht5
      obtain ⟨w4, hw4⟩ : ∃ v, ((w6.alloc (.cells (arr (fun _ => (none : Option (Nat × Rd)))) 167)).alloc (.cells (arr (fun _ => (none : Option (Nat × Rd)))) 169)) = v := ⟨_, rfl⟩
      rw [hw4] at HR0
      have hw5 : ((w6.alloc (.cells #[.pointer none, .pointer none, .pointer none, .pointer none] 167)).alloc (.cells #[.pointer none, .pointer none, .pointer none, .pointer none] 169)) = w4 := hw4
      obtain ⟨xb, hxb⟩ : ∃ v, w6.heap.size = v := ⟨_, rfl⟩
      clear hw4
      go_wp2_with fail
      try rw [hw5]
      rw [hxb] at HR0
      try rw [hxb]
      obtain ⟨yb, hyb⟩ : ∃ v, xb + 1 = v := ⟨_, rfl⟩
      rw [hyb] at HR0
      try rw [hyb]
      clear hw5 hxb hyb
      go_loopw [14] (fun i wr => ∃ (k : Nat) (S : Sp) (M N : Nat → Option (Nat × Rd)), k ≤ n ∧ i = .int .i64 k ∧ Rig rk w wr z y xb yb none S S M N ∧ Fit k S ∧ S.c = cf ∧ Pair (RJ cf.bits) M N) (fun i _ => n - (intOf i).toNat)
      case atStart => exact ⟨0, _, _, _, Nat.zero_le _, rfl, HR0.out, HF0.out, HC0.out, fun j => .inl ⟨rfl, rfl⟩⟩
      case round =>
        clear HR0 HF0 HC0
        obtain ⟨k, S, M, N, hk, rfl, hr, hf, hcf, hp⟩ := hrel
        have HC0 := Lib.hid hr
        have HF0 := Lib.hid hf
        have HCF0 := Lib.hid hcf
        have HP := Lib.hid hp
        clear hr hf hcf hp
        by_cases hlt : k < n
        · obtain ⟨ab, off, p, rfl, hp, hcell⟩ := HSC.out.at_ hlt
          have hop := hcell wr HC0.out.keep
          have c0 := hop.c0
          have c1 := hop.c1
          have c2 := hop.c2
          have c3 := hop.c3
          have c4 := hop.c4
          have c5 := hop.c5
          have c6 := hop.c6
          have c7 := hop.c7
          have c8 := hop.c8
          have c9 := hop.c9
          have HSG := Lib.hid hop.ok
          clear hop hcell hp
          have k0 : (0 : Int) ≤ (k : Int) := by omega
          have k1 : (k : Int) < (n : Int) := by omega
          obtain ⟨kd, mm, pi, pn, px, ⟨fs, fg, fn, ⟨fa, fb⟩⟩⟩ := p
          simp only at c0 c1 c2 c3 c4 c5 c6 c7 c8 c9
          obtain ⟨j, hj⟩ : ∃ j : Nat, mm % 4 = (j : Int) := ⟨(mm % 4).toNat, by omega⟩
          have m3 : bits .and .i64 mm 3 = (j : Int) := (i64_and3 mm).trans hj
          have hj4 : j < 4 := by omega
          have j0 : (0 : Int) ≤ (j : Int) := by omega
          have j1 : (j : Int) < 4 := by omega
          clear hj
          have HR1 := Lib.hid (HC0.out.laid #[.int .i64 kd, .int .i64 mm, .int .i64 pi, .int .i64 pn, .int .i64 px, .int .i64 fs, .int .i64 fg, .int .i64 fn, .int .u64 (fa : Int), .int .u64 (fb : Int)])
          obtain ⟨bo, hbo⟩ : ∃ b, wr.heap.size = b := ⟨_, rfl⟩
          go_wp2_with fail
          refine (HR1.out.turn _).mono ?_
          rintro e w1 ⟨rfl, hr2⟩
          rw [hbo] at hr2
          have HR2 := Lib.hid hr2
          have cM := hr2.yc
          have bx := hr2.box
          have d0 : w1.cell? ⟨bo, 0, none⟩ = some (.int .i64 kd) := (bx.cell 0).trans rfl
          have d1 : w1.cell? ⟨bo, 1, none⟩ = some (.int .i64 mm) := (bx.cell 1).trans rfl
          have d2 : w1.cell? ⟨bo, 2, none⟩ = some (.int .i64 pi) := (bx.cell 2).trans rfl
          have d3 : w1.cell? ⟨bo, 3, none⟩ = some (.int .i64 pn) := (bx.cell 3).trans rfl
          have d4 : w1.cell? ⟨bo, 4, none⟩ = some (.int .i64 px) := (bx.cell 4).trans rfl
          have d5 : w1.cell? ⟨bo, 5, none⟩ = some (.int .i64 fs) := (bx.cell 5).trans rfl
          have d6 : w1.cell? ⟨bo, 6, none⟩ = some (.int .i64 fg) := (bx.cell 6).trans rfl
          have d7 : w1.cell? ⟨bo, 7, none⟩ = some (.int .i64 fn) := (bx.cell 7).trans rfl
          have d8 : w1.cell? ⟨bo, 8, none⟩ = some (.int .u64 (fa : Int)) := (bx.cell 8).trans rfl
          have d9 : w1.cell? ⟨bo, 9, none⟩ = some (.int .u64 (fb : Int)) := (bx.cell 9).trans rfl
          try rw [hbo]
          clear hr2 bx HR1 hbo c0 c1 c2 c3 c4 c5 c6 c7 c8 c9 m3
          go_wp2_with fail
          refine (HR2.out.begin _).mono ?_
          rintro e w2 ⟨rfl, hr3⟩
          have HR3 := Lib.hid hr3
          have bx := hr3.box
          clear d0 d1 d2 d3 d4 d5 d6 d7 d8 d9 cM
          have d0 : w2.cell? ⟨bo, 0, none⟩ = some (.int .i64 kd) := (bx.cell 0).trans rfl
          have d1 : w2.cell? ⟨bo, 1, none⟩ = some (.int .i64 mm) := (bx.cell 1).trans rfl
          have d2 : w2.cell? ⟨bo, 2, none⟩ = some (.int .i64 pi) := (bx.cell 2).trans rfl
          have d3 : w2.cell? ⟨bo, 3, none⟩ = some (.int .i64 pn) := (bx.cell 3).trans rfl
          have d4 : w2.cell? ⟨bo, 4, none⟩ = some (.int .i64 px) := (bx.cell 4).trans rfl
          have d5 : w2.cell? ⟨bo, 5, none⟩ = some (.int .i64 fs) := (bx.cell 5).trans rfl
          have d6 : w2.cell? ⟨bo, 6, none⟩ = some (.int .i64 fg) := (bx.cell 6).trans rfl
          have d7 : w2.cell? ⟨bo, 7, none⟩ = some (.int .i64 fn) := (bx.cell 7).trans rfl
          have d8 : w2.cell? ⟨bo, 8, none⟩ = some (.int .u64 (fa : Int)) := (bx.cell 8).trans rfl
          have d9 : w2.cell? ⟨bo, 9, none⟩ = some (.int .u64 (fb : Int)) := (bx.cell 9).trans rfl
          clear hr3 bx HR2
          have HF1 : Hid (Fit k (S.begin j)) := HF0.out.begin _
          have HCF1 : Hid ((S.begin j).c = cf) := HCF0.out
          obtain ⟨S1, hS1⟩ : ∃ v, S.begin j = v := ⟨_, rfl⟩
          rw [hS1] at HR3 HF1 HCF1
          clear hS1 HF0 HCF0 HC0
          by_cases e20 : kd = 20
          · subst e20
            by_cases hv : 0 ≤ pi ∧ pi < S1.c.cells ∧ 0 ≤ fs ∧ fs < S1.c.slots
            · obtain ⟨F3, hsp⟩ := HR3.out.sp
              have QN : Hid (Calls Tryz.prog 76 #[PT z.p, .agg #[.int .i64 fs, .int .i64 fg, .int .i64 fn, .int .u64 (fa : Int), .int .u64 (fb : Int)], .int .i64 pi] w2 fun e w' => ∃ b G, e = .returned (.tuple #[PT b, .int .i64 0]) ∧ RD w w' z F3 b G (Rd.new S1.c.bits ⟨fs, fg, fn, ⟨fa, fb⟩⟩ pi) ∧ (∀ q, q ∈ G → w2.heap.size ≤ q) ∧ Keeps [] w2 w') := read_new hsp HF1.out ⟨fs, fg, fn, ⟨fa, fb⟩⟩ HSG.out pi hv.1 hv.2.1 hv.2.2.1 hv.2.2.2
              clear hsp
              go_wp2_with fail
              refine QN.out.mono ?_
              rintro e w3 ⟨a, Gm, rfl, ha, hla, hk3⟩
              have HA := Lib.hid (And.intro ha (And.intro hla hk3))
              replace d0 := keeps_cell0 hk3 d0
              replace d1 := keeps_cell0 hk3 d1
              replace d2 := keeps_cell0 hk3 d2
              replace d3 := keeps_cell0 hk3 d3
              replace d4 := keeps_cell0 hk3 d4
              replace d5 := keeps_cell0 hk3 d5
              replace d6 := keeps_cell0 hk3 d6
              replace d7 := keeps_cell0 hk3 d7
              replace d8 := keeps_cell0 hk3 d8
              replace d9 := keeps_cell0 hk3 d9
              clear ha hla hk3 QN
              obtain ⟨_, hrp⟩ := (HR3.out.calm HA.out.2.2).rp
              have QR := Lib.hid (doc_new hrp S1.c.bits ⟨fs, fg, fn, ⟨fa, fb⟩⟩ pi hv.1 hv.2.1 hv.2.2.1 hv.2.2.2)
              clear hrp
              go_wp2_with fail
              refine QR.out.mono ?_
              rintro e w4 ⟨b, rfl, hb, hlb, hk4⟩
              have hk24 := HA.out.2.2.trans hk4 (by simp)
              have hle := HA.out.2.2.size
              have HR4 := Lib.hid (HR3.out.renew hj4 (p := some (a, Rd.new S1.c.bits ⟨fs, fg, fn, ⟨fa, fb⟩⟩ pi)) (q := some (b, Rd.new S1.c.bits ⟨fs, fg, fn, ⟨fa, fb⟩⟩ pi)) (gm := Gm) (gd := [b]) hk24 ⟨(HA.out.1.calm hk4).ex, HA.out.2.1⟩ ⟨⟨rfl, hb⟩, fun q hq => by simp at hq; omega⟩ (fun u hu hg => by simp at hg; have := HA.out.1.lt u hu; omega))
              have HN := Lib.hid hv
              have bxx := HR3.out.xs.keeps hk24 (by simp)
              have byy := HR3.out.ys.keeps hk24 (by simp)
              have hxy : xb ≠ yb := bxx.ne_ byy (by decide)
              have hyx : yb ≠ xb := hxy.symm
              have cx : w4.cell? ⟨xb, j, none⟩ = some (pv (M j)) := (bxx.cell j).trans (arr_get M hj4)
              have cy : w4.cell? ⟨yb, j, none⟩ = some (pv (N j)) := (byy.cell j).trans (arr_get N hj4)
              have fx := bxx.frozen j
              have fy := byy.frozen j
              clear hb hlb hk4 hk24 hle bxx byy HA QR hv d0 d1 d2 d3 d4 d5 d6 d7 d8 d9
              obtain ⟨x0, hx0⟩ : ∃ v, Rd.new S1.c.bits ⟨fs, fg, fn, ⟨fa, fb⟩⟩ pi = v := ⟨_, rfl⟩
              rw [hx0] at HR4
              go_wp2_with fail
              have e9 : ((w4.setCell ⟨xb, j, none⟩ (pv (some (a, x0)))).setCell ⟨yb, j, none⟩ (pv (some (b, x0)))) = ((w4.setCell ⟨xb, j, none⟩ (PT a)).setCell ⟨yb, j, none⟩ (PT b)) := rfl
              rw [e9] at HR4
              clear e9 cx cy fx fy hxy hyx
              generalize ((w4.setCell ⟨xb, j, none⟩ (PT a)).setCell ⟨yb, j, none⟩ (PT b)) = w5 at *
              have HQ := HR4
              have HJ : Hid (RJ cf.bits x0) := by
                rw [← hx0, ← HCF1.out]
                have h1 := HF1.out.c.2.2.1
                have h2 := HF1.out.c.1
                exact RJ.new h1.1 h1.2 HSG.out HN.out.1 (by have := HN.out.2.1; omega)
              replace HP := Lib.hid (HP.out.set j (a := a) (b := b) HJ.out)
              have HF := Lib.hid HF1.out.succ
              have HCF := HCF1
              clear HR4 HR3 HF1 HCF1 HJ HN hx0 HSG
              obtain ⟨S9, hS9⟩ : ∃ v, S1 = v := ⟨_, rfl⟩
              rw [hS9] at HQ HF HCF
              clear hS9
              rcases HP.out j with ⟨e1, e2⟩ | ⟨a9, b9, x9, e1, e2, hJ9⟩
              · as_aux_lemma =>
                  have cx := HQ.out.cx_none hj4 e1
                  have cy := HQ.out.cy_none hj4 e2
                  go_wp2_with fail
                  go_quiet (fail)
                  go_wp2_with fail
                  exact ⟨⟨k + 1, S9, _, _, by omega, by simp, (HQ.out.left).calm ((Keeps.refl [] w5).drewN _), HF.out, HCF.out, HP.out⟩, by simp [intOf]; omega⟩
              · as_aux_lemma =>
                  have QT := Lib.hid (fun w' (hk : Keeps [] w5 w') => rk_told HQ.out e1 e2 hJ9 hk)
                  have HC := Lib.hid (show ∀ w', Keeps [] w5 w' → w'.cell? ⟨xb, j, none⟩ = some (PT a9) ∧ w'.cell? ⟨yb, j, none⟩ = some (PT b9) from fun w' hk => ⟨(HQ.out.calm hk).cx_some hj4 e1, (HQ.out.calm hk).cy_some hj4 e2⟩)
                  have hkB : Keeps [] w5 w5 := Keeps.refl _ _
                  clear e1 e2 hJ9
                  go_wp2_with fail
                  go_region_held3 (fun w' => w'.cell? ⟨xb, j, none⟩ = some (PT a9) ∧ w'.cell? ⟨yb, j, none⟩ = some (PT b9)) (first | with_reducible exact HC.out _ (by first | with_reducible assumption | with_reducible exact Keeps.drew (by with_reducible assumption)) | go_keep) ((go_at_call 81; (with_reducible refine (QT.out _ (by first | with_reducible assumption | with_reducible exact Keeps.drew (by with_reducible assumption))).mono ?_); rintro e wt ⟨rfl, hkt⟩))
                  all_goals
                    go_wp2_with fail
                    exact ⟨⟨k + 1, S9, _, _, by omega, by simp, (HQ.out.left).calm (by first | with_reducible assumption | with_reducible exact Keeps.drew (by with_reducible assumption)), HF.out, HCF.out, HP.out⟩, by simp [intOf]; omega⟩
            · obtain ⟨F3, hsp⟩ := HR3.out.sp
              have QN : Hid (Calls Tryz.prog 76 #[PT z.p, .agg #[.int .i64 fs, .int .i64 fg, .int .i64 fn, .int .u64 (fa : Int), .int .u64 (fb : Int)], .int .i64 pi] w2 fun e w' => e = .returned (.tuple #[.pointer none, .int .i64 2]) ∧ Keeps [] w2 w') := read_new_no hsp ⟨fs, fg, fn, ⟨fa, fb⟩⟩ pi hv
              clear hsp
              go_wp2_with fail
              refine QN.out.mono ?_
              rintro e w3 ⟨rfl, hk3⟩
              replace d0 := keeps_cell0 hk3 d0
              replace d1 := keeps_cell0 hk3 d1
              replace d2 := keeps_cell0 hk3 d2
              replace d3 := keeps_cell0 hk3 d3
              replace d4 := keeps_cell0 hk3 d4
              replace d5 := keeps_cell0 hk3 d5
              replace d6 := keeps_cell0 hk3 d6
              replace d7 := keeps_cell0 hk3 d7
              replace d8 := keeps_cell0 hk3 d8
              replace d9 := keeps_cell0 hk3 d9
              have HK3 := Lib.hid hk3
              clear hk3 QN
              obtain ⟨_, hrp⟩ := (HR3.out.calm HK3.out).rp
              have QR := Lib.hid (doc_new_bad hrp ⟨fs, fg, fn, ⟨fa, fb⟩⟩ pi hv)
              clear hrp
              go_wp2_with fail
              refine QR.out.mono ?_
              rintro e w4 ⟨rfl, hk4⟩
              have hk24 := HK3.out.trans hk4 (by simp)
              have HR4 := Lib.hid (HR3.out.renew hj4 (p := none) (q := none) (gm := []) (gd := []) hk24 rfl rfl (by simp))
              have bxx := HR3.out.xs.keeps hk24 (by simp)
              have byy := HR3.out.ys.keeps hk24 (by simp)
              have hxy : xb ≠ yb := bxx.ne_ byy (by decide)
              have hyx : yb ≠ xb := hxy.symm
              have cx : w4.cell? ⟨xb, j, none⟩ = some (pv (M j)) := (bxx.cell j).trans (arr_get M hj4)
              have cy : w4.cell? ⟨yb, j, none⟩ = some (pv (N j)) := (byy.cell j).trans (arr_get N hj4)
              have fx := bxx.frozen j
              have fy := byy.frozen j
              clear bxx byy hk4 hk24 HK3 QR hv d0 d1 d2 d3 d4 d5 d6 d7 d8 d9
              go_wp2_with fail
              have e9 : ((w4.setCell ⟨xb, j, none⟩ (pv (none : Option (Nat × Rd)))).setCell ⟨yb, j, none⟩ (pv (none : Option (Nat × Rd)))) = ((w4.setCell ⟨xb, j, none⟩ (.pointer none)).setCell ⟨yb, j, none⟩ (.pointer none)) := rfl
              rw [e9] at HR4
              clear e9 cx cy fx fy hxy hyx
              generalize ((w4.setCell ⟨xb, j, none⟩ (.pointer none)).setCell ⟨yb, j, none⟩ (.pointer none)) = w5 at *
              have HQ := HR4
              replace HP := Lib.hid (HP.out.unset j)
              have HF := Lib.hid HF1.out.succ
              have HCF := HCF1
              clear HR4 HR3 HF1 HCF1 HSG
              obtain ⟨S9, hS9⟩ : ∃ v, S1 = v := ⟨_, rfl⟩
              rw [hS9] at HQ HF HCF
              clear hS9
              rcases HP.out j with ⟨e1, e2⟩ | ⟨a9, b9, x9, e1, e2, hJ9⟩
              · as_aux_lemma =>
                  have cx := HQ.out.cx_none hj4 e1
                  have cy := HQ.out.cy_none hj4 e2
                  go_wp2_with fail
                  go_quiet (fail)
                  go_wp2_with fail
                  exact ⟨⟨k + 1, S9, _, _, by omega, by simp, (HQ.out.left).calm ((Keeps.refl [] w5).drewN _), HF.out, HCF.out, HP.out⟩, by simp [intOf]; omega⟩
              · as_aux_lemma =>
                  have QT := Lib.hid (fun w' (hk : Keeps [] w5 w') => rk_told HQ.out e1 e2 hJ9 hk)
                  have HC := Lib.hid (show ∀ w', Keeps [] w5 w' → w'.cell? ⟨xb, j, none⟩ = some (PT a9) ∧ w'.cell? ⟨yb, j, none⟩ = some (PT b9) from fun w' hk => ⟨(HQ.out.calm hk).cx_some hj4 e1, (HQ.out.calm hk).cy_some hj4 e2⟩)
                  have hkB : Keeps [] w5 w5 := Keeps.refl _ _
                  clear e1 e2 hJ9
                  go_wp2_with fail
                  go_region_held3 (fun w' => w'.cell? ⟨xb, j, none⟩ = some (PT a9) ∧ w'.cell? ⟨yb, j, none⟩ = some (PT b9)) (first | with_reducible exact HC.out _ (by first | with_reducible assumption | with_reducible exact Keeps.drew (by with_reducible assumption)) | go_keep) ((go_at_call 81; (with_reducible refine (QT.out _ (by first | with_reducible assumption | with_reducible exact Keeps.drew (by with_reducible assumption))).mono ?_); rintro e wt ⟨rfl, hkt⟩))
                  all_goals
                    go_wp2_with fail
                    exact ⟨⟨k + 1, S9, _, _, by omega, by simp, (HQ.out.left).calm (by first | with_reducible assumption | with_reducible exact Keeps.drew (by with_reducible assumption)), HF.out, HCF.out, HP.out⟩, by simp [intOf]; omega⟩
          have n20 : (kd == 20) = false := by simpa using e20
          by_cases e21 : kd = 21
          · subst e21
            rcases HP.out j with ⟨e1, e2⟩ | ⟨a, b, x, e1, e2, hJ⟩
            · have cx := HR3.out.cx_none hj4 e1
              clear d1 d2 d3 d4 d5 d6 d7 d8 d9
              go_wp2_with fail
              exact ⟨⟨k + 1, S1, M, N, by omega, by simp, HR3.out.left, HF1.out.succ, HCF1.out, HP.out⟩, by simp [intOf]; omega⟩
            · have cx := HR3.out.cx_some hj4 e1
              have cy := HR3.out.cy_some hj4 e2
              have HE := Lib.hid (And.intro e1 (And.intro e2 hJ))
              have QP := Lib.hid (rk_step HR3.out e1 HF1.out (by omega) hJ.ri)
              clear e1 e2 hJ d1 d2 d3 d4 d5 d6 d7 d8 d9
              go_wp2_with fail
              refine QP.out.mono ?_
              rintro e w3 ⟨rfl, hr4⟩
              have HR4 := Lib.hid hr4
              have HJx : Hid (RJ S1.c.bits x) := by rw [HCF1.out]; exact HE.out.2.2
              obtain ⟨ans, hans⟩ : ∃ v, (x.step S1).1 = v := ⟨_, rfl⟩
              rw [hans]
              have QD : Hid (∀ w', Keeps [] w3 w' → Calls Tryz.prog 79 #[PT b] w' fun e w'' => e = .returned (.int .i64 ans) ∧ Rig rk w w'' z y xb yb (some (bo, #[.int .i64 21, .int .i64 mm, .int .i64 pi, .int .i64 pn, .int .i64 px, .int .i64 fs, .int .i64 fg, .int .i64 fn, .int .u64 (fa : Int), .int .u64 (fb : Int)])) (x.step S1).2.2 (x.step S1).2.2 (upd' M j (some (a, (x.step S1).2.1))) (upd' N j (some (b, (x.step S1).2.1)))) := fun w' hk => by
                have := rk_dstep (hr4.calm hk) HE.out.2.1 HF1.out (by omega) HJx.out
                rw [hans] at this
                exact this
              have HC := Lib.hid (show ∀ w', Keeps [] w3 w' → w'.cell? ⟨yb, j, none⟩ = some (PT b) ∧ w'.cell? ⟨z.p, 0, none⟩ = some (PT z.m) ∧ w'.cell? ⟨y.p, 6, none⟩ = some (PT y.m) from fun w' hk => ⟨(hr4.calm hk).cy_some hj4 HE.out.2.1, (hr4.calm hk).zc, (hr4.calm hk).yc⟩)
              have hkB : Keeps [] w3 w3 := Keeps.refl _ _
              have HF := Lib.hid (HJx.out.ri.fit HF1.out)
              have HCF : Hid ((x.step S1).2.2.c = cf) := (HJx.out.ri.sp S1).1.trans HCF1.out
              have HPn : Hid (Pair (RJ cf.bits) (upd' M j (some (a, (x.step S1).2.1))) (upd' N j (some (b, (x.step S1).2.1)))) := HP.out.set j (HE.out.2.2.step S1)
              replace HP := HPn
              clear HPn hr4 hans QP HR3 HF1 HCF1 HJx HE cx cy d0
              generalize (x.step S1).2.1 = x' at *
              generalize (x.step S1).2.2 = S' at *
              go_wp2_with fail
              refine wp_region_noPanic ?_
              refine wp_region_L 99 (fun w' => w'.cell? ⟨yb, j, none⟩ = some (PT b) ∧ w'.cell? ⟨z.p, 0, none⟩ = some (PT z.m) ∧ w'.cell? ⟨y.p, 6, none⟩ = some (PT y.m)) (by kernel_rfl) ?_
              have hHeld := HC.out _ hkB.drew
              refine wpAnyL_takeT (i := 0) (v := ?rv0) rfl (by kernel_rfl) (by kernel_rfl) (by kernel_rfl) (by kernel_rfl) (fun _ _ _ h => h) (Or.inl ⟨by rfl, ?ry0⟩) hHeld ?rr0
              case ry0 => (intro w' hSw; (try dsimp only at hSw); go_simp; first | done | with_reducible rfl)
              case' rr0 => (try simp only [Act.put, List.setIfInBounds_toArray, List.set_cons_zero, List.set_cons_succ])
              refine wpAnyL_takeT (i := 1) (v := ?rv1) rfl (by kernel_rfl) (by kernel_rfl) (by kernel_rfl) (by kernel_rfl) (fun _ _ _ h => h) (Or.inl ⟨by rfl, ?ry1⟩) hHeld ?rr1
              case ry1 => (intro w' hSw; (try dsimp only at hSw); go_simp; first | done | with_reducible rfl)
              case' rr1 => (try simp only [Act.put, List.setIfInBounds_toArray, List.set_cons_zero, List.set_cons_succ])
              refine wpAnyL_takeT (i := 2) (v := ?rv2) rfl (by kernel_rfl) (by kernel_rfl) (by kernel_rfl) (by kernel_rfl) (fun _ _ _ h => h) (Or.inl ⟨by rfl, ?ry2⟩) hHeld ?rr2
              case ry2 => (intro w' hSw; (try dsimp only at hSw); go_simp; first | done | with_reducible rfl)
              case' rr2 => (try simp only [Act.put, List.setIfInBounds_toArray, List.set_cons_zero, List.set_cons_succ])
              refine wpAnyL_takeT (i := 3) (v := ?rv3) rfl (by kernel_rfl) (by kernel_rfl) (by kernel_rfl) (by kernel_rfl) (fun _ _ _ h => h) (Or.inl ⟨by rfl, ?ry3⟩) hHeld ?rr3
              case ry3 => (intro w' hSw; (try dsimp only at hSw); go_simp; first | done | with_reducible rfl)
              case' rr3 => (try simp only [Act.put, List.setIfInBounds_toArray, List.set_cons_zero, List.set_cons_succ])
              refine wpAnyL_oneT (i := 4) (by kernel_rfl) rfl (fun K hK => ?_)
              go_simp
              go_at_call 79
              refine (QD.out _ hkB.drew).mono ?_
              rintro e w5 ⟨rfl, hr5⟩
              have hS5 : w5.cell? ⟨yb, j, none⟩ = some (PT b) ∧ w5.cell? ⟨z.p, 0, none⟩ = some (PT z.m) ∧ w5.cell? ⟨y.p, 6, none⟩ = some (PT y.m) := ⟨hr5.cy_some hj4 (upd_at _ _ _), hr5.zc, hr5.yc⟩
              go_simp
              refine hK.out _ _ (fun _ => hS5) ?_
              clear hK K
              try simp only [Act.put, List.setIfInBounds_toArray, List.set_cons_zero, List.set_cons_succ]
              replace hHeld := hS5
              clear hS5
              have HQ := Lib.hid hr5
              have cm2 := hr5.done_cell
              have QM := Lib.hid hr5.done_call
              clear hr5
              refine wpAnyL_takeT (i := 5) (v := ?rv5) rfl (by kernel_rfl) (by kernel_rfl) (by kernel_rfl) (by kernel_rfl) (fun _ _ _ h => h) (Or.inl ⟨by rfl, ?ry5⟩) hHeld ?rr5
              case ry5 => (intro w' hSw; (try dsimp only at hSw); go_simp; first | done | with_reducible rfl)
              case' rr5 => (try simp only [Act.put, List.setIfInBounds_toArray, List.set_cons_zero, List.set_cons_succ])
              refine wpAnyL_takeT (i := 6) (v := ?rv6) rfl (by kernel_rfl) (by kernel_rfl) (by kernel_rfl) (by kernel_rfl) (fun _ _ _ h => h) (Or.inl ⟨by rfl, ?ry6⟩) hHeld ?rr6
              case ry6 => (intro w' hSw; (try dsimp only at hSw); go_simp; first | done | with_reducible rfl)
              case' rr6 => (try simp only [Act.put, List.setIfInBounds_toArray, List.set_cons_zero, List.set_cons_succ])
              refine wpAnyL_takeT (i := 7) (v := ?rv7) rfl (by kernel_rfl) (by kernel_rfl) (by kernel_rfl) (by kernel_rfl) (fun _ _ _ h => h) (Or.inl ⟨by rfl, ?ry7⟩) hHeld ?rr7
              case ry7 => (intro w' hSw; (try dsimp only at hSw); go_simp; first | done | with_reducible rfl)
              case' rr7 => (try simp only [Act.put, List.setIfInBounds_toArray, List.set_cons_zero, List.set_cons_succ])
              refine wpAnyL_takeT (i := 8) (v := ?rv8) rfl (by kernel_rfl) (by kernel_rfl) (by kernel_rfl) (by kernel_rfl) (fun _ _ _ h => h) (Or.inl ⟨by rfl, ?ry8⟩) hHeld ?rr8
              case ry8 => (intro w' hSw; (try dsimp only at hSw); go_simp; first | done | with_reducible rfl)
              case' rr8 => (try simp only [Act.put, List.setIfInBounds_toArray, List.set_cons_zero, List.set_cons_succ])
              refine wpAnyL_takeT (i := 9) (v := ?rv9) rfl (by kernel_rfl) (by kernel_rfl) (by kernel_rfl) (by kernel_rfl) (fun _ _ _ h => h) (Or.inl ⟨by rfl, ?ry9⟩) hHeld ?rr9
              case ry9 => (intro w' hSw; (try dsimp only at hSw); go_simp; first | done | with_reducible rfl)
              case' rr9 => (try simp only [Act.put, List.setIfInBounds_toArray, List.set_cons_zero, List.set_cons_succ])
              refine wpAnyL_takeT (i := 10) (v := ?rv10) rfl (by kernel_rfl) (by kernel_rfl) (by kernel_rfl) (by kernel_rfl) (fun _ _ _ h => h) (Or.inl ⟨by rfl, ?ry10⟩) hHeld ?rr10
              case ry10 => (intro w' hSw; (try dsimp only at hSw); go_simp; first | done | with_reducible rfl)
              case' rr10 => (try simp only [Act.put, List.setIfInBounds_toArray, List.set_cons_zero, List.set_cons_succ])
              refine wpAnyL_takeT (i := 12) (v := ?rv12) rfl (by kernel_rfl) (by kernel_rfl) (by kernel_rfl) (by kernel_rfl) (fun _ _ _ h => h) (Or.inl ⟨by rfl, ?ry12⟩) hHeld ?rr12
              case ry12 => (intro w' hSw; (try dsimp only at hSw); go_simp; first | done | with_reducible rfl)
              case' rr12 => (try simp only [Act.put, List.setIfInBounds_toArray, List.set_cons_zero, List.set_cons_succ])
              refine wpAnyL_takeT (i := 13) (v := ?rv13) rfl (by kernel_rfl) (by kernel_rfl) (by kernel_rfl) (by kernel_rfl) (fun _ _ _ h => h) (Or.inl ⟨by rfl, ?ry13⟩) hHeld ?rr13
              case ry13 => (intro w' hSw; (try dsimp only at hSw); go_simp; first | done | with_reducible rfl)
              case' rr13 => (try simp only [Act.put, List.setIfInBounds_toArray, List.set_cons_zero, List.set_cons_succ])
              refine wpAnyL_takeT (i := 14) (v := ?rv14) rfl (by kernel_rfl) (by kernel_rfl) (by kernel_rfl) (by kernel_rfl) (fun _ _ _ h => h) (Or.inl ⟨by rfl, ?ry14⟩) hHeld ?rr14
              case ry14 => (intro w' hSw; (try dsimp only at hSw); go_simp; first | done | with_reducible rfl)
              case' rr14 => (try simp only [Act.put, List.setIfInBounds_toArray, List.set_cons_zero, List.set_cons_succ])
              refine wpAnyL_takeT (i := 15) (v := ?rv15) rfl (by kernel_rfl) (by kernel_rfl) (by kernel_rfl) (by kernel_rfl) (fun _ _ _ h => h) (Or.inl ⟨by rfl, ?ry15⟩) hHeld ?rr15
              case ry15 => (intro w' hSw; (try dsimp only at hSw); go_simp; first | done | with_reducible rfl)
              case' rr15 => (try simp only [Act.put, List.setIfInBounds_toArray, List.set_cons_zero, List.set_cons_succ])
              refine wpAnyL_takeT (i := 16) (v := ?rv16) rfl (by kernel_rfl) (by kernel_rfl) (by kernel_rfl) (by kernel_rfl) (fun _ _ _ h => h) (Or.inl ⟨by rfl, ?ry16⟩) hHeld ?rr16
              case ry16 => (intro w' hSw; (try dsimp only at hSw); go_simp; first | done | with_reducible rfl)
              case' rr16 => (try simp only [Act.put, List.setIfInBounds_toArray, List.set_cons_zero, List.set_cons_succ])
              refine wpAnyL_takeT (i := 17) (v := ?rv17) rfl (by kernel_rfl) (by kernel_rfl) (by kernel_rfl) (by kernel_rfl) (fun _ _ _ h => h) (Or.inl ⟨by rfl, ?ry17⟩) hHeld ?rr17
              case ry17 => (intro w' hSw; (try dsimp only at hSw); go_simp; first | done | with_reducible rfl)
              case' rr17 => (try simp only [Act.put, List.setIfInBounds_toArray, List.set_cons_zero, List.set_cons_succ])
              refine wpAnyL_twoT (i := 11) (j := 18) (by kernel_rfl) rfl rfl (fun K hK => ?_) (fun K hK => ?_)
              · go_simp
                go_at_call 48
                refine (QM.out).mono ?_
                rintro e w6 ⟨rfl, rfl⟩
                go_simp
                refine hK.out _ _ (fun _ => hHeld) ?_
                clear hK K
                try simp only [Act.put, List.setIfInBounds_toArray, List.set_cons_zero, List.set_cons_succ]
                refine wpAnyL_oneT (i := 18) (by kernel_rfl) rfl (fun K hK => ?_)
                go_simp
                refine hK.out _ _ (fun _ => hHeld) ?_
                clear hK K
                try simp only [Act.put, List.setIfInBounds_toArray, List.set_cons_zero, List.set_cons_succ]
                refine wpAnyL_takeT (i := 19) (v := ?rv19) rfl (by kernel_rfl) (by kernel_rfl) (by kernel_rfl) (by kernel_rfl) (fun _ _ _ h => h) (Or.inl ⟨by rfl, ?ry19⟩) hHeld ?rr19
                case ry19 => (intro w' hSw; (try dsimp only at hSw); go_simp; first | done | with_reducible rfl)
                case' rr19 => (try simp only [Act.put, List.setIfInBounds_toArray, List.set_cons_zero, List.set_cons_succ])
                refine wpAnyL_takeT (i := 20) (v := ?rv20) rfl (by kernel_rfl) (by kernel_rfl) (by kernel_rfl) (by kernel_rfl) (fun _ _ _ h => h) (Or.inl ⟨by rfl, ?ry20⟩) hHeld ?rr20
                case ry20 => (intro w' hSw; (try dsimp only at hSw); go_simp; first | done | with_reducible rfl)
                case' rr20 => (try simp only [Act.put, List.setIfInBounds_toArray, List.set_cons_zero, List.set_cons_succ])
                refine wpAnyL_done (by kernel_rfl) ?_ _
                refine NoPanic.normal ?_
                obtain ⟨S9, hS9⟩ : ∃ v, S' = v := ⟨_, rfl⟩
                rw [hS9] at HQ HF HCF
                clear hS9
                rcases HP.out j with ⟨e1, e2⟩ | ⟨a9, b9, x9, e1, e2, hJ9⟩
                · as_aux_lemma =>
                    have cx := HQ.out.cx_none hj4 e1
                    have cy := HQ.out.cy_none hj4 e2
                    go_wp2_with fail
                    go_quiet (fail)
                    go_wp2_with fail
                    exact ⟨⟨k + 1, S9, _, _, by omega, by simp, (HQ.out.left).calm ((Keeps.refl [] w5).drewN _), HF.out, HCF.out, HP.out⟩, by simp [intOf]; omega⟩
                · as_aux_lemma =>
                    have QT := Lib.hid (fun w' (hk : Keeps [] w5 w') => rk_told HQ.out e1 e2 hJ9 hk)
                    have HC := Lib.hid (show ∀ w', Keeps [] w5 w' → w'.cell? ⟨xb, j, none⟩ = some (PT a9) ∧ w'.cell? ⟨yb, j, none⟩ = some (PT b9) from fun w' hk => ⟨(HQ.out.calm hk).cx_some hj4 e1, (HQ.out.calm hk).cy_some hj4 e2⟩)
                    have hkB : Keeps [] w5 w5 := Keeps.refl _ _
                    clear e1 e2 hJ9
                    go_wp2_with fail
                    go_region_held3 (fun w' => w'.cell? ⟨xb, j, none⟩ = some (PT a9) ∧ w'.cell? ⟨yb, j, none⟩ = some (PT b9)) (first | with_reducible exact HC.out _ (by first | with_reducible assumption | with_reducible exact Keeps.drew (by with_reducible assumption)) | go_keep) ((go_at_call 81; (with_reducible refine (QT.out _ (by first | with_reducible assumption | with_reducible exact Keeps.drew (by with_reducible assumption))).mono ?_); rintro e wt ⟨rfl, hkt⟩))
                    all_goals
                      go_wp2_with fail
                      exact ⟨⟨k + 1, S9, _, _, by omega, by simp, (HQ.out.left).calm (by first | with_reducible assumption | with_reducible exact Keeps.drew (by with_reducible assumption)), HF.out, HCF.out, HP.out⟩, by simp [intOf]; omega⟩
              · go_simp
                refine hK.out _ _ (fun _ => hHeld) ?_
                clear hK K
                try simp only [Act.put, List.setIfInBounds_toArray, List.set_cons_zero, List.set_cons_succ]
                refine wpAnyL_oneT (i := 11) (by kernel_rfl) rfl (fun K hK => ?_)
                go_simp
                go_at_call 48
                refine (QM.out).mono ?_
                rintro e w6 ⟨rfl, rfl⟩
                go_simp
                refine hK.out _ _ (fun _ => hHeld) ?_
                clear hK K
                try simp only [Act.put, List.setIfInBounds_toArray, List.set_cons_zero, List.set_cons_succ]
                refine wpAnyL_takeT (i := 19) (v := ?rvb19) rfl (by kernel_rfl) (by kernel_rfl) (by kernel_rfl) (by kernel_rfl) (fun _ _ _ h => h) (Or.inl ⟨by rfl, ?ryb19⟩) hHeld ?rrb19
                case ryb19 => (intro w' hSw; (try dsimp only at hSw); go_simp; first | done | with_reducible rfl)
                case' rrb19 => (try simp only [Act.put, List.setIfInBounds_toArray, List.set_cons_zero, List.set_cons_succ])
                refine wpAnyL_takeT (i := 20) (v := ?rvb20) rfl (by kernel_rfl) (by kernel_rfl) (by kernel_rfl) (by kernel_rfl) (fun _ _ _ h => h) (Or.inl ⟨by rfl, ?ryb20⟩) hHeld ?rrb20
                case ryb20 => (intro w' hSw; (try dsimp only at hSw); go_simp; first | done | with_reducible rfl)
                case' rrb20 => (try simp only [Act.put, List.setIfInBounds_toArray, List.set_cons_zero, List.set_cons_succ])
                refine wpAnyL_done (by kernel_rfl) ?_ _
                refine NoPanic.normal ?_
                obtain ⟨S9, hS9⟩ : ∃ v, S' = v := ⟨_, rfl⟩
                rw [hS9] at HQ HF HCF
                clear hS9
                rcases HP.out j with ⟨e1, e2⟩ | ⟨a9, b9, x9, e1, e2, hJ9⟩
                · as_aux_lemma =>
                    have cx := HQ.out.cx_none hj4 e1
                    have cy := HQ.out.cy_none hj4 e2
                    go_wp2_with fail
                    go_quiet (fail)
                    go_wp2_with fail
                    exact ⟨⟨k + 1, S9, _, _, by omega, by simp, (HQ.out.left).calm ((Keeps.refl [] w5).drewN _), HF.out, HCF.out, HP.out⟩, by simp [intOf]; omega⟩
                · as_aux_lemma =>
                    have QT := Lib.hid (fun w' (hk : Keeps [] w5 w') => rk_told HQ.out e1 e2 hJ9 hk)
                    have HC := Lib.hid (show ∀ w', Keeps [] w5 w' → w'.cell? ⟨xb, j, none⟩ = some (PT a9) ∧ w'.cell? ⟨yb, j, none⟩ = some (PT b9) from fun w' hk => ⟨(HQ.out.calm hk).cx_some hj4 e1, (HQ.out.calm hk).cy_some hj4 e2⟩)
                    have hkB : Keeps [] w5 w5 := Keeps.refl _ _
                    clear e1 e2 hJ9
                    go_wp2_with fail
                    go_region_held3 (fun w' => w'.cell? ⟨xb, j, none⟩ = some (PT a9) ∧ w'.cell? ⟨yb, j, none⟩ = some (PT b9)) (first | with_reducible exact HC.out _ (by first | with_reducible assumption | with_reducible exact Keeps.drew (by with_reducible assumption)) | go_keep) ((go_at_call 81; (with_reducible refine (QT.out _ (by first | with_reducible assumption | with_reducible exact Keeps.drew (by with_reducible assumption))).mono ?_); rintro e wt ⟨rfl, hkt⟩))
                    all_goals
                      go_wp2_with fail
                      exact ⟨⟨k + 1, S9, _, _, by omega, by simp, (HQ.out.left).calm (by first | with_reducible assumption | with_reducible exact Keeps.drew (by with_reducible assumption)), HF.out, HCF.out, HP.out⟩, by simp [intOf]; omega⟩
          · have n21 : (kd == 21) = false := by simpa using e21
            have QR := Lib.hid (rk_raw HR3.out HF1.out (by omega) kd mm pi pn px fs fg fn fa fb)
            go_wp2_with fail
            refine QR.out.mono ?_
            rintro e w3 ⟨rfl, hr4⟩
            have HQ := Lib.hid hr4
            have HF := Lib.hid (HF1.out.raw kd pi pn px)
            have HCF : Hid ((S1.raw kd pi pn px).c = cf) := (raw_c S1 kd pi pn px).trans HCF1.out
            clear hr4 QR HR3 HF1 HCF1 HSG d0 d1 d2 d3 d4 d5 d6 d7 d8 d9 n20 n21 e20 e21
            obtain ⟨S9, hS9⟩ : ∃ v, (S1.raw kd pi pn px) = v := ⟨_, rfl⟩
            rw [hS9] at HQ HF HCF
            clear hS9
            rcases HP.out j with ⟨e1, e2⟩ | ⟨a9, b9, x9, e1, e2, hJ9⟩
            · as_aux_lemma =>
                have cx := HQ.out.cx_none hj4 e1
                have cy := HQ.out.cy_none hj4 e2
                go_wp2_with fail
                go_quiet (fail)
                go_wp2_with fail
                exact ⟨⟨k + 1, S9, _, _, by omega, by simp, (HQ.out.left).calm ((Keeps.refl [] w3).drewN _), HF.out, HCF.out, HP.out⟩, by simp [intOf]; omega⟩
            · as_aux_lemma =>
                have QT := Lib.hid (fun w' (hk : Keeps [] w3 w') => rk_told HQ.out e1 e2 hJ9 hk)
                have HC := Lib.hid (show ∀ w', Keeps [] w3 w' → w'.cell? ⟨xb, j, none⟩ = some (PT a9) ∧ w'.cell? ⟨yb, j, none⟩ = some (PT b9) from fun w' hk => ⟨(HQ.out.calm hk).cx_some hj4 e1, (HQ.out.calm hk).cy_some hj4 e2⟩)
                have hkB : Keeps [] w3 w3 := Keeps.refl _ _
                clear e1 e2 hJ9
                go_wp2_with fail
                go_region_held3 (fun w' => w'.cell? ⟨xb, j, none⟩ = some (PT a9) ∧ w'.cell? ⟨yb, j, none⟩ = some (PT b9)) (first | with_reducible exact HC.out _ (by first | with_reducible assumption | with_reducible exact Keeps.drew (by with_reducible assumption)) | go_keep) ((go_at_call 81; (with_reducible refine (QT.out _ (by first | with_reducible assumption | with_reducible exact Keeps.drew (by with_reducible assumption))).mono ?_); rintro e wt ⟨rfl, hkt⟩))
                all_goals
                  go_wp2_with fail
                  exact ⟨⟨k + 1, S9, _, _, by omega, by simp, (HQ.out.left).calm (by first | with_reducible assumption | with_reducible exact Keeps.drew (by with_reducible assumption)), HF.out, HCF.out, HP.out⟩, by simp [intOf]; omega⟩
        · skip
          have hge : ¬ ((k : Int) < (n : Int)) := by omega
          have QS := Lib.hid (rk_same HC0.out HF0.out (by omega))
          have HKP := Lib.hid HC0.out.keep
          clear HC0 HF0 HCF0 HP
          go_wp2_with fail
          refine QS.out.mono ?_
          rintro e wf ⟨rfl, hkf⟩
          go_wp2_with fail
          go_ret
          exact ⟨rfl, (HKP.out.trans hkf (by simp)).below (by simp) (Nat.le_refl _)⟩
  · refine (sp_new_bad w1 cf hok).mono ?_
    rintro e w2 ⟨rfl, hk2⟩
    have HK2 : Hid (Keeps [] w w2) := HK1.out.trans hk2 (by simp)
    have HB2 : Hid (Blk w2 w.heap.size 23 cf.vals) := HB1.out.keeps hk2 (by simp)
    clear hk2 d0 d1 d2 d3 d4 d5 HB1 HK1
    obtain ⟨d0, d1, d2, d3, d4, d5⟩ := cf_cells HB2.out
    go_wp2_with fail
    refine (rp_new_bad w2 cf hok).mono ?_
    rintro e w3 ⟨rfl, hk3⟩
    have HK3 : Hid (Keeps [] w w3) := HK2.out.trans hk3 (by simp)
    clear hk3
    go_wp2_with fail
    go_ret
    exact ⟨rfl, HK3.out.below (by simp) (Nat.le_refl _)⟩
end Go.Proofs.YtdhgiohjdhcedaaGreat.readPlays
