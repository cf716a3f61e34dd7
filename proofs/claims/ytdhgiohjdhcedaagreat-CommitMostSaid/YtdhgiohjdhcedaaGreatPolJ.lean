/- Layer 9: Verdict; a judge: New, Decide, Defers, Promoted. -/
import Derived.Test.YtdhgiohjdhcedaaGreatPol
import Derived.Test.YtdhgiohjdhcedaaGreatLocal
namespace Go.Proofs.YtdhgiohjdhcedaaGreat
open Go.RowKit Go.Maps
set_option linter.unusedVariables false
namespace Pol
set_option maxRecDepth 100000 in
set_option maxHeartbeats 4000000 in
theorem verdict_any (w : World) (c : Cf) (hc : c.ok) (st d : Int) (hd : 0 ≤ d) (A : Option Addr) (cap : Nat) (vs : List Vc) (hv : SlR w 73 4 (.slice A vs.length cap) vs.length (vcCells vs)) :
    Calls Tryz.prog 35 #[.agg #[.int .i64 c.cells, .int .i64 c.slots, .int .i64 c.bits, .int .i64 c.tag, .int .i64 c.bias, .int .i64 c.defer], .int .i64 st, .int .i64 d, .slice A vs.length cap] w fun e w' => e = .returned (.tuple #[.int .i64 (verdict c st d vs), .int .i64 0]) ∧ Keeps [] w w' := by
  have hk : Keeps [] w (w.alloc (.cells c.vals 23)) := by simp
  have hb : Blk (w.alloc (.cells c.vals 23)) w.heap.size 23 c.vals := Blk.new _ _ _
  obtain ⟨d0, d1, d2, d3, d4, d5⟩ := cf_cells hb
  have HK := Lib.hid hk
  have HB := Lib.hid hb
  have HV := Lib.hid hv
  clear hk hb hv
  unfold Cf.vals at d0 d1 d2 d3 d4 d5
  have HQ : Hid (∀ w : World, Calls Tryz.prog 88 #[.agg #[.int .i64 c.cells, .int .i64 c.slots, .int .i64 c.bits, .int .i64 c.tag, .int .i64 c.bias, .int .i64 c.defer]] w fun e w' => e = .returned (.int .i64 0) ∧ Keeps [] w w') := fun w => by
    have := sp_check w c
    rw [if_pos hc] at this
    exact this
  have hd0 : ¬ d < 0 := by omega
  have HVV : Hid (verdict c st d vs = if c.tag = 2 then (if (vs.length : Int) > c.bias ∧ d < c.defer then 2 else 1) else if c.tag = 3 then (if vs.any (fun v => decide (v.stamp < st)) then 3 else 1) else 1) := rfl
  obtain ⟨vv, hvv⟩ : ∃ q, verdict c st d vs = q := ⟨_, rfl⟩
  rw [hvv] at HVV ⊢
  clear hvv
  have ht := hc.2.2.2.1
  clear hc
  go_enter Tryz.func35, Tryz.ntmps35
  go_wp2_with fail
  refine (HQ.out _).mono ?_
  rintro e w2 ⟨rfl, hk1⟩
  have HK2 := Lib.hid (HK.out.trans hk1 (by simp))
  have HB2 := Lib.hid (HB.out.keeps hk1 (by simp))
  clear hk1 HQ d0 d1 d2 d3 d4 d5 HK HB
  have HC := Lib.hid (show ∀ w', Keeps [] w2 w' → w'.cell? ⟨w.heap.size, 0, none⟩ = some (.int .i64 c.cells) ∧ w'.cell? ⟨w.heap.size, 1, none⟩ = some (.int .i64 c.slots) ∧ w'.cell? ⟨w.heap.size, 2, none⟩ = some (.int .i64 c.bits) ∧ w'.cell? ⟨w.heap.size, 3, none⟩ = some (.int .i64 c.tag) ∧ w'.cell? ⟨w.heap.size, 4, none⟩ = some (.int .i64 c.bias) ∧ w'.cell? ⟨w.heap.size, 5, none⟩ = some (.int .i64 c.defer) from fun w' hk => cf_cells (HB2.out.keeps hk (by simp)))
  have hkB : Keeps [] w2 w2 := Keeps.refl _ _
  go_wp2_with fail
  by_cases t1 : c.tag = 1
  · rw [if_neg (by omega), if_neg (by omega)] at HVV
    have HC : Hid (∀ w', Keeps [] w2 w' → w'.cell? ⟨w.heap.size, 0, none⟩ = some (.int .i64 c.cells) ∧ w'.cell? ⟨w.heap.size, 1, none⟩ = some (.int .i64 c.slots) ∧ w'.cell? ⟨w.heap.size, 2, none⟩ = some (.int .i64 c.bits) ∧ w'.cell? ⟨w.heap.size, 3, none⟩ = some (.int .i64 1) ∧ w'.cell? ⟨w.heap.size, 4, none⟩ = some (.int .i64 c.bias) ∧ w'.cell? ⟨w.heap.size, 5, none⟩ = some (.int .i64 c.defer)) := fun w' hk => by
      have := HC.out w' hk
      rw [t1] at this
      exact this
    have HR : Hid (∀ w', Keeps [] w2 w' → Calls Tryz.prog 194 #[.agg #[.int .i64 c.cells, .int .i64 c.slots, .int .i64 c.bits, .int .i64 1, .int .i64 c.bias, .int .i64 c.defer, .int .i64 st, .int .i64 d, .slice A vs.length cap]] w' fun e w'' => e = .returned (.int .i64 vv) ∧ Keeps [] w' w'') := fun w' hk => by
      have := rule1 w' #[.int .i64 c.cells, .int .i64 c.slots, .int .i64 c.bits, .int .i64 1, .int .i64 c.bias, .int .i64 c.defer, .int .i64 st, .int .i64 d, .slice A vs.length cap]
      rw [HVV.out]
      exact this
    refine wp_region_noPanic ?_
    refine wp_region_L 99 (fun w' => w'.cell? ⟨w.heap.size, 0, none⟩ = some (.int .i64 c.cells) ∧ w'.cell? ⟨w.heap.size, 1, none⟩ = some (.int .i64 c.slots) ∧ w'.cell? ⟨w.heap.size, 2, none⟩ = some (.int .i64 c.bits) ∧ w'.cell? ⟨w.heap.size, 3, none⟩ = some (.int .i64 1) ∧ w'.cell? ⟨w.heap.size, 4, none⟩ = some (.int .i64 c.bias) ∧ w'.cell? ⟨w.heap.size, 5, none⟩ = some (.int .i64 c.defer)) (by kernel_rfl) ?_
    have hHeld := HC.out _ hkB.drew
    refine wpAnyL_takeT (i := 1) (v := ?rva1) rfl (by kernel_rfl) (by kernel_rfl) (by kernel_rfl) (by kernel_rfl) (fun _ _ _ h => h) (Or.inl ⟨by rfl, ?rya1⟩) hHeld ?rra1
    case rya1 => (intro w' hSw; (try dsimp only at hSw); go_simp; first | done | with_reducible rfl)
    case' rra1 => (try simp only [Act.put, List.setIfInBounds_toArray, List.set_cons_zero, List.set_cons_succ])
    refine wpAnyL_takeT (i := 2) (v := ?rva2) rfl (by kernel_rfl) (by kernel_rfl) (by kernel_rfl) (by kernel_rfl) (fun _ _ _ h => h) (Or.inl ⟨by rfl, ?rya2⟩) hHeld ?rra2
    case rya2 => (intro w' hSw; (try dsimp only at hSw); go_simp; first | done | with_reducible rfl)
    case' rra2 => (try simp only [Act.put, List.setIfInBounds_toArray, List.set_cons_zero, List.set_cons_succ])
    refine wpAnyL_takeT (i := 4) (v := ?rva4) rfl (by kernel_rfl) (by kernel_rfl) (by kernel_rfl) (by kernel_rfl) (fun _ _ _ h => h) (Or.inl ⟨by rfl, ?rya4⟩) hHeld ?rra4
    case rya4 => (intro w' hSw; (try dsimp only at hSw); go_simp; first | done | with_reducible rfl)
    case' rra4 => (try simp only [Act.put, List.setIfInBounds_toArray, List.set_cons_zero, List.set_cons_succ])
    refine wpAnyL_takeT (i := 5) (v := ?rva5) rfl (by kernel_rfl) (by kernel_rfl) (by kernel_rfl) (by kernel_rfl) (fun _ _ _ h => h) (Or.inl ⟨by rfl, ?rya5⟩) hHeld ?rra5
    case rya5 => (intro w' hSw; (try dsimp only at hSw); go_simp; first | done | with_reducible rfl)
    case' rra5 => (try simp only [Act.put, List.setIfInBounds_toArray, List.set_cons_zero, List.set_cons_succ])
    refine wpAnyL_takeT (i := 6) (v := ?rva6) rfl (by kernel_rfl) (by kernel_rfl) (by kernel_rfl) (by kernel_rfl) (fun _ _ _ h => h) (Or.inl ⟨by rfl, ?rya6⟩) hHeld ?rra6
    case rya6 => (intro w' hSw; (try dsimp only at hSw); go_simp; first | done | with_reducible rfl)
    case' rra6 => (try simp only [Act.put, List.setIfInBounds_toArray, List.set_cons_zero, List.set_cons_succ])
    refine wpAnyL_takeT (i := 7) (v := ?rva7) rfl (by kernel_rfl) (by kernel_rfl) (by kernel_rfl) (by kernel_rfl) (fun _ _ _ h => h) (Or.inl ⟨by rfl, ?rya7⟩) hHeld ?rra7
    case rya7 => (intro w' hSw; (try dsimp only at hSw); go_simp; first | done | with_reducible rfl)
    case' rra7 => (try simp only [Act.put, List.setIfInBounds_toArray, List.set_cons_zero, List.set_cons_succ])
    refine wpAnyL_takeT (i := 8) (v := ?rva8) rfl (by kernel_rfl) (by kernel_rfl) (by kernel_rfl) (by kernel_rfl) (fun _ _ _ h => h) (Or.inl ⟨by rfl, ?rya8⟩) hHeld ?rra8
    case rya8 => (intro w' hSw; (try dsimp only at hSw); go_simp; first | done | with_reducible rfl)
    case' rra8 => (try simp only [Act.put, List.setIfInBounds_toArray, List.set_cons_zero, List.set_cons_succ])
    refine wpAnyL_oneT (i := 0) (by kernel_rfl) rfl (fun K hK => ?_)
    go_simp
    go_at_call 108
    refine (rules_any _).mono ?_
    rintro e w3 ⟨mb, rfl, hrl, hk3⟩
    obtain ⟨l1, l2, l3⟩ := hrl.look
    have hS3 : w3.cell? ⟨w.heap.size, 0, none⟩ = some (.int .i64 c.cells) ∧ w3.cell? ⟨w.heap.size, 1, none⟩ = some (.int .i64 c.slots) ∧ w3.cell? ⟨w.heap.size, 2, none⟩ = some (.int .i64 c.bits) ∧ w3.cell? ⟨w.heap.size, 3, none⟩ = some (.int .i64 1) ∧ w3.cell? ⟨w.heap.size, 4, none⟩ = some (.int .i64 c.bias) ∧ w3.cell? ⟨w.heap.size, 5, none⟩ = some (.int .i64 c.defer) := HC.out _ (hkB.drew.trans hk3 (by simp))
    have HK3 := Lib.hid hk3
    go_simp
    refine hK.out _ _ (fun _ => hS3) ?_
    clear hK K
    try simp only [Act.put, List.setIfInBounds_toArray, List.set_cons_zero, List.set_cons_succ]
    replace hHeld := hS3
    refine wpAnyL_oneT (i := 3) (by kernel_rfl) rfl (fun K hK => ?_)
    go_simp
    refine hK.out _ _ (fun _ => hHeld) ?_
    clear hK K
    try simp only [Act.put, List.setIfInBounds_toArray, List.set_cons_zero, List.set_cons_succ]
    refine wpAnyL_oneT (i := 9) (by kernel_rfl) rfl (fun K hK => ?_)
    go_simp
    go_at_call 194
    refine (HR.out _ (hkB.drew.trans HK3.out (by simp))).mono ?_
    rintro e w4 ⟨rfl, hk4⟩
    have hS4 : w4.cell? ⟨w.heap.size, 0, none⟩ = some (.int .i64 c.cells) ∧ w4.cell? ⟨w.heap.size, 1, none⟩ = some (.int .i64 c.slots) ∧ w4.cell? ⟨w.heap.size, 2, none⟩ = some (.int .i64 c.bits) ∧ w4.cell? ⟨w.heap.size, 3, none⟩ = some (.int .i64 1) ∧ w4.cell? ⟨w.heap.size, 4, none⟩ = some (.int .i64 c.bias) ∧ w4.cell? ⟨w.heap.size, 5, none⟩ = some (.int .i64 c.defer) := HC.out _ ((hkB.drew.trans HK3.out (by simp)).trans hk4 (by simp))
    go_simp
    refine hK.out _ _ (fun _ => hS4) ?_
    clear hK K
    try simp only [Act.put, List.setIfInBounds_toArray, List.set_cons_zero, List.set_cons_succ]
    replace hHeld := hS4
    refine wpAnyL_takeT (i := 10) (v := ?rva10) rfl (by kernel_rfl) (by kernel_rfl) (by kernel_rfl) (by kernel_rfl) (fun _ _ _ h => h) (Or.inl ⟨by rfl, ?rya10⟩) hHeld ?rra10
    case rya10 => (intro w' hSw; (try dsimp only at hSw); go_simp; first | done | with_reducible rfl)
    case' rra10 => (try simp only [Act.put, List.setIfInBounds_toArray, List.set_cons_zero, List.set_cons_succ])
    refine wpAnyL_takeT (i := 11) (v := ?rva11) rfl (by kernel_rfl) (by kernel_rfl) (by kernel_rfl) (by kernel_rfl) (fun _ _ _ h => h) (Or.inl ⟨by rfl, ?rya11⟩) hHeld ?rra11
    case rya11 => (intro w' hSw; (try dsimp only at hSw); go_simp; first | done | with_reducible rfl)
    case' rra11 => (try simp only [Act.put, List.setIfInBounds_toArray, List.set_cons_zero, List.set_cons_succ])
    refine wpAnyL_done (by kernel_rfl) ?_ _
    refine NoPanic.normal ?_
    go_wp2_with fail
    go_ret2
    exact ⟨rfl, HK2.out.trans ((hkB.drew.trans HK3.out (by simp)).trans hk4 (by simp)) (by simp)⟩
  by_cases t2 : c.tag = 2
  · rw [if_pos t2] at HVV
    have HC : Hid (∀ w', Keeps [] w2 w' → w'.cell? ⟨w.heap.size, 0, none⟩ = some (.int .i64 c.cells) ∧ w'.cell? ⟨w.heap.size, 1, none⟩ = some (.int .i64 c.slots) ∧ w'.cell? ⟨w.heap.size, 2, none⟩ = some (.int .i64 c.bits) ∧ w'.cell? ⟨w.heap.size, 3, none⟩ = some (.int .i64 2) ∧ w'.cell? ⟨w.heap.size, 4, none⟩ = some (.int .i64 c.bias) ∧ w'.cell? ⟨w.heap.size, 5, none⟩ = some (.int .i64 c.defer)) := fun w' hk => by
      have := HC.out w' hk
      rw [t2] at this
      exact this
    have HR : Hid (∀ w', Keeps [] w2 w' → Calls Tryz.prog 195 #[.agg #[.int .i64 c.cells, .int .i64 c.slots, .int .i64 c.bits, .int .i64 2, .int .i64 c.bias, .int .i64 c.defer, .int .i64 st, .int .i64 d, .slice A vs.length cap]] w' fun e w'' => e = .returned (.int .i64 vv) ∧ Keeps [] w' w'') := fun w' hk => by
      have := rule2 w' c st d A vs.length cap
      rw [t2, ← HVV.out] at this
      exact this
    refine wp_region_noPanic ?_
    refine wp_region_L 99 (fun w' => w'.cell? ⟨w.heap.size, 0, none⟩ = some (.int .i64 c.cells) ∧ w'.cell? ⟨w.heap.size, 1, none⟩ = some (.int .i64 c.slots) ∧ w'.cell? ⟨w.heap.size, 2, none⟩ = some (.int .i64 c.bits) ∧ w'.cell? ⟨w.heap.size, 3, none⟩ = some (.int .i64 2) ∧ w'.cell? ⟨w.heap.size, 4, none⟩ = some (.int .i64 c.bias) ∧ w'.cell? ⟨w.heap.size, 5, none⟩ = some (.int .i64 c.defer)) (by kernel_rfl) ?_
    have hHeld := HC.out _ hkB.drew
    refine wpAnyL_takeT (i := 1) (v := ?rvb1) rfl (by kernel_rfl) (by kernel_rfl) (by kernel_rfl) (by kernel_rfl) (fun _ _ _ h => h) (Or.inl ⟨by rfl, ?ryb1⟩) hHeld ?rrb1
    case ryb1 => (intro w' hSw; (try dsimp only at hSw); go_simp; first | done | with_reducible rfl)
    case' rrb1 => (try simp only [Act.put, List.setIfInBounds_toArray, List.set_cons_zero, List.set_cons_succ])
    refine wpAnyL_takeT (i := 2) (v := ?rvb2) rfl (by kernel_rfl) (by kernel_rfl) (by kernel_rfl) (by kernel_rfl) (fun _ _ _ h => h) (Or.inl ⟨by rfl, ?ryb2⟩) hHeld ?rrb2
    case ryb2 => (intro w' hSw; (try dsimp only at hSw); go_simp; first | done | with_reducible rfl)
    case' rrb2 => (try simp only [Act.put, List.setIfInBounds_toArray, List.set_cons_zero, List.set_cons_succ])
    refine wpAnyL_takeT (i := 4) (v := ?rvb4) rfl (by kernel_rfl) (by kernel_rfl) (by kernel_rfl) (by kernel_rfl) (fun _ _ _ h => h) (Or.inl ⟨by rfl, ?ryb4⟩) hHeld ?rrb4
    case ryb4 => (intro w' hSw; (try dsimp only at hSw); go_simp; first | done | with_reducible rfl)
    case' rrb4 => (try simp only [Act.put, List.setIfInBounds_toArray, List.set_cons_zero, List.set_cons_succ])
    refine wpAnyL_takeT (i := 5) (v := ?rvb5) rfl (by kernel_rfl) (by kernel_rfl) (by kernel_rfl) (by kernel_rfl) (fun _ _ _ h => h) (Or.inl ⟨by rfl, ?ryb5⟩) hHeld ?rrb5
    case ryb5 => (intro w' hSw; (try dsimp only at hSw); go_simp; first | done | with_reducible rfl)
    case' rrb5 => (try simp only [Act.put, List.setIfInBounds_toArray, List.set_cons_zero, List.set_cons_succ])
    refine wpAnyL_takeT (i := 6) (v := ?rvb6) rfl (by kernel_rfl) (by kernel_rfl) (by kernel_rfl) (by kernel_rfl) (fun _ _ _ h => h) (Or.inl ⟨by rfl, ?ryb6⟩) hHeld ?rrb6
    case ryb6 => (intro w' hSw; (try dsimp only at hSw); go_simp; first | done | with_reducible rfl)
    case' rrb6 => (try simp only [Act.put, List.setIfInBounds_toArray, List.set_cons_zero, List.set_cons_succ])
    refine wpAnyL_takeT (i := 7) (v := ?rvb7) rfl (by kernel_rfl) (by kernel_rfl) (by kernel_rfl) (by kernel_rfl) (fun _ _ _ h => h) (Or.inl ⟨by rfl, ?ryb7⟩) hHeld ?rrb7
    case ryb7 => (intro w' hSw; (try dsimp only at hSw); go_simp; first | done | with_reducible rfl)
    case' rrb7 => (try simp only [Act.put, List.setIfInBounds_toArray, List.set_cons_zero, List.set_cons_succ])
    refine wpAnyL_takeT (i := 8) (v := ?rvb8) rfl (by kernel_rfl) (by kernel_rfl) (by kernel_rfl) (by kernel_rfl) (fun _ _ _ h => h) (Or.inl ⟨by rfl, ?ryb8⟩) hHeld ?rrb8
    case ryb8 => (intro w' hSw; (try dsimp only at hSw); go_simp; first | done | with_reducible rfl)
    case' rrb8 => (try simp only [Act.put, List.setIfInBounds_toArray, List.set_cons_zero, List.set_cons_succ])
    refine wpAnyL_oneT (i := 0) (by kernel_rfl) rfl (fun K hK => ?_)
    go_simp
    go_at_call 108
    refine (rules_any _).mono ?_
    rintro e w3 ⟨mb, rfl, hrl, hk3⟩
    obtain ⟨l1, l2, l3⟩ := hrl.look
    have hS3 : w3.cell? ⟨w.heap.size, 0, none⟩ = some (.int .i64 c.cells) ∧ w3.cell? ⟨w.heap.size, 1, none⟩ = some (.int .i64 c.slots) ∧ w3.cell? ⟨w.heap.size, 2, none⟩ = some (.int .i64 c.bits) ∧ w3.cell? ⟨w.heap.size, 3, none⟩ = some (.int .i64 2) ∧ w3.cell? ⟨w.heap.size, 4, none⟩ = some (.int .i64 c.bias) ∧ w3.cell? ⟨w.heap.size, 5, none⟩ = some (.int .i64 c.defer) := HC.out _ (hkB.drew.trans hk3 (by simp))
    have HK3 := Lib.hid hk3
    go_simp
    refine hK.out _ _ (fun _ => hS3) ?_
    clear hK K
    try simp only [Act.put, List.setIfInBounds_toArray, List.set_cons_zero, List.set_cons_succ]
    replace hHeld := hS3
    refine wpAnyL_oneT (i := 3) (by kernel_rfl) rfl (fun K hK => ?_)
    go_simp
    refine hK.out _ _ (fun _ => hHeld) ?_
    clear hK K
    try simp only [Act.put, List.setIfInBounds_toArray, List.set_cons_zero, List.set_cons_succ]
    refine wpAnyL_oneT (i := 9) (by kernel_rfl) rfl (fun K hK => ?_)
    go_simp
    go_at_call 195
    refine (HR.out _ (hkB.drew.trans HK3.out (by simp))).mono ?_
    rintro e w4 ⟨rfl, hk4⟩
    have hS4 : w4.cell? ⟨w.heap.size, 0, none⟩ = some (.int .i64 c.cells) ∧ w4.cell? ⟨w.heap.size, 1, none⟩ = some (.int .i64 c.slots) ∧ w4.cell? ⟨w.heap.size, 2, none⟩ = some (.int .i64 c.bits) ∧ w4.cell? ⟨w.heap.size, 3, none⟩ = some (.int .i64 2) ∧ w4.cell? ⟨w.heap.size, 4, none⟩ = some (.int .i64 c.bias) ∧ w4.cell? ⟨w.heap.size, 5, none⟩ = some (.int .i64 c.defer) := HC.out _ ((hkB.drew.trans HK3.out (by simp)).trans hk4 (by simp))
    go_simp
    refine hK.out _ _ (fun _ => hS4) ?_
    clear hK K
    try simp only [Act.put, List.setIfInBounds_toArray, List.set_cons_zero, List.set_cons_succ]
    replace hHeld := hS4
    refine wpAnyL_takeT (i := 10) (v := ?rvb10) rfl (by kernel_rfl) (by kernel_rfl) (by kernel_rfl) (by kernel_rfl) (fun _ _ _ h => h) (Or.inl ⟨by rfl, ?ryb10⟩) hHeld ?rrb10
    case ryb10 => (intro w' hSw; (try dsimp only at hSw); go_simp; first | done | with_reducible rfl)
    case' rrb10 => (try simp only [Act.put, List.setIfInBounds_toArray, List.set_cons_zero, List.set_cons_succ])
    refine wpAnyL_takeT (i := 11) (v := ?rvb11) rfl (by kernel_rfl) (by kernel_rfl) (by kernel_rfl) (by kernel_rfl) (fun _ _ _ h => h) (Or.inl ⟨by rfl, ?ryb11⟩) hHeld ?rrb11
    case ryb11 => (intro w' hSw; (try dsimp only at hSw); go_simp; first | done | with_reducible rfl)
    case' rrb11 => (try simp only [Act.put, List.setIfInBounds_toArray, List.set_cons_zero, List.set_cons_succ])
    refine wpAnyL_done (by kernel_rfl) ?_ _
    refine NoPanic.normal ?_
    go_wp2_with fail
    go_ret2
    exact ⟨rfl, HK2.out.trans ((hkB.drew.trans HK3.out (by simp)).trans hk4 (by simp)) (by simp)⟩
  · have t3 : c.tag = 3 := by omega
    rw [if_neg t2, if_pos t3] at HVV
    have HC : Hid (∀ w', Keeps [] w2 w' → w'.cell? ⟨w.heap.size, 0, none⟩ = some (.int .i64 c.cells) ∧ w'.cell? ⟨w.heap.size, 1, none⟩ = some (.int .i64 c.slots) ∧ w'.cell? ⟨w.heap.size, 2, none⟩ = some (.int .i64 c.bits) ∧ w'.cell? ⟨w.heap.size, 3, none⟩ = some (.int .i64 3) ∧ w'.cell? ⟨w.heap.size, 4, none⟩ = some (.int .i64 c.bias) ∧ w'.cell? ⟨w.heap.size, 5, none⟩ = some (.int .i64 c.defer)) := fun w' hk => by
      have := HC.out w' hk
      rw [t3] at this
      exact this
    have HR : Hid (∀ w', Keeps [] w2 w' → Calls Tryz.prog 196 #[.agg #[.int .i64 c.cells, .int .i64 c.slots, .int .i64 c.bits, .int .i64 3, .int .i64 c.bias, .int .i64 c.defer, .int .i64 st, .int .i64 d, .slice A vs.length cap]] w' fun e w'' => e = .returned (.int .i64 vv) ∧ Keeps [] w' w'') := fun w' hk => by
      have := rule3 w' c st d A cap vs (HV.out.keeps (HK2.out.trans hk (by simp)) (by simp))
      rw [t3, ← HVV.out] at this
      exact this
    refine wp_region_noPanic ?_
    refine wp_region_L 99 (fun w' => w'.cell? ⟨w.heap.size, 0, none⟩ = some (.int .i64 c.cells) ∧ w'.cell? ⟨w.heap.size, 1, none⟩ = some (.int .i64 c.slots) ∧ w'.cell? ⟨w.heap.size, 2, none⟩ = some (.int .i64 c.bits) ∧ w'.cell? ⟨w.heap.size, 3, none⟩ = some (.int .i64 3) ∧ w'.cell? ⟨w.heap.size, 4, none⟩ = some (.int .i64 c.bias) ∧ w'.cell? ⟨w.heap.size, 5, none⟩ = some (.int .i64 c.defer)) (by kernel_rfl) ?_
    have hHeld := HC.out _ hkB.drew
    refine wpAnyL_takeT (i := 1) (v := ?rvc1) rfl (by kernel_rfl) (by kernel_rfl) (by kernel_rfl) (by kernel_rfl) (fun _ _ _ h => h) (Or.inl ⟨by rfl, ?ryc1⟩) hHeld ?rrc1
    case ryc1 => (intro w' hSw; (try dsimp only at hSw); go_simp; first | done | with_reducible rfl)
    case' rrc1 => (try simp only [Act.put, List.setIfInBounds_toArray, List.set_cons_zero, List.set_cons_succ])
    refine wpAnyL_takeT (i := 2) (v := ?rvc2) rfl (by kernel_rfl) (by kernel_rfl) (by kernel_rfl) (by kernel_rfl) (fun _ _ _ h => h) (Or.inl ⟨by rfl, ?ryc2⟩) hHeld ?rrc2
    case ryc2 => (intro w' hSw; (try dsimp only at hSw); go_simp; first | done | with_reducible rfl)
    case' rrc2 => (try simp only [Act.put, List.setIfInBounds_toArray, List.set_cons_zero, List.set_cons_succ])
    refine wpAnyL_takeT (i := 4) (v := ?rvc4) rfl (by kernel_rfl) (by kernel_rfl) (by kernel_rfl) (by kernel_rfl) (fun _ _ _ h => h) (Or.inl ⟨by rfl, ?ryc4⟩) hHeld ?rrc4
    case ryc4 => (intro w' hSw; (try dsimp only at hSw); go_simp; first | done | with_reducible rfl)
    case' rrc4 => (try simp only [Act.put, List.setIfInBounds_toArray, List.set_cons_zero, List.set_cons_succ])
    refine wpAnyL_takeT (i := 5) (v := ?rvc5) rfl (by kernel_rfl) (by kernel_rfl) (by kernel_rfl) (by kernel_rfl) (fun _ _ _ h => h) (Or.inl ⟨by rfl, ?ryc5⟩) hHeld ?rrc5
    case ryc5 => (intro w' hSw; (try dsimp only at hSw); go_simp; first | done | with_reducible rfl)
    case' rrc5 => (try simp only [Act.put, List.setIfInBounds_toArray, List.set_cons_zero, List.set_cons_succ])
    refine wpAnyL_takeT (i := 6) (v := ?rvc6) rfl (by kernel_rfl) (by kernel_rfl) (by kernel_rfl) (by kernel_rfl) (fun _ _ _ h => h) (Or.inl ⟨by rfl, ?ryc6⟩) hHeld ?rrc6
    case ryc6 => (intro w' hSw; (try dsimp only at hSw); go_simp; first | done | with_reducible rfl)
    case' rrc6 => (try simp only [Act.put, List.setIfInBounds_toArray, List.set_cons_zero, List.set_cons_succ])
    refine wpAnyL_takeT (i := 7) (v := ?rvc7) rfl (by kernel_rfl) (by kernel_rfl) (by kernel_rfl) (by kernel_rfl) (fun _ _ _ h => h) (Or.inl ⟨by rfl, ?ryc7⟩) hHeld ?rrc7
    case ryc7 => (intro w' hSw; (try dsimp only at hSw); go_simp; first | done | with_reducible rfl)
    case' rrc7 => (try simp only [Act.put, List.setIfInBounds_toArray, List.set_cons_zero, List.set_cons_succ])
    refine wpAnyL_takeT (i := 8) (v := ?rvc8) rfl (by kernel_rfl) (by kernel_rfl) (by kernel_rfl) (by kernel_rfl) (fun _ _ _ h => h) (Or.inl ⟨by rfl, ?ryc8⟩) hHeld ?rrc8
    case ryc8 => (intro w' hSw; (try dsimp only at hSw); go_simp; first | done | with_reducible rfl)
    case' rrc8 => (try simp only [Act.put, List.setIfInBounds_toArray, List.set_cons_zero, List.set_cons_succ])
    refine wpAnyL_oneT (i := 0) (by kernel_rfl) rfl (fun K hK => ?_)
    go_simp
    go_at_call 108
    refine (rules_any _).mono ?_
    rintro e w3 ⟨mb, rfl, hrl, hk3⟩
    obtain ⟨l1, l2, l3⟩ := hrl.look
    have hS3 : w3.cell? ⟨w.heap.size, 0, none⟩ = some (.int .i64 c.cells) ∧ w3.cell? ⟨w.heap.size, 1, none⟩ = some (.int .i64 c.slots) ∧ w3.cell? ⟨w.heap.size, 2, none⟩ = some (.int .i64 c.bits) ∧ w3.cell? ⟨w.heap.size, 3, none⟩ = some (.int .i64 3) ∧ w3.cell? ⟨w.heap.size, 4, none⟩ = some (.int .i64 c.bias) ∧ w3.cell? ⟨w.heap.size, 5, none⟩ = some (.int .i64 c.defer) := HC.out _ (hkB.drew.trans hk3 (by simp))
    have HK3 := Lib.hid hk3
    go_simp
    refine hK.out _ _ (fun _ => hS3) ?_
    clear hK K
    try simp only [Act.put, List.setIfInBounds_toArray, List.set_cons_zero, List.set_cons_succ]
    replace hHeld := hS3
    refine wpAnyL_oneT (i := 3) (by kernel_rfl) rfl (fun K hK => ?_)
    go_simp
    refine hK.out _ _ (fun _ => hHeld) ?_
    clear hK K
    try simp only [Act.put, List.setIfInBounds_toArray, List.set_cons_zero, List.set_cons_succ]
    refine wpAnyL_oneT (i := 9) (by kernel_rfl) rfl (fun K hK => ?_)
    go_simp
    go_at_call 196
    refine (HR.out _ (hkB.drew.trans HK3.out (by simp))).mono ?_
    rintro e w4 ⟨rfl, hk4⟩
    have hS4 : w4.cell? ⟨w.heap.size, 0, none⟩ = some (.int .i64 c.cells) ∧ w4.cell? ⟨w.heap.size, 1, none⟩ = some (.int .i64 c.slots) ∧ w4.cell? ⟨w.heap.size, 2, none⟩ = some (.int .i64 c.bits) ∧ w4.cell? ⟨w.heap.size, 3, none⟩ = some (.int .i64 3) ∧ w4.cell? ⟨w.heap.size, 4, none⟩ = some (.int .i64 c.bias) ∧ w4.cell? ⟨w.heap.size, 5, none⟩ = some (.int .i64 c.defer) := HC.out _ ((hkB.drew.trans HK3.out (by simp)).trans hk4 (by simp))
    go_simp
    refine hK.out _ _ (fun _ => hS4) ?_
    clear hK K
    try simp only [Act.put, List.setIfInBounds_toArray, List.set_cons_zero, List.set_cons_succ]
    replace hHeld := hS4
    refine wpAnyL_takeT (i := 10) (v := ?rvc10) rfl (by kernel_rfl) (by kernel_rfl) (by kernel_rfl) (by kernel_rfl) (fun _ _ _ h => h) (Or.inl ⟨by rfl, ?ryc10⟩) hHeld ?rrc10
    case ryc10 => (intro w' hSw; (try dsimp only at hSw); go_simp; first | done | with_reducible rfl)
    case' rrc10 => (try simp only [Act.put, List.setIfInBounds_toArray, List.set_cons_zero, List.set_cons_succ])
    refine wpAnyL_takeT (i := 11) (v := ?rvc11) rfl (by kernel_rfl) (by kernel_rfl) (by kernel_rfl) (by kernel_rfl) (fun _ _ _ h => h) (Or.inl ⟨by rfl, ?ryc11⟩) hHeld ?rrc11
    case ryc11 => (intro w' hSw; (try dsimp only at hSw); go_simp; first | done | with_reducible rfl)
    case' rrc11 => (try simp only [Act.put, List.setIfInBounds_toArray, List.set_cons_zero, List.set_cons_succ])
    refine wpAnyL_done (by kernel_rfl) ?_ _
    refine NoPanic.normal ?_
    go_wp2_with fail
    go_ret2
    exact ⟨rfl, HK2.out.trans ((hkB.drew.trans HK3.out (by simp)).trans hk4 (by simp)) (by simp)⟩
/-- A judge in block b. -/
def JAt (w : World) (b : Nat) (c : Cf) (d : Int) : Prop := Blk w b 225 #[.int .i64 c.cells, .int .i64 c.slots, .int .i64 c.bits, .int .i64 c.tag, .int .i64 c.bias, .int .i64 c.defer, .int .i64 d]
theorem JAt.cells {w : World} {b : Nat} {c : Cf} {d : Int} (h : JAt w b c d) : w.cell? ⟨b, 0, none⟩ = some (.int .i64 c.cells) ∧ w.cell? ⟨b, 1, none⟩ = some (.int .i64 c.slots) ∧ w.cell? ⟨b, 2, none⟩ = some (.int .i64 c.bits) ∧ w.cell? ⟨b, 3, none⟩ = some (.int .i64 c.tag) ∧ w.cell? ⟨b, 4, none⟩ = some (.int .i64 c.bias) ∧ w.cell? ⟨b, 5, none⟩ = some (.int .i64 c.defer) ∧ w.cell? ⟨b, 6, none⟩ = some (.int .i64 d) :=
  ⟨(Blk.cell h 0).trans rfl, (Blk.cell h 1).trans rfl, (Blk.cell h 2).trans rfl, (Blk.cell h 3).trans rfl, (Blk.cell h 4).trans rfl, (Blk.cell h 5).trans rfl, (Blk.cell h 6).trans rfl⟩
theorem judge_new_bad (w : World) (c : Cf) (h : ¬ c.ok) : Calls Tryz.prog 40 #[.agg #[.int .i64 c.cells, .int .i64 c.slots, .int .i64 c.bits, .int .i64 c.tag, .int .i64 c.bias, .int .i64 c.defer]] w fun e w' => e = .returned (.tuple #[.pointer none, .int .i64 1]) ∧ Keeps [] w w' := by
  have hk : Keeps [] w (w.alloc (.cells c.vals 23)) := by simp
  have hb : Blk (w.alloc (.cells c.vals 23)) w.heap.size 23 c.vals := Blk.new _ _ _
  obtain ⟨d0, d1, d2, d3, d4, d5⟩ := cf_cells hb
  have HK := Lib.hid hk
  clear hk hb
  unfold Cf.vals at d0 d1 d2 d3 d4 d5
  have HQ : Hid (∀ w : World, Calls Tryz.prog 88 #[.agg #[.int .i64 c.cells, .int .i64 c.slots, .int .i64 c.bits, .int .i64 c.tag, .int .i64 c.bias, .int .i64 c.defer]] w fun e w' => e = .returned (.int .i64 1) ∧ Keeps [] w w') := fun w => by
    have := sp_check w c
    rw [if_neg h] at this
    exact this
  go_enter Tryz.func40, Tryz.ntmps40
  go_wp2_with fail
  refine (HQ.out _).mono ?_
  rintro e w1 ⟨rfl, hk1⟩
  have HK1 := Lib.hid (HK.out.trans hk1 (by simp))
  clear hk1 HQ
  go_wp2_with fail
  go_ret2
  exact ⟨rfl, HK1.out⟩
theorem judge_new (w : World) (c : Cf) (h : c.ok) : Calls Tryz.prog 40 #[.agg #[.int .i64 c.cells, .int .i64 c.slots, .int .i64 c.bits, .int .i64 c.tag, .int .i64 c.bias, .int .i64 c.defer]] w fun e w' => ∃ b, e = .returned (.tuple #[PT b, .int .i64 0]) ∧ JAt w' b c 0 ∧ w.heap.size ≤ b ∧ Keeps [] w w' := by
  have hk : Keeps [] w (w.alloc (.cells c.vals 23)) := by simp
  have hb : Blk (w.alloc (.cells c.vals 23)) w.heap.size 23 c.vals := Blk.new _ _ _
  obtain ⟨d0, d1, d2, d3, d4, d5⟩ := cf_cells hb
  have HK := Lib.hid hk
  have HB := Lib.hid hb
  clear hk hb
  unfold Cf.vals at d0 d1 d2 d3 d4 d5
  have HQ : Hid (∀ w : World, Calls Tryz.prog 88 #[.agg #[.int .i64 c.cells, .int .i64 c.slots, .int .i64 c.bits, .int .i64 c.tag, .int .i64 c.bias, .int .i64 c.defer]] w fun e w' => e = .returned (.int .i64 0) ∧ Keeps [] w w') := fun w => by
    have := sp_check w c
    rw [if_pos h] at this
    exact this
  go_enter Tryz.func40, Tryz.ntmps40
  go_wp2_with fail
  refine (HQ.out _).mono ?_
  rintro e w1 ⟨rfl, hk1⟩
  have HK1 := Lib.hid (HK.out.trans hk1 (by simp))
  have HB1 := Lib.hid (HB.out.keeps hk1 (by simp))
  clear hk1 HQ d0 d1 d2 d3 d4 d5
  obtain ⟨d0, d1, d2, d3, d4, d5⟩ := cf_cells HB1.out
  go_wp2_with fail
  go_ret2
  exact ⟨w1.heap.size, rfl, Blk.new _ _ _, HK1.out.size, HK1.out.alloc _⟩
/-- What Decide leaves of the counter. -/
def decided (c : Cf) (st d : Int) (vs : List Vc) : Int := if verdict c st d vs = 2 then d + 1 else d
set_option maxRecDepth 100000 in
set_option maxHeartbeats 4000000 in
theorem judge_decide (w : World) (b : Nat) (c : Cf) (hc : c.ok) (st d : Int) (hd : 0 ≤ d) (hd2 : d < 4611686018427387904) (hj : JAt w b c d) (A : Option Addr) (cap : Nat) (vs : List Vc) (hv : SlR w 73 4 (.slice A vs.length cap) vs.length (vcCells vs)) :
    Calls Tryz.prog 270 #[PT b, .int .i64 st, .slice A vs.length cap] w fun e w' => e = .returned (.int .i64 (verdict c st d vs)) ∧ JAt w' b c (decided c st d vs) ∧ Keeps [b] w w' := by
  have HJ := Lib.hid hj
  have hwr : IntKind.i64.wrap (d + 1) = d + 1 := by rw [IntKind.wrap_i64]; omega
  have QV : Hid (∀ w', Keeps [] w w' → Calls Tryz.prog 35 #[.agg #[.int .i64 c.cells, .int .i64 c.slots, .int .i64 c.bits, .int .i64 c.tag, .int .i64 c.bias, .int .i64 c.defer], .int .i64 st, .int .i64 d, .slice A vs.length cap] w' fun e w'' => e = .returned (.tuple #[.int .i64 (verdict c st d vs), .int .i64 0]) ∧ Keeps [] w w'') := fun w' hk => (verdict_any w' c hc st d hd A cap vs (hv.keeps hk (by simp))).mono fun e w'' ⟨he, h2⟩ => ⟨he, hk.trans h2 (by simp)⟩
  unfold decided
  obtain ⟨vv, hvv⟩ : ∃ q, verdict c st d vs = q := ⟨_, rfl⟩
  obtain ⟨dd, hdd⟩ : ∃ q, (if vv = 2 then d + 1 else d) = q := ⟨_, rfl⟩
  rw [hvv] at QV ⊢
  rw [hdd]
  have HDD := Lib.hid hdd
  have HC := Lib.hid (show ∀ w', Keeps [] w w' → w'.cell? ⟨b, 0, none⟩ = some (.int .i64 c.cells) ∧ w'.cell? ⟨b, 1, none⟩ = some (.int .i64 c.slots) ∧ w'.cell? ⟨b, 2, none⟩ = some (.int .i64 c.bits) ∧ w'.cell? ⟨b, 3, none⟩ = some (.int .i64 c.tag) ∧ w'.cell? ⟨b, 4, none⟩ = some (.int .i64 c.bias) ∧ w'.cell? ⟨b, 5, none⟩ = some (.int .i64 c.defer) ∧ w'.cell? ⟨b, 6, none⟩ = some (.int .i64 d) from fun w' hk => JAt.cells (Blk.keeps hj hk (by simp)))
  have hkB : Keeps [] w w := Keeps.refl _ _
  clear hvv hj hv hc hdd
  go_enter Tryz.func270, Tryz.ntmps270
  go_wp2_with fail
  go_region_held3 (fun w' => w'.cell? ⟨b, 0, none⟩ = some (.int .i64 c.cells) ∧ w'.cell? ⟨b, 1, none⟩ = some (.int .i64 c.slots) ∧ w'.cell? ⟨b, 2, none⟩ = some (.int .i64 c.bits) ∧ w'.cell? ⟨b, 3, none⟩ = some (.int .i64 c.tag) ∧ w'.cell? ⟨b, 4, none⟩ = some (.int .i64 c.bias) ∧ w'.cell? ⟨b, 5, none⟩ = some (.int .i64 c.defer) ∧ w'.cell? ⟨b, 6, none⟩ = some (.int .i64 d)) (first | with_reducible exact HC.out _ (by first | with_reducible assumption | with_reducible exact Keeps.drew (by with_reducible assumption)) | go_keep) ((go_at_call 35; (with_reducible refine (QV.out _ (by first | with_reducible assumption | with_reducible exact Keeps.drew (by with_reducible assumption))).mono ?_); rintro e wv ⟨rfl, hkv⟩))
  all_goals
    have hjv : JAt wv b c d := Blk.keeps HJ.out hkv (by simp)
    have c6 : wv.cell? ⟨b, 6, none⟩ = some (.int .i64 d) := (Blk.cell hjv 6).trans rfl
    have f6 := Blk.frozen hjv 6
    by_cases e2 : vv = 2
    · have hdd : d + 1 = dd := by rw [← HDD.out, if_pos e2]
      subst e2
      subst hdd
      go_wp2_with fail
      go_ret
      refine ⟨rfl, ?_, (hkv.mono (by simp)).setCell (.inl (by simp)) _⟩
      have := Blk.set_ hjv 6 (.int .i64 (d + 1))
      simpa [JAt] using this
    · have n2 : (vv == 2) = false := by simp [e2]
      have hdd : d = dd := by rw [← HDD.out, if_neg e2]
      subst hdd
      go_wp2_with fail
      go_ret
      exact ⟨rfl, hjv, hkv.mono (by simp)⟩
theorem judge_defers {w : World} {b : Nat} {c : Cf} {d : Int} (h : JAt w b c d) : Calls Tryz.prog 38 #[PT b] w fun e w' => e = .returned (.int .i64 d) ∧ w = w' := by
  have c6 : w.cell? ⟨b, 6, none⟩ = some (.int .i64 d) := (Blk.cell h 6).trans rfl
  clear h
  go_enter Tryz.func38, Tryz.ntmps38
  go_wp2
  go_ret
  exact ⟨rfl, rfl⟩
theorem judge_promoted {w : World} {b : Nat} {c : Cf} {d : Int} (h : JAt w b c d) : Calls Tryz.prog 39 #[PT b] w fun e w' => e = .returned (.bool (decide (c.tag = 2) && decide (d ≥ c.defer))) ∧ Keeps [] w w' := by
  have c3 : w.cell? ⟨b, 3, none⟩ = some (.int .i64 c.tag) := (Blk.cell h 3).trans rfl
  have c5 : w.cell? ⟨b, 5, none⟩ = some (.int .i64 c.defer) := (Blk.cell h 5).trans rfl
  have c6 : w.cell? ⟨b, 6, none⟩ = some (.int .i64 d) := (Blk.cell h 6).trans rfl
  clear h
  by_cases h1 : c.tag = 2
  · have e1 : (c.tag == 2) = true := by simp [h1]
    rw [decide_eq_true h1]
    clear h1
    by_cases h2 : d ≥ c.defer
    · have e2 : decide (c.defer ≤ d) = true := decide_eq_true h2
      rw [decide_eq_true h2]
      go_enter Tryz.func39, Tryz.ntmps39
      go_wp2_with fail
      go_quiet (fail)
      go_wp2_with fail
      go_ret
      exact ⟨rfl, by simp⟩
    · have e2 : decide (c.defer ≤ d) = false := decide_eq_false h2
      rw [decide_eq_false h2]
      go_enter Tryz.func39, Tryz.ntmps39
      go_wp2_with fail
      go_quiet (fail)
      go_wp2_with fail
      go_ret
      exact ⟨rfl, by simp⟩
  · have e1 : (c.tag == 2) = false := by simp [h1]
    rw [decide_eq_false h1]
    go_enter Tryz.func39, Tryz.ntmps39
    go_wp2_with fail
    go_quiet (fail)
    go_wp2_with fail
    go_ret
    exact ⟨rfl, by simp⟩
end Pol
end Go.Proofs.YtdhgiohjdhcedaaGreat
