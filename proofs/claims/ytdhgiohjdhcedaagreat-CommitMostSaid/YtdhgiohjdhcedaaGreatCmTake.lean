/- Layer 13: a commit takes the gate, gives it, gives up, frees its slot. -/
import Derived.Test.YtdhgiohjdhcedaaGreatCmAt
import Derived.Test.YtdhgiohjdhcedaaGreatRegT
import Derived.Test.YtdhgiohjdhcedaaGreatLocal
import Derived.Deep.RegionHeld3
import Derived.Deep.QuietTactic
import Derived.BigQuiet
namespace Go.Proofs.YtdhgiohjdhcedaaGreat
open Go.RowKit Pol
set_option linter.unusedVariables false
set_option linter.unusedSimpArgs false
section
variable {w0 w w' : World} {z : Sb} {F H : List Nat} {S S' : Sp} {k jb cb dp : Nat} {x x' : Cm} {nv : Value} {c : Cf} {d d' : Int}
set_option maxRecDepth 100000 in
set_option maxHeartbeats 4000000 in
theorem cm_take (h : CmTrio w0 w z F H jb cb dp nv S c d x) (hf : Fit k S) (hk : k ≤ 1099511627776) : Calls Tryz.prog 258 #[.agg #[], PT cb] w fun e w' => e = .returned (.tuple #[.int .i64 (x.take_ S).1, stgVal dp (x.take_ S).2.1.st]) ∧ WentC w0 w w' z F H jb cb dp nv (x.take_ S).2.2 c d (x.take_ S).2.1 := by
  obtain ⟨wB, hwB⟩ : ∃ q, w.alloc (.cells #[] 206) = q := ⟨_, rfl⟩
  have hkB : Keeps [] w wB := by rw [← hwB]; simp
  have HT := Lib.hid h
  have HC := Lib.hid (show ∀ w', Keeps [] w w' → w'.cell? ⟨cb, 0, none⟩ = some (PT z.p) ∧ w'.cell? ⟨cb, 4, none⟩ = some (.int .i64 x.thread) from fun w' hk' => let q := (h.calm hk').cm.fix; ⟨q.1, q.2.2.2.2.1⟩)
  have QG := Lib.hid (fun w' (hk' : Keeps [] w w') => sp_gate (h.calm hk').sp)
  have QS := Lib.hid (fun w' (hk' : Keeps [] w w') => sp_slots (h.calm hk').sp)
  have hcl := fun (w' : World) (hk' : Keeps [] w w') => sp_take (h.calm hk').sp hf hk x.thread
  unfold Cm.take_
  obtain ⟨nn, hnn⟩ : ∃ v, (S.take x.thread).1.1 = v := ⟨_, rfl⟩
  obtain ⟨er, her⟩ : ∃ v, (S.take x.thread).1.2 = v := ⟨_, rfl⟩
  obtain ⟨S', hS'⟩ : ∃ v, (S.take x.thread).2 = v := ⟨_, rfl⟩
  simp only [hnn, her, hS'] at hcl ⊢
  have QC := Lib.hid hcl
  clear hcl hnn her hS' hf hk h
  by_cases h0 : er = 0
  · subst h0
    simp only [if_pos rfl]
    go_enter Tryz.func258, Tryz.ntmps258
    go_wp2_with fail
    try rw [hwB]
    refine wp_region_noPanic ?_
    refine wp_region_L 99 (fun w' => w'.cell? ⟨cb, 0, none⟩ = some (PT z.p) ∧ w'.cell? ⟨cb, 4, none⟩ = some (.int .i64 x.thread)) (by kernel_rfl) ?_
    have hHeld := HC.out _ (hkB.drew)
    refine wpAnyL_takeT (i := 0) (v := ?rva0) rfl (by kernel_rfl) (by kernel_rfl) (by kernel_rfl) (by kernel_rfl) (fun _ _ _ h => h) (Or.inl ⟨by rfl, ?rya0⟩) hHeld ?rra0
    case rya0 => (intro w' hSw; (try dsimp only at hSw); go_simp; first | done | with_reducible rfl)
    case' rra0 => (try simp only [Act.put, List.setIfInBounds_toArray, List.set_cons_zero, List.set_cons_succ])
    refine wpAnyL_takeT (i := 1) (v := ?rva1) rfl (by kernel_rfl) (by kernel_rfl) (by kernel_rfl) (by kernel_rfl) (fun _ _ _ h => h) (Or.inl ⟨by rfl, ?rya1⟩) hHeld ?rra1
    case rya1 => (intro w' hSw; (try dsimp only at hSw); go_simp; first | done | with_reducible rfl)
    case' rra1 => (try simp only [Act.put, List.setIfInBounds_toArray, List.set_cons_zero, List.set_cons_succ])
    refine wpAnyL_takeT (i := 2) (v := ?rva2) rfl (by kernel_rfl) (by kernel_rfl) (by kernel_rfl) (by kernel_rfl) (fun _ _ _ h => h) (Or.inl ⟨by rfl, ?rya2⟩) hHeld ?rra2
    case rya2 => (intro w' hSw; (try dsimp only at hSw); go_simp; first | done | with_reducible rfl)
    case' rra2 => (try simp only [Act.put, List.setIfInBounds_toArray, List.set_cons_zero, List.set_cons_succ])
    refine wpAnyL_takeT (i := 3) (v := ?rva3) rfl (by kernel_rfl) (by kernel_rfl) (by kernel_rfl) (by kernel_rfl) (fun _ _ _ h => h) (Or.inl ⟨by rfl, ?rya3⟩) hHeld ?rra3
    case rya3 => (intro w' hSw; (try dsimp only at hSw); go_simp; first | done | with_reducible rfl)
    case' rra3 => (try simp only [Act.put, List.setIfInBounds_toArray, List.set_cons_zero, List.set_cons_succ])
    refine wpAnyL_takeT (i := 5) (v := ?rva5) rfl (by kernel_rfl) (by kernel_rfl) (by kernel_rfl) (by kernel_rfl) (fun _ _ _ h => h) (Or.inl ⟨by rfl, ?rya5⟩) hHeld ?rra5
    case rya5 => (intro w' hSw; (try dsimp only at hSw); go_simp; first | done | with_reducible rfl)
    case' rra5 => (try simp only [Act.put, List.setIfInBounds_toArray, List.set_cons_zero, List.set_cons_succ])
    refine wpAnyL_takeT (i := 6) (v := ?rva6) rfl (by kernel_rfl) (by kernel_rfl) (by kernel_rfl) (by kernel_rfl) (fun _ _ _ h => h) (Or.inl ⟨by rfl, ?rya6⟩) hHeld ?rra6
    case rya6 => (intro w' hSw; (try dsimp only at hSw); go_simp; first | done | with_reducible rfl)
    case' rra6 => (try simp only [Act.put, List.setIfInBounds_toArray, List.set_cons_zero, List.set_cons_succ])
    refine wpAnyL_takeT (i := 7) (v := ?rva7) rfl (by kernel_rfl) (by kernel_rfl) (by kernel_rfl) (by kernel_rfl) (fun _ _ _ h => h) (Or.inl ⟨by rfl, ?rya7⟩) hHeld ?rra7
    case rya7 => (intro w' hSw; (try dsimp only at hSw); go_simp; first | done | with_reducible rfl)
    case' rra7 => (try simp only [Act.put, List.setIfInBounds_toArray, List.set_cons_zero, List.set_cons_succ])
    refine wpAnyL_takeT (i := 8) (v := ?rva8) rfl (by kernel_rfl) (by kernel_rfl) (by kernel_rfl) (by kernel_rfl) (fun _ _ _ h => h) (Or.inl ⟨by rfl, ?rya8⟩) hHeld ?rra8
    case rya8 => (intro w' hSw; (try dsimp only at hSw); go_simp; first | done | with_reducible rfl)
    case' rra8 => (try simp only [Act.put, List.setIfInBounds_toArray, List.set_cons_zero, List.set_cons_succ])
    refine wpAnyL_takeT (i := 9) (v := ?rva9) rfl (by kernel_rfl) (by kernel_rfl) (by kernel_rfl) (by kernel_rfl) (fun _ _ _ h => h) (Or.inl ⟨by rfl, ?rya9⟩) hHeld ?rra9
    case rya9 => (intro w' hSw; (try dsimp only at hSw); go_simp; first | done | with_reducible rfl)
    case' rra9 => (try simp only [Act.put, List.setIfInBounds_toArray, List.set_cons_zero, List.set_cons_succ])
    refine wpAnyL_oneT (i := 4) (by kernel_rfl) rfl (fun K hK => ?_)
    go_simp
    go_at_call 42
    refine (QG.out _ hkB.drew).mono ?_
    rintro e wc ⟨rfl, rfl⟩
    go_simp
    refine hK.out _ _ (fun _ => hHeld) ?_
    clear hK K
    try simp only [Act.put, List.setIfInBounds_toArray, List.set_cons_zero, List.set_cons_succ]
    refine wpAnyL_oneT (i := 10) (by kernel_rfl) rfl (fun K hK => ?_)
    go_simp
    go_at_call 114
    refine (QC.out _ hkB.drew).mono ?_
    rintro e wd ⟨rfl, hW⟩
    obtain ⟨F1, ht1, hk1, hn1⟩ := (HT.out.calm (hkB.drew)).call hW
    have hkw : Keeps (jb :: (H ++ F)) w wd := ((hkB.drew).mono (by simp)).trans hk1 (fun q hq => .inl (by simp [hq]))
    have hnw : ∀ q, q ∈ F1 → q ∈ F ∨ w.heap.size ≤ q := fun q hq => (hn1 q hq).imp id (fun h => Nat.le_trans (hkB.drew).size h)
    have hW1 : WentC w0 w wd z F H jb cb dp nv S' c d x := WentC.of ht1 hkw hnw (fun q hq => .inl hq)
    have HW1 := Lib.hid hW1
    have hfx := ht1.cm.fix
    have hvx := ht1.cm.var
    obtain ⟨v7, v8, v10, v11⟩ := hvx
    have g8 := ht1.cm.frozen 8
    have g10 := ht1.cm.frozen 10
    have g11 := ht1.cm.frozen 11
    have hS1 : wd.cell? ⟨cb, 0, none⟩ = some (PT z.p) ∧ wd.cell? ⟨cb, 4, none⟩ = some (.int .i64 x.thread) := ⟨hfx.1, hfx.2.2.2.2.1⟩
    clear hW hW1 ht1 hk1 hn1 hkw hnw hfx
    go_simp
    refine hK.out _ _ (fun _ => hS1) ?_
    clear hK K
    try simp only [Act.put, List.setIfInBounds_toArray, List.set_cons_zero, List.set_cons_succ]
    replace hHeld := hS1
    refine wpAnyL_takeT (i := 11) (v := ?rva11) rfl (by kernel_rfl) (by kernel_rfl) (by kernel_rfl) (by kernel_rfl) (fun _ _ _ h => h) (Or.inl ⟨by rfl, ?rya11⟩) hHeld ?rra11
    case rya11 => (intro w' hSw; (try dsimp only at hSw); go_simp; first | done | with_reducible rfl)
    case' rra11 => (try simp only [Act.put, List.setIfInBounds_toArray, List.set_cons_zero, List.set_cons_succ])
    refine wpAnyL_takeT (i := 12) (v := ?rva12) rfl (by kernel_rfl) (by kernel_rfl) (by kernel_rfl) (by kernel_rfl) (fun _ _ _ h => h) (Or.inl ⟨by rfl, ?rya12⟩) hHeld ?rra12
    case rya12 => (intro w' hSw; (try dsimp only at hSw); go_simp; first | done | with_reducible rfl)
    case' rra12 => (try simp only [Act.put, List.setIfInBounds_toArray, List.set_cons_zero, List.set_cons_succ])
    refine wpAnyL_takeT (i := 13) (v := ?rva13) rfl (by kernel_rfl) (by kernel_rfl) (by kernel_rfl) (by kernel_rfl) (fun _ _ _ h => h) (Or.inl ⟨by rfl, ?rya13⟩) hHeld ?rra13
    case rya13 => (intro w' hSw; (try dsimp only at hSw); go_simp; first | done | with_reducible rfl)
    case' rra13 => (try simp only [Act.put, List.setIfInBounds_toArray, List.set_cons_zero, List.set_cons_succ])
    refine wpAnyL_takeT (i := 14) (v := ?rva14) rfl (by kernel_rfl) (by kernel_rfl) (by kernel_rfl) (by kernel_rfl) (fun _ _ _ h => h) (Or.inl ⟨by rfl, ?rya14⟩) hHeld ?rra14
    case rya14 => (intro w' hSw; (try dsimp only at hSw); go_simp; first | done | with_reducible rfl)
    case' rra14 => (try simp only [Act.put, List.setIfInBounds_toArray, List.set_cons_zero, List.set_cons_succ])
    refine wpAnyL_takeT (i := 15) (v := ?rva15) rfl (by kernel_rfl) (by kernel_rfl) (by kernel_rfl) (by kernel_rfl) (fun _ _ _ h => h) (Or.inl ⟨by rfl, ?rya15⟩) hHeld ?rra15
    case rya15 => (intro w' hSw; (try dsimp only at hSw); go_simp; first | done | with_reducible rfl)
    case' rra15 => (try simp only [Act.put, List.setIfInBounds_toArray, List.set_cons_zero, List.set_cons_succ])
    refine wpAnyL_done (by kernel_rfl) ?_ _
    refine NoPanic.normal ?_
    go_wp2_with fail
    go_ret2
    exact ⟨rfl, (HW1.out.set 8 (.int .i64 nn) (x' := { x with number := nn, st := .own }) (fun _ _ => rfl) rfl rfl rfl (Blk.lt HT.out.j) HT.out.jH)⟩
  · simp only [if_neg h0]
    have e0 : (er != 0) = true := by simp [h0]
    go_enter Tryz.func258, Tryz.ntmps258
    go_wp2_with fail
    try rw [hwB]
    refine wp_region_noPanic ?_
    refine wp_region_L 99 (fun w' => w'.cell? ⟨cb, 0, none⟩ = some (PT z.p) ∧ w'.cell? ⟨cb, 4, none⟩ = some (.int .i64 x.thread)) (by kernel_rfl) ?_
    have hHeld := HC.out _ (hkB.drew)
    refine wpAnyL_takeT (i := 0) (v := ?rvb0) rfl (by kernel_rfl) (by kernel_rfl) (by kernel_rfl) (by kernel_rfl) (fun _ _ _ h => h) (Or.inl ⟨by rfl, ?ryb0⟩) hHeld ?rrb0
    case ryb0 => (intro w' hSw; (try dsimp only at hSw); go_simp; first | done | with_reducible rfl)
    case' rrb0 => (try simp only [Act.put, List.setIfInBounds_toArray, List.set_cons_zero, List.set_cons_succ])
    refine wpAnyL_takeT (i := 1) (v := ?rvb1) rfl (by kernel_rfl) (by kernel_rfl) (by kernel_rfl) (by kernel_rfl) (fun _ _ _ h => h) (Or.inl ⟨by rfl, ?ryb1⟩) hHeld ?rrb1
    case ryb1 => (intro w' hSw; (try dsimp only at hSw); go_simp; first | done | with_reducible rfl)
    case' rrb1 => (try simp only [Act.put, List.setIfInBounds_toArray, List.set_cons_zero, List.set_cons_succ])
    refine wpAnyL_takeT (i := 2) (v := ?rvb2) rfl (by kernel_rfl) (by kernel_rfl) (by kernel_rfl) (by kernel_rfl) (fun _ _ _ h => h) (Or.inl ⟨by rfl, ?ryb2⟩) hHeld ?rrb2
    case ryb2 => (intro w' hSw; (try dsimp only at hSw); go_simp; first | done | with_reducible rfl)
    case' rrb2 => (try simp only [Act.put, List.setIfInBounds_toArray, List.set_cons_zero, List.set_cons_succ])
    refine wpAnyL_takeT (i := 3) (v := ?rvb3) rfl (by kernel_rfl) (by kernel_rfl) (by kernel_rfl) (by kernel_rfl) (fun _ _ _ h => h) (Or.inl ⟨by rfl, ?ryb3⟩) hHeld ?rrb3
    case ryb3 => (intro w' hSw; (try dsimp only at hSw); go_simp; first | done | with_reducible rfl)
    case' rrb3 => (try simp only [Act.put, List.setIfInBounds_toArray, List.set_cons_zero, List.set_cons_succ])
    refine wpAnyL_takeT (i := 5) (v := ?rvb5) rfl (by kernel_rfl) (by kernel_rfl) (by kernel_rfl) (by kernel_rfl) (fun _ _ _ h => h) (Or.inl ⟨by rfl, ?ryb5⟩) hHeld ?rrb5
    case ryb5 => (intro w' hSw; (try dsimp only at hSw); go_simp; first | done | with_reducible rfl)
    case' rrb5 => (try simp only [Act.put, List.setIfInBounds_toArray, List.set_cons_zero, List.set_cons_succ])
    refine wpAnyL_takeT (i := 6) (v := ?rvb6) rfl (by kernel_rfl) (by kernel_rfl) (by kernel_rfl) (by kernel_rfl) (fun _ _ _ h => h) (Or.inl ⟨by rfl, ?ryb6⟩) hHeld ?rrb6
    case ryb6 => (intro w' hSw; (try dsimp only at hSw); go_simp; first | done | with_reducible rfl)
    case' rrb6 => (try simp only [Act.put, List.setIfInBounds_toArray, List.set_cons_zero, List.set_cons_succ])
    refine wpAnyL_takeT (i := 7) (v := ?rvb7) rfl (by kernel_rfl) (by kernel_rfl) (by kernel_rfl) (by kernel_rfl) (fun _ _ _ h => h) (Or.inl ⟨by rfl, ?ryb7⟩) hHeld ?rrb7
    case ryb7 => (intro w' hSw; (try dsimp only at hSw); go_simp; first | done | with_reducible rfl)
    case' rrb7 => (try simp only [Act.put, List.setIfInBounds_toArray, List.set_cons_zero, List.set_cons_succ])
    refine wpAnyL_takeT (i := 8) (v := ?rvb8) rfl (by kernel_rfl) (by kernel_rfl) (by kernel_rfl) (by kernel_rfl) (fun _ _ _ h => h) (Or.inl ⟨by rfl, ?ryb8⟩) hHeld ?rrb8
    case ryb8 => (intro w' hSw; (try dsimp only at hSw); go_simp; first | done | with_reducible rfl)
    case' rrb8 => (try simp only [Act.put, List.setIfInBounds_toArray, List.set_cons_zero, List.set_cons_succ])
    refine wpAnyL_takeT (i := 9) (v := ?rvb9) rfl (by kernel_rfl) (by kernel_rfl) (by kernel_rfl) (by kernel_rfl) (fun _ _ _ h => h) (Or.inl ⟨by rfl, ?ryb9⟩) hHeld ?rrb9
    case ryb9 => (intro w' hSw; (try dsimp only at hSw); go_simp; first | done | with_reducible rfl)
    case' rrb9 => (try simp only [Act.put, List.setIfInBounds_toArray, List.set_cons_zero, List.set_cons_succ])
    refine wpAnyL_oneT (i := 4) (by kernel_rfl) rfl (fun K hK => ?_)
    go_simp
    go_at_call 42
    refine (QG.out _ hkB.drew).mono ?_
    rintro e wc ⟨rfl, rfl⟩
    go_simp
    refine hK.out _ _ (fun _ => hHeld) ?_
    clear hK K
    try simp only [Act.put, List.setIfInBounds_toArray, List.set_cons_zero, List.set_cons_succ]
    refine wpAnyL_oneT (i := 10) (by kernel_rfl) rfl (fun K hK => ?_)
    go_simp
    go_at_call 114
    refine (QC.out _ hkB.drew).mono ?_
    rintro e wd ⟨rfl, hW⟩
    obtain ⟨F1, ht1, hk1, hn1⟩ := (HT.out.calm (hkB.drew)).call hW
    have hkw : Keeps (jb :: (H ++ F)) w wd := ((hkB.drew).mono (by simp)).trans hk1 (fun q hq => .inl (by simp [hq]))
    have hnw : ∀ q, q ∈ F1 → q ∈ F ∨ w.heap.size ≤ q := fun q hq => (hn1 q hq).imp id (fun h => Nat.le_trans (hkB.drew).size h)
    have hW1 : WentC w0 w wd z F H jb cb dp nv S' c d x := WentC.of ht1 hkw hnw (fun q hq => .inl hq)
    have HW1 := Lib.hid hW1
    have hfx := ht1.cm.fix
    have hvx := ht1.cm.var
    obtain ⟨v7, v8, v10, v11⟩ := hvx
    have g8 := ht1.cm.frozen 8
    have g10 := ht1.cm.frozen 10
    have g11 := ht1.cm.frozen 11
    have hS1 : wd.cell? ⟨cb, 0, none⟩ = some (PT z.p) ∧ wd.cell? ⟨cb, 4, none⟩ = some (.int .i64 x.thread) := ⟨hfx.1, hfx.2.2.2.2.1⟩
    clear hW hW1 ht1 hk1 hn1 hkw hnw hfx
    go_simp
    refine hK.out _ _ (fun _ => hS1) ?_
    clear hK K
    try simp only [Act.put, List.setIfInBounds_toArray, List.set_cons_zero, List.set_cons_succ]
    replace hHeld := hS1
    refine wpAnyL_takeT (i := 11) (v := ?rvb11) rfl (by kernel_rfl) (by kernel_rfl) (by kernel_rfl) (by kernel_rfl) (fun _ _ _ h => h) (Or.inl ⟨by rfl, ?ryb11⟩) hHeld ?rrb11
    case ryb11 => (intro w' hSw; (try dsimp only at hSw); go_simp; first | done | with_reducible rfl)
    case' rrb11 => (try simp only [Act.put, List.setIfInBounds_toArray, List.set_cons_zero, List.set_cons_succ])
    refine wpAnyL_takeT (i := 12) (v := ?rvb12) rfl (by kernel_rfl) (by kernel_rfl) (by kernel_rfl) (by kernel_rfl) (fun _ _ _ h => h) (Or.inl ⟨by rfl, ?ryb12⟩) hHeld ?rrb12
    case ryb12 => (intro w' hSw; (try dsimp only at hSw); go_simp; first | done | with_reducible rfl)
    case' rrb12 => (try simp only [Act.put, List.setIfInBounds_toArray, List.set_cons_zero, List.set_cons_succ])
    refine wpAnyL_takeT (i := 13) (v := ?rvb13) rfl (by kernel_rfl) (by kernel_rfl) (by kernel_rfl) (by kernel_rfl) (fun _ _ _ h => h) (Or.inl ⟨by rfl, ?ryb13⟩) hHeld ?rrb13
    case ryb13 => (intro w' hSw; (try dsimp only at hSw); go_simp; first | done | with_reducible rfl)
    case' rrb13 => (try simp only [Act.put, List.setIfInBounds_toArray, List.set_cons_zero, List.set_cons_succ])
    refine wpAnyL_takeT (i := 14) (v := ?rvb14) rfl (by kernel_rfl) (by kernel_rfl) (by kernel_rfl) (by kernel_rfl) (fun _ _ _ h => h) (Or.inl ⟨by rfl, ?ryb14⟩) hHeld ?rrb14
    case ryb14 => (intro w' hSw; (try dsimp only at hSw); go_simp; first | done | with_reducible rfl)
    case' rrb14 => (try simp only [Act.put, List.setIfInBounds_toArray, List.set_cons_zero, List.set_cons_succ])
    refine wpAnyL_takeT (i := 15) (v := ?rvb15) rfl (by kernel_rfl) (by kernel_rfl) (by kernel_rfl) (by kernel_rfl) (fun _ _ _ h => h) (Or.inl ⟨by rfl, ?ryb15⟩) hHeld ?rrb15
    case ryb15 => (intro w' hSw; (try dsimp only at hSw); go_simp; first | done | with_reducible rfl)
    case' rrb15 => (try simp only [Act.put, List.setIfInBounds_toArray, List.set_cons_zero, List.set_cons_succ])
    refine wpAnyL_done (by kernel_rfl) ?_ _
    refine NoPanic.normal ?_
    go_wp2_with fail
    try go_quiet (fail)
    try go_wp2_with fail
    go_ret2
    first
      | exact ⟨rfl, HW1.out.st .take⟩
      | exact ⟨rfl, (HW1.out.calm ((Keeps.refl [] wd).drewN _)).st .take⟩
set_option maxRecDepth 100000 in
set_option maxHeartbeats 4000000 in
theorem cm_give (h : CmTrio w0 w z F H jb cb dp nv S c d x) (hf : Fit k S) (hk : k ≤ 1099511627776) : Calls Tryz.prog 277 #[.agg #[], PT cb] w fun e w' => e = .returned (.tuple #[.int .i64 1, stgVal dp .free]) ∧ WentC w0 w w' z F H jb cb dp nv (S.give x.thread).2 c d { x with won := true, st := .free } := by
  obtain ⟨wB, hwB⟩ : ∃ q, w.alloc (.cells #[] 368) = q := ⟨_, rfl⟩
  have hkB : Keeps [] w wB := by rw [← hwB]; simp
  have HT := Lib.hid h
  have HC := Lib.hid (show ∀ w', Keeps [] w w' → w'.cell? ⟨cb, 0, none⟩ = some (PT z.p) ∧ w'.cell? ⟨cb, 4, none⟩ = some (.int .i64 x.thread) from fun w' hk' => let q := (h.calm hk').cm.fix; ⟨q.1, q.2.2.2.2.1⟩)
  have QG := Lib.hid (fun w' (hk' : Keeps [] w w') => sp_gate (h.calm hk').sp)
  have QS := Lib.hid (fun w' (hk' : Keeps [] w w') => sp_slots (h.calm hk').sp)
  have hcl := fun (w' : World) (hk' : Keeps [] w w') => sp_give (h.calm hk').sp hf hk x.thread
  obtain ⟨er, her⟩ : ∃ v, (S.give x.thread).1 = v := ⟨_, rfl⟩
  obtain ⟨S', hS'⟩ : ∃ v, (S.give x.thread).2 = v := ⟨_, rfl⟩
  simp only [her, hS'] at hcl ⊢
  have QC := Lib.hid hcl
  clear hcl her hS' hf hk h
  go_enter Tryz.func277, Tryz.ntmps277
  go_wp2_with fail
  try rw [hwB]
  refine wp_region_noPanic ?_
  refine wp_region_L 99 (fun w' => w'.cell? ⟨cb, 0, none⟩ = some (PT z.p) ∧ w'.cell? ⟨cb, 4, none⟩ = some (.int .i64 x.thread)) (by kernel_rfl) ?_
  have hHeld := HC.out _ (hkB.drew)
  refine wpAnyL_takeT (i := 0) (v := ?rv0) rfl (by kernel_rfl) (by kernel_rfl) (by kernel_rfl) (by kernel_rfl) (fun _ _ _ h => h) (Or.inl ⟨by rfl, ?ry0⟩) hHeld ?rr0
  case ry0 => (intro w' hSw; (try dsimp only at hSw); go_simp; first | done | with_reducible rfl)
  case' rr0 => (try simp only [Act.put, List.setIfInBounds_toArray, List.set_cons_zero, List.set_cons_succ])
  refine wpAnyL_takeT (i := 1) (v := ?rv1) rfl (by kernel_rfl) (by kernel_rfl) (by kernel_rfl) (by kernel_rfl) (fun _ _ _ h => h) (Or.inl ⟨by rfl, ?ry1⟩) hHeld ?rr1
  case ry1 => (intro w' hSw; (try dsimp only at hSw); go_simp; first | done | with_reducible rfl)
  case' rr1 => (try simp only [Act.put, List.setIfInBounds_toArray, List.set_cons_zero, List.set_cons_succ])
  refine wpAnyL_takeT (i := 2) (v := ?rv2) rfl (by kernel_rfl) (by kernel_rfl) (by kernel_rfl) (by kernel_rfl) (fun _ _ _ h => h) (Or.inl ⟨by rfl, ?ry2⟩) hHeld ?rr2
  case ry2 => (intro w' hSw; (try dsimp only at hSw); go_simp; first | done | with_reducible rfl)
  case' rr2 => (try simp only [Act.put, List.setIfInBounds_toArray, List.set_cons_zero, List.set_cons_succ])
  refine wpAnyL_takeT (i := 3) (v := ?rv3) rfl (by kernel_rfl) (by kernel_rfl) (by kernel_rfl) (by kernel_rfl) (fun _ _ _ h => h) (Or.inl ⟨by rfl, ?ry3⟩) hHeld ?rr3
  case ry3 => (intro w' hSw; (try dsimp only at hSw); go_simp; first | done | with_reducible rfl)
  case' rr3 => (try simp only [Act.put, List.setIfInBounds_toArray, List.set_cons_zero, List.set_cons_succ])
  refine wpAnyL_takeT (i := 5) (v := ?rv5) rfl (by kernel_rfl) (by kernel_rfl) (by kernel_rfl) (by kernel_rfl) (fun _ _ _ h => h) (Or.inl ⟨by rfl, ?ry5⟩) hHeld ?rr5
  case ry5 => (intro w' hSw; (try dsimp only at hSw); go_simp; first | done | with_reducible rfl)
  case' rr5 => (try simp only [Act.put, List.setIfInBounds_toArray, List.set_cons_zero, List.set_cons_succ])
  refine wpAnyL_takeT (i := 6) (v := ?rv6) rfl (by kernel_rfl) (by kernel_rfl) (by kernel_rfl) (by kernel_rfl) (fun _ _ _ h => h) (Or.inl ⟨by rfl, ?ry6⟩) hHeld ?rr6
  case ry6 => (intro w' hSw; (try dsimp only at hSw); go_simp; first | done | with_reducible rfl)
  case' rr6 => (try simp only [Act.put, List.setIfInBounds_toArray, List.set_cons_zero, List.set_cons_succ])
  refine wpAnyL_takeT (i := 7) (v := ?rv7) rfl (by kernel_rfl) (by kernel_rfl) (by kernel_rfl) (by kernel_rfl) (fun _ _ _ h => h) (Or.inl ⟨by rfl, ?ry7⟩) hHeld ?rr7
  case ry7 => (intro w' hSw; (try dsimp only at hSw); go_simp; first | done | with_reducible rfl)
  case' rr7 => (try simp only [Act.put, List.setIfInBounds_toArray, List.set_cons_zero, List.set_cons_succ])
  refine wpAnyL_takeT (i := 8) (v := ?rv8) rfl (by kernel_rfl) (by kernel_rfl) (by kernel_rfl) (by kernel_rfl) (fun _ _ _ h => h) (Or.inl ⟨by rfl, ?ry8⟩) hHeld ?rr8
  case ry8 => (intro w' hSw; (try dsimp only at hSw); go_simp; first | done | with_reducible rfl)
  case' rr8 => (try simp only [Act.put, List.setIfInBounds_toArray, List.set_cons_zero, List.set_cons_succ])
  refine wpAnyL_takeT (i := 9) (v := ?rv9) rfl (by kernel_rfl) (by kernel_rfl) (by kernel_rfl) (by kernel_rfl) (fun _ _ _ h => h) (Or.inl ⟨by rfl, ?ry9⟩) hHeld ?rr9
  case ry9 => (intro w' hSw; (try dsimp only at hSw); go_simp; first | done | with_reducible rfl)
  case' rr9 => (try simp only [Act.put, List.setIfInBounds_toArray, List.set_cons_zero, List.set_cons_succ])
  refine wpAnyL_oneT (i := 4) (by kernel_rfl) rfl (fun K hK => ?_)
  go_simp
  go_at_call 42
  refine (QG.out _ hkB.drew).mono ?_
  rintro e wc ⟨rfl, rfl⟩
  go_simp
  refine hK.out _ _ (fun _ => hHeld) ?_
  clear hK K
  try simp only [Act.put, List.setIfInBounds_toArray, List.set_cons_zero, List.set_cons_succ]
  refine wpAnyL_oneT (i := 10) (by kernel_rfl) rfl (fun K hK => ?_)
  go_simp
  go_at_call 126
  refine (QC.out _ hkB.drew).mono ?_
  rintro e wd ⟨rfl, hW⟩
  obtain ⟨F1, ht1, hk1, hn1⟩ := (HT.out.calm (hkB.drew)).call hW
  have hkw : Keeps (jb :: (H ++ F)) w wd := ((hkB.drew).mono (by simp)).trans hk1 (fun q hq => .inl (by simp [hq]))
  have hnw : ∀ q, q ∈ F1 → q ∈ F ∨ w.heap.size ≤ q := fun q hq => (hn1 q hq).imp id (fun h => Nat.le_trans (hkB.drew).size h)
  have hW1 : WentC w0 w wd z F H jb cb dp nv S' c d x := WentC.of ht1 hkw hnw (fun q hq => .inl hq)
  have HW1 := Lib.hid hW1
  have hfx := ht1.cm.fix
  have hvx := ht1.cm.var
  obtain ⟨v7, v8, v10, v11⟩ := hvx
  have g8 := ht1.cm.frozen 8
  have g10 := ht1.cm.frozen 10
  have g11 := ht1.cm.frozen 11
  have hS1 : wd.cell? ⟨cb, 0, none⟩ = some (PT z.p) ∧ wd.cell? ⟨cb, 4, none⟩ = some (.int .i64 x.thread) := ⟨hfx.1, hfx.2.2.2.2.1⟩
  clear hW hW1 ht1 hk1 hn1 hkw hnw hfx
  go_simp
  refine hK.out _ _ (fun _ => hS1) ?_
  clear hK K
  try simp only [Act.put, List.setIfInBounds_toArray, List.set_cons_zero, List.set_cons_succ]
  replace hHeld := hS1
  refine wpAnyL_done (by kernel_rfl) ?_ _
  refine NoPanic.normal ?_
  go_wp2_with fail
  go_ret2
  exact ⟨rfl, (HW1.out.set 11 (.bool true) (x' := { x with won := true, st := .free }) (fun _ _ => rfl) rfl rfl rfl (Blk.lt HT.out.j) HT.out.jH)⟩
set_option maxRecDepth 100000 in
set_option maxHeartbeats 4000000 in
theorem cm_giveUp (h : CmTrio w0 w z F H jb cb dp nv S c d x) (hf : Fit k S) (hk : k ≤ 1099511627776) : Calls Tryz.prog 272 #[.agg #[], PT cb] w fun e w' => e = .returned (.tuple #[.int .i64 (if x.e = 9 then 2 else 1), stgVal dp .free]) ∧ WentC w0 w w' z F H jb cb dp nv (S.give x.thread).2 c d (x.at_ .free) := by
  obtain ⟨wB, hwB⟩ : ∃ q, w.alloc (.cells #[] 359) = q := ⟨_, rfl⟩
  have hkB : Keeps [] w wB := by rw [← hwB]; simp
  have HT := Lib.hid h
  have HC := Lib.hid (show ∀ w', Keeps [] w w' → w'.cell? ⟨cb, 0, none⟩ = some (PT z.p) ∧ w'.cell? ⟨cb, 4, none⟩ = some (.int .i64 x.thread) from fun w' hk' => let q := (h.calm hk').cm.fix; ⟨q.1, q.2.2.2.2.1⟩)
  have QG := Lib.hid (fun w' (hk' : Keeps [] w w') => sp_gate (h.calm hk').sp)
  have QS := Lib.hid (fun w' (hk' : Keeps [] w w') => sp_slots (h.calm hk').sp)
  have hcl := fun (w' : World) (hk' : Keeps [] w w') => sp_give (h.calm hk').sp hf hk x.thread
  obtain ⟨er, her⟩ : ∃ v, (S.give x.thread).1 = v := ⟨_, rfl⟩
  obtain ⟨S', hS'⟩ : ∃ v, (S.give x.thread).2 = v := ⟨_, rfl⟩
  simp only [her, hS'] at hcl ⊢
  obtain ⟨pr, hpr⟩ : ∃ v : Int, (if x.e = 9 then 2 else 1) = v := ⟨_, rfl⟩
  rw [hpr]
  have HPR := Lib.hid hpr
  clear hpr
  have QC := Lib.hid hcl
  clear hcl her hS' hf hk h
  go_enter Tryz.func272, Tryz.ntmps272
  go_wp2_with fail
  try rw [hwB]
  refine wp_region_noPanic ?_
  refine wp_region_L 99 (fun w' => w'.cell? ⟨cb, 0, none⟩ = some (PT z.p) ∧ w'.cell? ⟨cb, 4, none⟩ = some (.int .i64 x.thread)) (by kernel_rfl) ?_
  have hHeld := HC.out _ (hkB.drew)
  refine wpAnyL_takeT (i := 0) (v := ?rv0) rfl (by kernel_rfl) (by kernel_rfl) (by kernel_rfl) (by kernel_rfl) (fun _ _ _ h => h) (Or.inl ⟨by rfl, ?ry0⟩) hHeld ?rr0
  case ry0 => (intro w' hSw; (try dsimp only at hSw); go_simp; first | done | with_reducible rfl)
  case' rr0 => (try simp only [Act.put, List.setIfInBounds_toArray, List.set_cons_zero, List.set_cons_succ])
  refine wpAnyL_takeT (i := 1) (v := ?rv1) rfl (by kernel_rfl) (by kernel_rfl) (by kernel_rfl) (by kernel_rfl) (fun _ _ _ h => h) (Or.inl ⟨by rfl, ?ry1⟩) hHeld ?rr1
  case ry1 => (intro w' hSw; (try dsimp only at hSw); go_simp; first | done | with_reducible rfl)
  case' rr1 => (try simp only [Act.put, List.setIfInBounds_toArray, List.set_cons_zero, List.set_cons_succ])
  refine wpAnyL_takeT (i := 2) (v := ?rv2) rfl (by kernel_rfl) (by kernel_rfl) (by kernel_rfl) (by kernel_rfl) (fun _ _ _ h => h) (Or.inl ⟨by rfl, ?ry2⟩) hHeld ?rr2
  case ry2 => (intro w' hSw; (try dsimp only at hSw); go_simp; first | done | with_reducible rfl)
  case' rr2 => (try simp only [Act.put, List.setIfInBounds_toArray, List.set_cons_zero, List.set_cons_succ])
  refine wpAnyL_takeT (i := 3) (v := ?rv3) rfl (by kernel_rfl) (by kernel_rfl) (by kernel_rfl) (by kernel_rfl) (fun _ _ _ h => h) (Or.inl ⟨by rfl, ?ry3⟩) hHeld ?rr3
  case ry3 => (intro w' hSw; (try dsimp only at hSw); go_simp; first | done | with_reducible rfl)
  case' rr3 => (try simp only [Act.put, List.setIfInBounds_toArray, List.set_cons_zero, List.set_cons_succ])
  refine wpAnyL_takeT (i := 5) (v := ?rv5) rfl (by kernel_rfl) (by kernel_rfl) (by kernel_rfl) (by kernel_rfl) (fun _ _ _ h => h) (Or.inl ⟨by rfl, ?ry5⟩) hHeld ?rr5
  case ry5 => (intro w' hSw; (try dsimp only at hSw); go_simp; first | done | with_reducible rfl)
  case' rr5 => (try simp only [Act.put, List.setIfInBounds_toArray, List.set_cons_zero, List.set_cons_succ])
  refine wpAnyL_takeT (i := 6) (v := ?rv6) rfl (by kernel_rfl) (by kernel_rfl) (by kernel_rfl) (by kernel_rfl) (fun _ _ _ h => h) (Or.inl ⟨by rfl, ?ry6⟩) hHeld ?rr6
  case ry6 => (intro w' hSw; (try dsimp only at hSw); go_simp; first | done | with_reducible rfl)
  case' rr6 => (try simp only [Act.put, List.setIfInBounds_toArray, List.set_cons_zero, List.set_cons_succ])
  refine wpAnyL_takeT (i := 7) (v := ?rv7) rfl (by kernel_rfl) (by kernel_rfl) (by kernel_rfl) (by kernel_rfl) (fun _ _ _ h => h) (Or.inl ⟨by rfl, ?ry7⟩) hHeld ?rr7
  case ry7 => (intro w' hSw; (try dsimp only at hSw); go_simp; first | done | with_reducible rfl)
  case' rr7 => (try simp only [Act.put, List.setIfInBounds_toArray, List.set_cons_zero, List.set_cons_succ])
  refine wpAnyL_takeT (i := 8) (v := ?rv8) rfl (by kernel_rfl) (by kernel_rfl) (by kernel_rfl) (by kernel_rfl) (fun _ _ _ h => h) (Or.inl ⟨by rfl, ?ry8⟩) hHeld ?rr8
  case ry8 => (intro w' hSw; (try dsimp only at hSw); go_simp; first | done | with_reducible rfl)
  case' rr8 => (try simp only [Act.put, List.setIfInBounds_toArray, List.set_cons_zero, List.set_cons_succ])
  refine wpAnyL_takeT (i := 9) (v := ?rv9) rfl (by kernel_rfl) (by kernel_rfl) (by kernel_rfl) (by kernel_rfl) (fun _ _ _ h => h) (Or.inl ⟨by rfl, ?ry9⟩) hHeld ?rr9
  case ry9 => (intro w' hSw; (try dsimp only at hSw); go_simp; first | done | with_reducible rfl)
  case' rr9 => (try simp only [Act.put, List.setIfInBounds_toArray, List.set_cons_zero, List.set_cons_succ])
  refine wpAnyL_oneT (i := 4) (by kernel_rfl) rfl (fun K hK => ?_)
  go_simp
  go_at_call 42
  refine (QG.out _ hkB.drew).mono ?_
  rintro e wc ⟨rfl, rfl⟩
  go_simp
  refine hK.out _ _ (fun _ => hHeld) ?_
  clear hK K
  try simp only [Act.put, List.setIfInBounds_toArray, List.set_cons_zero, List.set_cons_succ]
  refine wpAnyL_oneT (i := 10) (by kernel_rfl) rfl (fun K hK => ?_)
  go_simp
  go_at_call 126
  refine (QC.out _ hkB.drew).mono ?_
  rintro e wd ⟨rfl, hW⟩
  obtain ⟨F1, ht1, hk1, hn1⟩ := (HT.out.calm (hkB.drew)).call hW
  have hkw : Keeps (jb :: (H ++ F)) w wd := ((hkB.drew).mono (by simp)).trans hk1 (fun q hq => .inl (by simp [hq]))
  have hnw : ∀ q, q ∈ F1 → q ∈ F ∨ w.heap.size ≤ q := fun q hq => (hn1 q hq).imp id (fun h => Nat.le_trans (hkB.drew).size h)
  have hW1 : WentC w0 w wd z F H jb cb dp nv S' c d x := WentC.of ht1 hkw hnw (fun q hq => .inl hq)
  have HW1 := Lib.hid hW1
  have hfx := ht1.cm.fix
  have hvx := ht1.cm.var
  obtain ⟨v7, v8, v10, v11⟩ := hvx
  have g8 := ht1.cm.frozen 8
  have g10 := ht1.cm.frozen 10
  have g11 := ht1.cm.frozen 11
  have hS1 : wd.cell? ⟨cb, 0, none⟩ = some (PT z.p) ∧ wd.cell? ⟨cb, 4, none⟩ = some (.int .i64 x.thread) := ⟨hfx.1, hfx.2.2.2.2.1⟩
  clear hW hW1 ht1 hk1 hn1 hkw hnw hfx
  go_simp
  refine hK.out _ _ (fun _ => hS1) ?_
  clear hK K
  try simp only [Act.put, List.setIfInBounds_toArray, List.set_cons_zero, List.set_cons_succ]
  replace hHeld := hS1
  refine wpAnyL_done (by kernel_rfl) ?_ _
  refine NoPanic.normal ?_
  by_cases h9 : x.e = 9
  · have hpr : pr = 2 := by rw [← HPR.out, if_pos h9]
    subst hpr
    rw [h9] at v10
    clear h9
    go_wp2_with fail
    go_ret2
    exact ⟨rfl, HW1.out.st .free⟩
  · have hpr : pr = 1 := by rw [← HPR.out, if_neg h9]
    subst hpr
    have e9 : (x.e == 9) = false := by simp [h9]
    clear h9
    go_wp2_with fail
    go_ret2
    exact ⟨rfl, HW1.out.st .free⟩
set_option maxRecDepth 100000 in
set_option maxHeartbeats 4000000 in
theorem cm_free (h : CmTrio w0 w z F H jb cb dp nv S c d x) (hf : Fit k S) (hk : k ≤ 1099511627776) : Calls Tryz.prog 276 #[.agg #[], PT cb] w fun e w' => e = .returned (.tuple #[.int .i64 1, stgVal dp .over]) ∧ WentC w0 w w' z F H jb cb dp nv (S.free x.slot x.gen).2 c d (x.at_ .over) := by
  obtain ⟨wB, hwB⟩ : ∃ q, w.alloc (.cells #[] 367) = q := ⟨_, rfl⟩
  have hkB : Keeps [] w wB := by rw [← hwB]; simp
  have HT := Lib.hid h
  have HC := Lib.hid (show ∀ w', Keeps [] w w' → w'.cell? ⟨cb, 0, none⟩ = some (PT z.p) ∧ w'.cell? ⟨cb, 2, none⟩ = some (.int .i64 x.slot) ∧ w'.cell? ⟨cb, 3, none⟩ = some (.int .i64 x.gen) from fun w' hk' => let q := (h.calm hk').cm.fix; ⟨q.1, q.2.2.1, q.2.2.2.1⟩)
  have QG := Lib.hid (fun w' (hk' : Keeps [] w w') => sp_gate (h.calm hk').sp)
  have QS := Lib.hid (fun w' (hk' : Keeps [] w w') => sp_slots (h.calm hk').sp)
  have hcl := fun (w' : World) (hk' : Keeps [] w w') => sp_free (h.calm hk').sp hf hk x.slot x.gen
  obtain ⟨er, her⟩ : ∃ v, (S.free x.slot x.gen).1 = v := ⟨_, rfl⟩
  obtain ⟨S', hS'⟩ : ∃ v, (S.free x.slot x.gen).2 = v := ⟨_, rfl⟩
  simp only [her, hS'] at hcl ⊢
  have QC := Lib.hid hcl
  clear hcl her hS' hf hk h
  go_enter Tryz.func276, Tryz.ntmps276
  go_wp2_with fail
  try rw [hwB]
  refine wp_region_noPanic ?_
  refine wp_region_L 99 (fun w' => w'.cell? ⟨cb, 0, none⟩ = some (PT z.p) ∧ w'.cell? ⟨cb, 2, none⟩ = some (.int .i64 x.slot) ∧ w'.cell? ⟨cb, 3, none⟩ = some (.int .i64 x.gen)) (by kernel_rfl) ?_
  have hHeld := HC.out _ (hkB.drew)
  refine wpAnyL_takeT (i := 0) (v := ?rv0) rfl (by kernel_rfl) (by kernel_rfl) (by kernel_rfl) (by kernel_rfl) (fun _ _ _ h => h) (Or.inl ⟨by rfl, ?ry0⟩) hHeld ?rr0
  case ry0 => (intro w' hSw; (try dsimp only at hSw); go_simp; first | done | with_reducible rfl)
  case' rr0 => (try simp only [Act.put, List.setIfInBounds_toArray, List.set_cons_zero, List.set_cons_succ])
  refine wpAnyL_takeT (i := 1) (v := ?rv1) rfl (by kernel_rfl) (by kernel_rfl) (by kernel_rfl) (by kernel_rfl) (fun _ _ _ h => h) (Or.inl ⟨by rfl, ?ry1⟩) hHeld ?rr1
  case ry1 => (intro w' hSw; (try dsimp only at hSw); go_simp; first | done | with_reducible rfl)
  case' rr1 => (try simp only [Act.put, List.setIfInBounds_toArray, List.set_cons_zero, List.set_cons_succ])
  refine wpAnyL_takeT (i := 2) (v := ?rv2) rfl (by kernel_rfl) (by kernel_rfl) (by kernel_rfl) (by kernel_rfl) (fun _ _ _ h => h) (Or.inl ⟨by rfl, ?ry2⟩) hHeld ?rr2
  case ry2 => (intro w' hSw; (try dsimp only at hSw); go_simp; first | done | with_reducible rfl)
  case' rr2 => (try simp only [Act.put, List.setIfInBounds_toArray, List.set_cons_zero, List.set_cons_succ])
  refine wpAnyL_takeT (i := 3) (v := ?rv3) rfl (by kernel_rfl) (by kernel_rfl) (by kernel_rfl) (by kernel_rfl) (fun _ _ _ h => h) (Or.inl ⟨by rfl, ?ry3⟩) hHeld ?rr3
  case ry3 => (intro w' hSw; (try dsimp only at hSw); go_simp; first | done | with_reducible rfl)
  case' rr3 => (try simp only [Act.put, List.setIfInBounds_toArray, List.set_cons_zero, List.set_cons_succ])
  refine wpAnyL_takeT (i := 5) (v := ?rv5) rfl (by kernel_rfl) (by kernel_rfl) (by kernel_rfl) (by kernel_rfl) (fun _ _ _ h => h) (Or.inl ⟨by rfl, ?ry5⟩) hHeld ?rr5
  case ry5 => (intro w' hSw; (try dsimp only at hSw); go_simp; first | done | with_reducible rfl)
  case' rr5 => (try simp only [Act.put, List.setIfInBounds_toArray, List.set_cons_zero, List.set_cons_succ])
  refine wpAnyL_takeT (i := 6) (v := ?rv6) rfl (by kernel_rfl) (by kernel_rfl) (by kernel_rfl) (by kernel_rfl) (fun _ _ _ h => h) (Or.inl ⟨by rfl, ?ry6⟩) hHeld ?rr6
  case ry6 => (intro w' hSw; (try dsimp only at hSw); go_simp; first | done | with_reducible rfl)
  case' rr6 => (try simp only [Act.put, List.setIfInBounds_toArray, List.set_cons_zero, List.set_cons_succ])
  refine wpAnyL_takeT (i := 7) (v := ?rv7) rfl (by kernel_rfl) (by kernel_rfl) (by kernel_rfl) (by kernel_rfl) (fun _ _ _ h => h) (Or.inl ⟨by rfl, ?ry7⟩) hHeld ?rr7
  case ry7 => (intro w' hSw; (try dsimp only at hSw); go_simp; first | done | with_reducible rfl)
  case' rr7 => (try simp only [Act.put, List.setIfInBounds_toArray, List.set_cons_zero, List.set_cons_succ])
  refine wpAnyL_takeT (i := 8) (v := ?rv8) rfl (by kernel_rfl) (by kernel_rfl) (by kernel_rfl) (by kernel_rfl) (fun _ _ _ h => h) (Or.inl ⟨by rfl, ?ry8⟩) hHeld ?rr8
  case ry8 => (intro w' hSw; (try dsimp only at hSw); go_simp; first | done | with_reducible rfl)
  case' rr8 => (try simp only [Act.put, List.setIfInBounds_toArray, List.set_cons_zero, List.set_cons_succ])
  refine wpAnyL_takeT (i := 9) (v := ?rv9) rfl (by kernel_rfl) (by kernel_rfl) (by kernel_rfl) (by kernel_rfl) (fun _ _ _ h => h) (Or.inl ⟨by rfl, ?ry9⟩) hHeld ?rr9
  case ry9 => (intro w' hSw; (try dsimp only at hSw); go_simp; first | done | with_reducible rfl)
  case' rr9 => (try simp only [Act.put, List.setIfInBounds_toArray, List.set_cons_zero, List.set_cons_succ])
  refine wpAnyL_takeT (i := 10) (v := ?rv10) rfl (by kernel_rfl) (by kernel_rfl) (by kernel_rfl) (by kernel_rfl) (fun _ _ _ h => h) (Or.inl ⟨by rfl, ?ry10⟩) hHeld ?rr10
  case ry10 => (intro w' hSw; (try dsimp only at hSw); go_simp; first | done | with_reducible rfl)
  case' rr10 => (try simp only [Act.put, List.setIfInBounds_toArray, List.set_cons_zero, List.set_cons_succ])
  refine wpAnyL_takeT (i := 11) (v := ?rv11) rfl (by kernel_rfl) (by kernel_rfl) (by kernel_rfl) (by kernel_rfl) (fun _ _ _ h => h) (Or.inl ⟨by rfl, ?ry11⟩) hHeld ?rr11
  case ry11 => (intro w' hSw; (try dsimp only at hSw); go_simp; first | done | with_reducible rfl)
  case' rr11 => (try simp only [Act.put, List.setIfInBounds_toArray, List.set_cons_zero, List.set_cons_succ])
  refine wpAnyL_takeT (i := 12) (v := ?rv12) rfl (by kernel_rfl) (by kernel_rfl) (by kernel_rfl) (by kernel_rfl) (fun _ _ _ h => h) (Or.inl ⟨by rfl, ?ry12⟩) hHeld ?rr12
  case ry12 => (intro w' hSw; (try dsimp only at hSw); go_simp; first | done | with_reducible rfl)
  case' rr12 => (try simp only [Act.put, List.setIfInBounds_toArray, List.set_cons_zero, List.set_cons_succ])
  refine wpAnyL_takeT (i := 13) (v := ?rv13) rfl (by kernel_rfl) (by kernel_rfl) (by kernel_rfl) (by kernel_rfl) (fun _ _ _ h => h) (Or.inl ⟨by rfl, ?ry13⟩) hHeld ?rr13
  case ry13 => (intro w' hSw; (try dsimp only at hSw); go_simp; first | done | with_reducible rfl)
  case' rr13 => (try simp only [Act.put, List.setIfInBounds_toArray, List.set_cons_zero, List.set_cons_succ])
  refine wpAnyL_takeT (i := 14) (v := ?rv14) rfl (by kernel_rfl) (by kernel_rfl) (by kernel_rfl) (by kernel_rfl) (fun _ _ _ h => h) (Or.inl ⟨by rfl, ?ry14⟩) hHeld ?rr14
  case ry14 => (intro w' hSw; (try dsimp only at hSw); go_simp; first | done | with_reducible rfl)
  case' rr14 => (try simp only [Act.put, List.setIfInBounds_toArray, List.set_cons_zero, List.set_cons_succ])
  refine wpAnyL_oneT (i := 4) (by kernel_rfl) rfl (fun K hK => ?_)
  go_simp
  go_at_call 19
  refine (QS.out _ hkB.drew).mono ?_
  rintro e wc ⟨rfl, rfl⟩
  go_simp
  refine hK.out _ _ (fun _ => hHeld) ?_
  clear hK K
  try simp only [Act.put, List.setIfInBounds_toArray, List.set_cons_zero, List.set_cons_succ]
  refine wpAnyL_oneT (i := 15) (by kernel_rfl) rfl (fun K hK => ?_)
  go_simp
  go_at_call 21
  refine (QC.out _ hkB.drew).mono ?_
  rintro e wd ⟨rfl, hW⟩
  obtain ⟨F1, ht1, hk1, hn1⟩ := (HT.out.calm (hkB.drew)).call hW
  have hkw : Keeps (jb :: (H ++ F)) w wd := ((hkB.drew).mono (by simp)).trans hk1 (fun q hq => .inl (by simp [hq]))
  have hnw : ∀ q, q ∈ F1 → q ∈ F ∨ w.heap.size ≤ q := fun q hq => (hn1 q hq).imp id (fun h => Nat.le_trans (hkB.drew).size h)
  have hW1 : WentC w0 w wd z F H jb cb dp nv S' c d x := WentC.of ht1 hkw hnw (fun q hq => .inl hq)
  have HW1 := Lib.hid hW1
  have hfx := ht1.cm.fix
  have hvx := ht1.cm.var
  obtain ⟨v7, v8, v10, v11⟩ := hvx
  have g8 := ht1.cm.frozen 8
  have g10 := ht1.cm.frozen 10
  have g11 := ht1.cm.frozen 11
  have hS1 : wd.cell? ⟨cb, 0, none⟩ = some (PT z.p) ∧ wd.cell? ⟨cb, 2, none⟩ = some (.int .i64 x.slot) ∧ wd.cell? ⟨cb, 3, none⟩ = some (.int .i64 x.gen) := ⟨hfx.1, hfx.2.2.1, hfx.2.2.2.1⟩
  clear hW hW1 ht1 hk1 hn1 hkw hnw hfx
  go_simp
  refine hK.out _ _ (fun _ => hS1) ?_
  clear hK K
  try simp only [Act.put, List.setIfInBounds_toArray, List.set_cons_zero, List.set_cons_succ]
  replace hHeld := hS1
  refine wpAnyL_done (by kernel_rfl) ?_ _
  refine NoPanic.normal ?_
  go_wp2_with fail
  go_ret2
  exact ⟨rfl, HW1.out.st .over⟩
end
end Go.Proofs.YtdhgiohjdhcedaaGreat
