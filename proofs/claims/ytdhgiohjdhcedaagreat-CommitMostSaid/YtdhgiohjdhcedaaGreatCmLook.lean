/- Layer 13: a commit looks, and what follows. -/
import Derived.Test.YtdhgiohjdhcedaaGreatCmDoom
namespace Go.Proofs.YtdhgiohjdhcedaaGreat
open Go.RowKit Pol
set_option linter.unusedVariables false
set_option linter.unusedSimpArgs false
section
variable {w0 w w' : World} {z : Sb} {F H : List Nat} {S S' : Sp} {k jb cb dp : Nat} {x x' : Cm} {nv : Value} {c : Cf} {d d' : Int}
set_option maxRecDepth 100000 in
set_option maxHeartbeats 4000000 in
theorem cm_behind (h : CmTrio w0 w z F H jb cb dp nv S c d x) (hf : Fit k S) (hk : k ≤ 1099511627776) (hc : c.ok) (h0 : 0 ≤ d) (h1 : d ≤ 64) {l : Lk} (hl : x.lk = some l) (hi : l.In S.H.length) (ho : x.Ok S.H.length) : Calls Tryz.prog 269 #[.agg #[], PT cb] w fun e w' => ∃ dp', e = .returned (stgVal dp' (x.behind l c d).1.st) ∧ WentC w0 w w' z F H jb cb dp' nv S c (x.behind l c d).2 (x.behind l c d).1 := by
  have hxl : ({ x with lk := some l } : Cm) = x := by cases x; simp at hl; subst hl; rfl
  have hxs : ({ x with lk := some l, st := .looking } : Cm) = x.at_ .looking := by cases x; simp at hl; subst hl; rfl
  obtain ⟨lb, Gl, c9, hlk, _, _⟩ := h.look hl
  have hvl : l.victims.length ≤ 8 := by have := hi.sum; have := ho.n8; omega
  have hkB : Keeps [] w (w.alloc (.cells #[] 360)) := by simp
  obtain ⟨wB, hwB⟩ : ∃ q, w.alloc (.cells #[] 360) = q := ⟨_, rfl⟩
  rw [hwB] at hkB
  have HT := Lib.hid h
  have c9B := keeps_cell0 hkB c9
  have HC := Lib.hid (show ∀ w', Keeps [] w w' → w'.cell? ⟨cb, 1, none⟩ = some (PT jb) ∧ w'.cell? ⟨cb, 5, none⟩ = some (.int .i64 x.stamp) from fun w' hk' => let q := (h.calm hk').cm.fix; ⟨q.2.1, q.2.2.2.2.2⟩)
  have HQD := Lib.hid (fun (w' : World) (hk' : Keeps [] w w') => show Calls Tryz.prog 147 #[PT lb] w' fun e w'' => e = .returned (.bool l.turns.isEmpty) ∧ w' = w'' by
    obtain ⟨⟨tv, wv, vv, a, _⟩, _, _⟩ := hlk.calm hk'
    exact lk_done a)
  unfold Cm.behind
  rw [hxl]
  by_cases ht : l.turns = []
  · simp only [if_pos ht]
    rw [ht] at HQD
    have HQV := Lib.hid (fun (w' : World) (hk' : Keeps [] w w') => show Calls Tryz.prog 109 #[PT lb] w' fun e w'' => ∃ v, e = .returned v ∧ NewRow 73 4 l.victims.length (vcCells l.victims) [] w' w'' v by
      obtain ⟨⟨tv, wv, vv, a, _⟩, _, _⟩ := hlk.calm hk'
      exact lk_victims a (by omega))
    have hj := fun (w' : World) (hk' : Keeps [] w w') (A : Option Addr) (cap : Nat) (how : w'.ownsRow 0 73 4 (.slice A l.victims.length cap) l.victims.length (vcCells l.victims)) => judge_decide w' jb c hc x.stamp d h0 (by omega) (h.calm hk').j A cap l.victims (SlR.of_own how)
    have hxx := rfl (a := x.judged c d l.victims)
    conv at hxx => rhs; unfold Cm.judged
    obtain ⟨xx, hxe⟩ : ∃ q, x.judged c d l.victims = q := ⟨_, rfl⟩
    obtain ⟨vv, hvv⟩ : ∃ q, verdict c x.stamp d l.victims = q := ⟨_, rfl⟩
    obtain ⟨dd, hdd⟩ : ∃ q, decided c x.stamp d l.victims = q := ⟨_, rfl⟩
    rw [hxe, hvv] at hxx
    simp only [hvv, hdd] at hj
    rw [hxe, hdd]
    have HXX := Lib.hid hxx
    have HJ := Lib.hid hj
    have HQN := Lib.hid (fun (w' : World) (ht : CmTrio w0 w' z F H jb cb dp nv S c dd x) (A : Option Addr) (cap : Nat) (how : w'.ownsRow 0 73 4 (.slice A l.victims.length cap) l.victims.length (vcCells l.victims)) => dm_new ht.sp hf l.victims how x.thread ho.t1 ho.t8 hi.vs (by omega))
    clear hxx hj hxe hvv hdd h hf hk hc h0 h1 hl hi ho hlk ht hxl hxs c9
    go_enter Tryz.func269, Tryz.ntmps269
    go_wp2_with fail
    try rw [hwB]
    refine (HQD.out _ hkB).mono ?_
    rintro e w1 ⟨rfl, rfl⟩
    go_wp2_with fail
    refine (HQV.out _ hkB).mono ?_
    rintro e w2 ⟨v, rfl, hor, hk2⟩
    obtain ⟨A, cap, rfl⟩ := own_form hor
    have HOW : Hid (w2.ownsRow 0 73 4 (.slice A l.victims.length cap) l.victims.length (vcCells l.victims)) := own_base hor (fun _ _ => Nat.zero_le _)
    have HK2 : Hid (Keeps [] w w2) := hkB.trans hk2 (by simp)
    have HT2 := Lib.hid (HT.out.calm HK2.out)
    clear hor hk2 hwB c9B HQD HQV
    go_wp2_with fail
    refine wp_region_noPanic ?_
    refine wp_region_L 99 (fun w' => w'.cell? ⟨cb, 1, none⟩ = some (PT jb) ∧ w'.cell? ⟨cb, 5, none⟩ = some (.int .i64 x.stamp)) (by kernel_rfl) ?_
    have hHeld := HC.out _ (HK2.out.drew)
    refine wpAnyL_takeT (i := 0) (v := ?rvj0) rfl (by kernel_rfl) (by kernel_rfl) (by kernel_rfl) (by kernel_rfl) (fun _ _ _ h => h) (Or.inl ⟨by rfl, ?ryj0⟩) hHeld ?rrj0
    case ryj0 => (intro w' hSw; (try dsimp only at hSw); go_simp; first | done | with_reducible rfl)
    case' rrj0 => (try simp only [Act.put, List.setIfInBounds_toArray, List.set_cons_zero, List.set_cons_succ])
    refine wpAnyL_takeT (i := 1) (v := ?rvj1) rfl (by kernel_rfl) (by kernel_rfl) (by kernel_rfl) (by kernel_rfl) (fun _ _ _ h => h) (Or.inl ⟨by rfl, ?ryj1⟩) hHeld ?rrj1
    case ryj1 => (intro w' hSw; (try dsimp only at hSw); go_simp; first | done | with_reducible rfl)
    case' rrj1 => (try simp only [Act.put, List.setIfInBounds_toArray, List.set_cons_zero, List.set_cons_succ])
    refine wpAnyL_takeT (i := 2) (v := ?rvj2) rfl (by kernel_rfl) (by kernel_rfl) (by kernel_rfl) (by kernel_rfl) (fun _ _ _ h => h) (Or.inl ⟨by rfl, ?ryj2⟩) hHeld ?rrj2
    case ryj2 => (intro w' hSw; (try dsimp only at hSw); go_simp; first | done | with_reducible rfl)
    case' rrj2 => (try simp only [Act.put, List.setIfInBounds_toArray, List.set_cons_zero, List.set_cons_succ])
    refine wpAnyL_takeT (i := 3) (v := ?rvj3) rfl (by kernel_rfl) (by kernel_rfl) (by kernel_rfl) (by kernel_rfl) (fun _ _ _ h => h) (Or.inl ⟨by rfl, ?ryj3⟩) hHeld ?rrj3
    case ryj3 => (intro w' hSw; (try dsimp only at hSw); go_simp; first | done | with_reducible rfl)
    case' rrj3 => (try simp only [Act.put, List.setIfInBounds_toArray, List.set_cons_zero, List.set_cons_succ])
    refine wpAnyL_takeT (i := 4) (v := ?rvj4) rfl (by kernel_rfl) (by kernel_rfl) (by kernel_rfl) (by kernel_rfl) (fun _ _ _ h => h) (Or.inl ⟨by rfl, ?ryj4⟩) hHeld ?rrj4
    case ryj4 => (intro w' hSw; (try dsimp only at hSw); go_simp; first | done | with_reducible rfl)
    case' rrj4 => (try simp only [Act.put, List.setIfInBounds_toArray, List.set_cons_zero, List.set_cons_succ])
    refine wpAnyL_takeT (i := 5) (v := ?rvj5) rfl (by kernel_rfl) (by kernel_rfl) (by kernel_rfl) (by kernel_rfl) (fun _ _ _ h => h) (Or.inl ⟨by rfl, ?ryj5⟩) hHeld ?rrj5
    case ryj5 => (intro w' hSw; (try dsimp only at hSw); go_simp; first | done | with_reducible rfl)
    case' rrj5 => (try simp only [Act.put, List.setIfInBounds_toArray, List.set_cons_zero, List.set_cons_succ])
    refine wpAnyL_takeT (i := 6) (v := ?rvj6) rfl (by kernel_rfl) (by kernel_rfl) (by kernel_rfl) (by kernel_rfl) (fun _ _ _ h => h) (Or.inl ⟨by rfl, ?ryj6⟩) hHeld ?rrj6
    case ryj6 => (intro w' hSw; (try dsimp only at hSw); go_simp; first | done | with_reducible rfl)
    case' rrj6 => (try simp only [Act.put, List.setIfInBounds_toArray, List.set_cons_zero, List.set_cons_succ])
    refine wpAnyL_takeT (i := 7) (v := ?rvj7) rfl (by kernel_rfl) (by kernel_rfl) (by kernel_rfl) (by kernel_rfl) (fun _ _ _ h => h) (Or.inl ⟨by rfl, ?ryj7⟩) hHeld ?rrj7
    case ryj7 => (intro w' hSw; (try dsimp only at hSw); go_simp; first | done | with_reducible rfl)
    case' rrj7 => (try simp only [Act.put, List.setIfInBounds_toArray, List.set_cons_zero, List.set_cons_succ])
    refine wpAnyL_takeT (i := 8) (v := ?rvj8) rfl (by kernel_rfl) (by kernel_rfl) (by kernel_rfl) (by kernel_rfl) (fun _ _ _ h => h) (Or.inl ⟨by rfl, ?ryj8⟩) hHeld ?rrj8
    case ryj8 => (intro w' hSw; (try dsimp only at hSw); go_simp; first | done | with_reducible rfl)
    case' rrj8 => (try simp only [Act.put, List.setIfInBounds_toArray, List.set_cons_zero, List.set_cons_succ])
    refine wpAnyL_takeT (i := 9) (v := ?rvj9) rfl (by kernel_rfl) (by kernel_rfl) (by kernel_rfl) (by kernel_rfl) (fun _ _ _ h => h) (Or.inl ⟨by rfl, ?ryj9⟩) hHeld ?rrj9
    case ryj9 => (intro w' hSw; (try dsimp only at hSw); go_simp; first | done | with_reducible rfl)
    case' rrj9 => (try simp only [Act.put, List.setIfInBounds_toArray, List.set_cons_zero, List.set_cons_succ])
    refine wpAnyL_oneT (i := 10) (by kernel_rfl) rfl (fun K hK => ?_)
    go_simp
    go_at_call 270
    refine (HJ.out w2.drew HK2.out.drew A cap (own_keeps HOW.out ((Keeps.refl [] w2).drew) (by simp))).mono ?_
    rintro e wd ⟨rfl, hjd, hkd⟩
    have ht3 : CmTrio w0 wd z F H jb cb dp nv S c dd x := (HT2.out.calm (Keeps.refl [] w2).drew).judge hjd hkd
    have hor3 := (HT2.out.calm (Keeps.refl [] w2).drew).row hkd (own_keeps HOW.out ((Keeps.refl [] w2).drew) (by simp))
    have hkw : Keeps (jb :: (H ++ F)) w wd := (HK2.out.drew.mono (by simp)).trans hkd (fun q hq => .inl (by simp at hq; simp [hq]))
    have HW3 : Hid (WentC w0 w wd z F H jb cb dp nv S c dd x) := WentC.of ht3 hkw (fun q hq => .inl hq) (fun q hq => .inl hq)
    obtain ⟨v7, v8, v10, v11⟩ := ht3.cm.var
    have g10 := ht3.cm.frozen 10
    have HT3 := Lib.hid ht3
    have HOR3 := Lib.hid hor3
    have HKW3 := Lib.hid hkw
    have hfx := ht3.cm.fix
    have hS1 : wd.cell? ⟨cb, 1, none⟩ = some (PT jb) ∧ wd.cell? ⟨cb, 5, none⟩ = some (.int .i64 x.stamp) := ⟨hfx.2.1, hfx.2.2.2.2.2⟩
    clear hjd hkd ht3 hor3 hkw hfx
    go_simp
    refine hK.out _ _ (fun _ => hS1) ?_
    clear hK K
    try simp only [Act.put, List.setIfInBounds_toArray, List.set_cons_zero, List.set_cons_succ]
    refine wpAnyL_done (by kernel_rfl) ?_ _
    refine NoPanic.normal ?_
    by_cases e2 : vv = 2
    · subst e2
      have hxx := HXX.out
      rw [if_pos rfl] at hxx
      subst hxx
      go_wp2_with fail
      go_ret
      exact ⟨dp, rfl, (HW3.out.set 10 (.int .i64 9) (x' := { x with e := 9, st := .giveUp }) (fun _ _ => rfl) rfl rfl rfl (Blk.lt HT.out.j) HT.out.jH)⟩
    · by_cases e3 : vv = 3
      · subst e3
        have hxx := HXX.out
        rw [if_neg (by decide), if_pos rfl] at hxx
        subst hxx
        go_wp2_with fail
        go_ret
        exact ⟨dp, rfl, (HW3.out.set 10 (.int .i64 8) (x' := { x with e := 8, st := .giveUp }) (fun _ _ => rfl) rfl rfl rfl (Blk.lt HT.out.j) HT.out.jH)⟩
      · have hxx := HXX.out
        rw [if_neg e2, if_neg e3, Cm.doomed_is] at hxx
        obtain ⟨sg, hsg⟩ : ∃ q, (if (Dm.new x.thread l.victims).left = [] then Stg.write 0 else Stg.doom) = q := ⟨_, rfl⟩
        have QB := Lib.hid (fun (w1 : World) (b1 : Nat) (G1 : List Nat) (hd : DM w0 w1 z F b1 G1 (Dm.new x.thread l.victims)) => dm_behind hd)
        rw [hsg] at hxx QB
        clear hsg
        subst hxx
        have b2 : (vv == 2) = false := by simp [e2]
        have b3 : (vv == 3) = false := by simp [e3]
        have QN := Lib.hid (fun (w' : World) (hk' : Keeps [] wd w') => HQN.out w' (HT3.out.calm hk') A cap (own_keeps HOR3.out hk' (by simp)))
        have HC3 := Lib.hid (show ∀ w', Keeps [] wd w' → w'.cell? ⟨cb, 0, none⟩ = some (PT z.p) ∧ w'.cell? ⟨cb, 4, none⟩ = some (.int .i64 x.thread) from fun w' hk' => let q := (HT3.out.calm hk').cm.fix; ⟨q.1, q.2.2.2.2.1⟩)
        clear HQN HJ HXX e2 e3
        go_wp2_with fail
        refine wp_region_noPanic ?_
        refine wp_region_L 99 (fun w' => w'.cell? ⟨cb, 0, none⟩ = some (PT z.p) ∧ w'.cell? ⟨cb, 4, none⟩ = some (.int .i64 x.thread)) (by kernel_rfl) ?_
        have hHeld := HC3.out _ (Keeps.refl [] wd).drew
        refine wpAnyL_takeT (i := 0) (v := ?rvn0) rfl (by kernel_rfl) (by kernel_rfl) (by kernel_rfl) (by kernel_rfl) (fun _ _ _ h => h) (Or.inl ⟨by rfl, ?ryn0⟩) hHeld ?rrn0
        case ryn0 => (intro w' hSw; (try dsimp only at hSw); go_simp; first | done | with_reducible rfl)
        case' rrn0 => (try simp only [Act.put, List.setIfInBounds_toArray, List.set_cons_zero, List.set_cons_succ])
        refine wpAnyL_takeT (i := 1) (v := ?rvn1) rfl (by kernel_rfl) (by kernel_rfl) (by kernel_rfl) (by kernel_rfl) (fun _ _ _ h => h) (Or.inl ⟨by rfl, ?ryn1⟩) hHeld ?rrn1
        case ryn1 => (intro w' hSw; (try dsimp only at hSw); go_simp; first | done | with_reducible rfl)
        case' rrn1 => (try simp only [Act.put, List.setIfInBounds_toArray, List.set_cons_zero, List.set_cons_succ])
        refine wpAnyL_takeT (i := 2) (v := ?rvn2) rfl (by kernel_rfl) (by kernel_rfl) (by kernel_rfl) (by kernel_rfl) (fun _ _ _ h => h) (Or.inl ⟨by rfl, ?ryn2⟩) hHeld ?rrn2
        case ryn2 => (intro w' hSw; (try dsimp only at hSw); go_simp; first | done | with_reducible rfl)
        case' rrn2 => (try simp only [Act.put, List.setIfInBounds_toArray, List.set_cons_zero, List.set_cons_succ])
        refine wpAnyL_takeT (i := 3) (v := ?rvn3) rfl (by kernel_rfl) (by kernel_rfl) (by kernel_rfl) (by kernel_rfl) (fun _ _ _ h => h) (Or.inl ⟨by rfl, ?ryn3⟩) hHeld ?rrn3
        case ryn3 => (intro w' hSw; (try dsimp only at hSw); go_simp; first | done | with_reducible rfl)
        case' rrn3 => (try simp only [Act.put, List.setIfInBounds_toArray, List.set_cons_zero, List.set_cons_succ])
        refine wpAnyL_takeT (i := 4) (v := ?rvn4) rfl (by kernel_rfl) (by kernel_rfl) (by kernel_rfl) (by kernel_rfl) (fun _ _ _ h => h) (Or.inl ⟨by rfl, ?ryn4⟩) hHeld ?rrn4
        case ryn4 => (intro w' hSw; (try dsimp only at hSw); go_simp; first | done | with_reducible rfl)
        case' rrn4 => (try simp only [Act.put, List.setIfInBounds_toArray, List.set_cons_zero, List.set_cons_succ])
        refine wpAnyL_takeT (i := 5) (v := ?rvn5) rfl (by kernel_rfl) (by kernel_rfl) (by kernel_rfl) (by kernel_rfl) (fun _ _ _ h => h) (Or.inl ⟨by rfl, ?ryn5⟩) hHeld ?rrn5
        case ryn5 => (intro w' hSw; (try dsimp only at hSw); go_simp; first | done | with_reducible rfl)
        case' rrn5 => (try simp only [Act.put, List.setIfInBounds_toArray, List.set_cons_zero, List.set_cons_succ])
        refine wpAnyL_takeT (i := 6) (v := ?rvn6) rfl (by kernel_rfl) (by kernel_rfl) (by kernel_rfl) (by kernel_rfl) (fun _ _ _ h => h) (Or.inl ⟨by rfl, ?ryn6⟩) hHeld ?rrn6
        case ryn6 => (intro w' hSw; (try dsimp only at hSw); go_simp; first | done | with_reducible rfl)
        case' rrn6 => (try simp only [Act.put, List.setIfInBounds_toArray, List.set_cons_zero, List.set_cons_succ])
        refine wpAnyL_takeT (i := 7) (v := ?rvn7) rfl (by kernel_rfl) (by kernel_rfl) (by kernel_rfl) (by kernel_rfl) (fun _ _ _ h => h) (Or.inl ⟨by rfl, ?ryn7⟩) hHeld ?rrn7
        case ryn7 => (intro w' hSw; (try dsimp only at hSw); go_simp; first | done | with_reducible rfl)
        case' rrn7 => (try simp only [Act.put, List.setIfInBounds_toArray, List.set_cons_zero, List.set_cons_succ])
        refine wpAnyL_takeT (i := 8) (v := ?rvn8) rfl (by kernel_rfl) (by kernel_rfl) (by kernel_rfl) (by kernel_rfl) (fun _ _ _ h => h) (Or.inl ⟨by rfl, ?ryn8⟩) hHeld ?rrn8
        case ryn8 => (intro w' hSw; (try dsimp only at hSw); go_simp; first | done | with_reducible rfl)
        case' rrn8 => (try simp only [Act.put, List.setIfInBounds_toArray, List.set_cons_zero, List.set_cons_succ])
        refine wpAnyL_takeT (i := 9) (v := ?rvn9) rfl (by kernel_rfl) (by kernel_rfl) (by kernel_rfl) (by kernel_rfl) (fun _ _ _ h => h) (Or.inl ⟨by rfl, ?ryn9⟩) hHeld ?rrn9
        case ryn9 => (intro w' hSw; (try dsimp only at hSw); go_simp; first | done | with_reducible rfl)
        case' rrn9 => (try simp only [Act.put, List.setIfInBounds_toArray, List.set_cons_zero, List.set_cons_succ])
        refine wpAnyL_oneT (i := 10) (by kernel_rfl) rfl (fun K hK => ?_)
        go_simp
        go_at_call 149
        refine (QN.out _ (Keeps.refl [] wd).drew).mono ?_
        rintro e wf ⟨b, G', rfl, hdm, hfr, hkf⟩
        have hfx := (HT3.out.calm ((Keeps.refl [] wd).drew.trans hkf (by simp))).cm.fix
        have hS1 : wf.cell? ⟨cb, 0, none⟩ = some (PT z.p) ∧ wf.cell? ⟨cb, 4, none⟩ = some (.int .i64 x.thread) := ⟨hfx.1, hfx.2.2.2.2.1⟩
        have HDM := Lib.hid hdm
        have HND := Lib.hid ((HT3.out.calm ((Keeps.refl [] wd).drew)).newDoom hdm hfr hkf)
        clear hdm hfr hkf hfx
        go_simp
        refine hK.out _ _ (fun _ => hS1) ?_
        clear hK K
        try simp only [Act.put, List.setIfInBounds_toArray, List.set_cons_zero, List.set_cons_succ]
        replace hHeld := hS1
        refine wpAnyL_takeT (i := 11) (v := ?rvn11) rfl (by kernel_rfl) (by kernel_rfl) (by kernel_rfl) (by kernel_rfl) (fun _ _ _ h => h) (Or.inl ⟨by rfl, ?ryn11⟩) hHeld ?rrn11
        case ryn11 => (intro w' hSw; (try dsimp only at hSw); go_simp; first | done | with_reducible rfl)
        case' rrn11 => (try simp only [Act.put, List.setIfInBounds_toArray, List.set_cons_zero, List.set_cons_succ])
        refine wpAnyL_takeT (i := 12) (v := ?rvn12) rfl (by kernel_rfl) (by kernel_rfl) (by kernel_rfl) (by kernel_rfl) (fun _ _ _ h => h) (Or.inl ⟨by rfl, ?ryn12⟩) hHeld ?rrn12
        case ryn12 => (intro w' hSw; (try dsimp only at hSw); go_simp; first | done | with_reducible rfl)
        case' rrn12 => (try simp only [Act.put, List.setIfInBounds_toArray, List.set_cons_zero, List.set_cons_succ])
        refine wpAnyL_takeT (i := 13) (v := ?rvn13) rfl (by kernel_rfl) (by kernel_rfl) (by kernel_rfl) (by kernel_rfl) (fun _ _ _ h => h) (Or.inl ⟨by rfl, ?ryn13⟩) hHeld ?rrn13
        case ryn13 => (intro w' hSw; (try dsimp only at hSw); go_simp; first | done | with_reducible rfl)
        case' rrn13 => (try simp only [Act.put, List.setIfInBounds_toArray, List.set_cons_zero, List.set_cons_succ])
        refine wpAnyL_takeT (i := 14) (v := ?rvn14) rfl (by kernel_rfl) (by kernel_rfl) (by kernel_rfl) (by kernel_rfl) (fun _ _ _ h => h) (Or.inl ⟨by rfl, ?ryn14⟩) hHeld ?rrn14
        case ryn14 => (intro w' hSw; (try dsimp only at hSw); go_simp; first | done | with_reducible rfl)
        case' rrn14 => (try simp only [Act.put, List.setIfInBounds_toArray, List.set_cons_zero, List.set_cons_succ])
        refine wpAnyL_takeT (i := 15) (v := ?rvn15) rfl (by kernel_rfl) (by kernel_rfl) (by kernel_rfl) (by kernel_rfl) (fun _ _ _ h => h) (Or.inl ⟨by rfl, ?ryn15⟩) hHeld ?rrn15
        case ryn15 => (intro w' hSw; (try dsimp only at hSw); go_simp; first | done | with_reducible rfl)
        case' rrn15 => (try simp only [Act.put, List.setIfInBounds_toArray, List.set_cons_zero, List.set_cons_succ])
        refine wpAnyL_done (by kernel_rfl) ?_ _
        refine NoPanic.normal ?_
        go_wp2_with fail
        refine (QB.out _ _ _ HDM.out).mono ?_
        rintro e wg ⟨rfl, hkg⟩
        go_wp2_with fail
        go_ret
        exact ⟨b, rfl, (WentC.trans (HKW3.out.drew) (fun q hq => .inl hq) (fun q hq => .inl hq) (HND.out.calm hkg)).st _⟩
  · simp only [if_neg ht]
    rw [hxs]
    have he : l.turns.isEmpty = false := by cases hq : l.turns with | nil => exact absurd hq ht | cons a b => rfl
    rw [he] at HQD
    clear h hf hk hc h0 h1 hl hi ho hlk ht hxl hxs c9 he
    go_enter Tryz.func269, Tryz.ntmps269
    go_wp2_with fail
    try rw [hwB]
    refine (HQD.out _ hkB).mono ?_
    rintro e w1 ⟨rfl, rfl⟩
    go_wp2_with fail
    go_ret
    exact ⟨dp, rfl, (HT.out.still hkB).st _⟩
set_option maxRecDepth 100000 in
set_option maxHeartbeats 4000000 in
theorem cm_look (h : CmTrio w0 w z F H jb cb dp nv S c d x) (hf : Fit k S) (hk : k + 1 ≤ 1099511627776) (hcc : S.c = c) (hu : S.wu) (h0 : 0 ≤ d) (h1 : d ≤ 64) {l : Lk} (hl : x.lk = some l) (ho : x.Ok S.H.length) : Calls Tryz.prog 273 #[.agg #[], PT cb] w fun e w' => ∃ dp', e = .returned (.tuple #[.int .i64 1, stgVal dp' (x.look_ l S d).1.st]) ∧ WentC w0 w w' z F H jb cb dp' nv (x.look_ l S d).2.1 c (x.look_ l S d).2.2 (x.look_ l S d).1 := by
  have hi := ho.lk l hl
  have hc := hf.c
  obtain ⟨lb, Gl, c9, hlk, hGH, hgo⟩ := h.look hl
  have HT := Lib.hid h
  have hkB : Keeps [] w (w.alloc (.cells #[] 360)) := by simp
  obtain ⟨wB, hwB⟩ : ∃ q, w.alloc (.cells #[] 360) = q := ⟨_, rfl⟩
  rw [hwB] at hkB
  have hB := h.calm hkB
  obtain ⟨lb2, Gl2, c92, hlk2, hGH2, hgo2⟩ := hB.look hl
  have HQ := Lib.hid (lk_step hB.sp hf (by omega) hlk2 hu (hi.ok ho.n8) (by decide))
  have HGO := Lib.hid hgo2
  unfold Cm.look_
  have hs := l.step_is S
  have hin : (l.step S).2.1.In S.H.length := hi.step hu
  have hfit := hf.lkstep l
  obtain ⟨l', hl'⟩ : ∃ q, (l.step S).2.1 = q := ⟨_, rfl⟩
  obtain ⟨S', hS'⟩ : ∃ q, (l.step S).2.2 = q := ⟨_, rfl⟩
  obtain ⟨an, han⟩ : ∃ q, (l.step S).1 = q := ⟨_, rfl⟩
  rw [hl', hS', han] at HQ
  rw [hS'] at hs hfit
  rw [hl'] at hin
  rw [hl', hS', hcc]
  have HB := Lib.hid (fun (w1 : World) (F1 H1 : List Nat) (ht : CmTrio w0 w1 z F1 H1 jb cb dp nv S' c d { x with lk := some l' }) => cm_behind ht hfit hk (hcc ▸ hc) h0 h1 (l := l') rfl (by rw [hs.2.2]; exact hin) (by rw [hs.2.2]; exact ho.relook hin))
  clear hl' hS' han hs hin hfit hlk hlk2 hGH hGH2 hgo hgo2 hB h hf hk hcc hu h0 h1 hl ho hi hc c9
  go_enter Tryz.func273, Tryz.ntmps273
  go_wp2_with fail
  try rw [hwB]
  refine HQ.out.mono ?_
  rintro e w1 ⟨rfl, hW⟩
  have hWC := HGO.out w1 S' l' hW
  obtain ⟨F1, H1, ht1, hk1, hF1, hH1⟩ := WentC.trio (HT.out.calm hkB) hWC
  have HQ2 := Lib.hid (HB.out w1 F1 H1 ht1)
  have HP := Lib.hid (And.intro hk1 (And.intro hF1 hH1))
  clear hW hWC ht1 hk1 hF1 hH1 HB HGO HQ hwB
  go_wp2_with fail
  refine HQ2.out.mono ?_
  rintro e w2 ⟨dp', rfl, hW2⟩
  go_wp2_with fail
  go_ret2
  exact ⟨dp', rfl, WentC.pre hkB (WentC.trans HP.out.1 HP.out.2.1 HP.out.2.2 hW2)⟩
end
end Go.Proofs.YtdhgiohjdhcedaaGreat
