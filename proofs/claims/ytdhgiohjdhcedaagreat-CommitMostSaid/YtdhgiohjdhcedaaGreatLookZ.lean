/- Layer 12: a step of a look that meets a victim. -/
import Derived.Test.YtdhgiohjdhcedaaGreatLookY
import Derived.Test.YtdhgiohjdhcedaaGreatRegT
namespace Go.Proofs.YtdhgiohjdhcedaaGreat
open Go.RowKit
set_option linter.unusedVariables false
set_option linter.unusedSimpArgs false
attribute [local go_sem ↓] Go.wp_at_zero Go.wp_at_succ
section
variable {w0 w w' w'' : World} {z : Sb} {F G : List Nat} {S S' : Sp} {k j b : Nat} {x x' : Lk} {y : Dm} {tv wv vv lv dv : Value}
set_option maxRecDepth 100000 in
set_option maxHeartbeats 8000000 in
theorem lk_step_word1y (h : SP w0 w z F S) (hf : Fit k S) (hk : k ≤ 1099511627776) (hl : LK w0 w z F b G x) (hu : S.wu) (hx : x.Ok j) (hj : j ≤ 1099511627776) (t : Int) (l : List Int) (ht : x.turns = t :: l) (hlo : x.looked = true) (v0 : Int) (hw : x.words = [v0]) (hmet : (x.word (S.word t 1).1.1).met = true) :
    Calls Tryz.prog 148 #[PT b] w fun e w' => e = .returned (.int .i64 1) ∧ WentL w0 w w' z F G b (S.word t 1).2 ((x.word (S.word t 1).1.1).meets t).turn := by
  obtain ⟨m0, hm0, hm1⟩ : ∃ m0 : Nat, v0 = m0 ∧ m0 < 18446744073709551616 := by have := hx.wu v0 (by rw [hw]; simp); unfold isU at this; exact ⟨v0.toNat, by omega, by omega⟩
  have hvs := hx.vs
  have HSG := Lib.hid hx.sg
  have hmx : Hid (x.victims.length + 1 ≤ maxLen) := by unfold Hid maxLen; omega
  have hby : Hid ((x.victims.length + 1) * 32 ≤ 140737488355328) := by unfold Hid; omega
  have HM0 := Lib.hid (And.intro hm0 hm1)
  clear hm0 hm1 hvs hx hj
  obtain ⟨⟨tv, wv, vv, ha, hG⟩, hlow, hoff⟩ := id hl
  have hn : x.turns.length = l.length + 1 := by rw [ht]; rfl
  have hs := ha.turns
  rw [hn] at hs
  obtain ⟨g, off, c, rfl, hc, hm, hcell⟩ := hs.spot
  have HTL : Hid (g ∈ footL b (.slice (some ⟨g, off, none⟩) (l.length + 1) c) wv vv) := by unfold Hid; simp [footL, vblk, Value.ownBlock]
  have t0 : w.cell? ⟨g, off, none⟩ = some (.int .i64 t) := by
    have := hcell 0 (.int .i64 t) (by rw [ht]; rfl)
    simpa using this
  have c4 : w.cell? ⟨b, 4, none⟩ = some (.slice (some ⟨g, off, none⟩) (l.length + 1) c) := (Blk.cell ha.blk 4).trans rfl
  have c0 : w.cell? ⟨b, 0, none⟩ = some (PT z.p) := (Blk.cell ha.blk 0).trans rfl
  have q1 : (0 : Int) < ((l.length + 1 : Nat) : Int) := by omega
  have hd := lk_done ha
  rw [show x.turns.isEmpty = false from by rw [ht]; rfl] at hd
  have QD := Lib.hid hd
  have HN := Lib.hid hn
  have HT := Lib.hid ht
  have HH := Lib.hid h
  have HL := Lib.hid hl
  have HG := Lib.hid hG
  have HA := Lib.hid ha
  have HO := Lib.hid hoff
  have c12 : w.cell? ⟨b, 12, none⟩ = some (.bool true) := by rw [← hlo]; exact (Blk.cell ha.blk 12).trans rfl
  have how := ha.words
  rw [hw] at how
  replace how : w.ownsRow 0 56 1 wv 1 [.int .u64 v0] := how
  obtain ⟨A, cc, rfl⟩ : ∃ A cc, wv = .slice A 1 cc := by
    rcases how.2 with ⟨rfl, h0⟩ | ⟨g', cap, cur, rfl, _⟩
    · cases h0
    · exact ⟨_, _, rfl⟩
  have HC := Lib.hid (show ∀ w', Keeps [] w w' → w'.cell? ⟨b, 0, none⟩ = some (PT z.p) ∧ w'.cell? ⟨b, 11, none⟩ = some (.slice A 1 cc) from fun w' hk => ⟨((Blk.keeps ha.blk hk (by simp)).cell 0).trans rfl, ((Blk.keeps ha.blk hk (by simp)).cell 11).trans rfl⟩)
  have QS := Lib.hid (fun w' (hk : Keeps [] w w') => slots_held h hk)
  have hcl := fun w' (hk' : Keeps [] w w') => sp_word (h.calm hk') hf hk t 1
  have hvu := hu.word t 1
  obtain ⟨v, hv⟩ : ∃ v, (S.word t 1).1.1 = v := ⟨_, rfl⟩
  obtain ⟨er, her⟩ : ∃ v, (S.word t 1).1.2 = v := ⟨_, rfl⟩
  obtain ⟨S', hS'⟩ : ∃ v, (S.word t 1).2 = v := ⟨_, rfl⟩
  simp only [hv, her, hS'] at hcl hvu hmet ⊢
  obtain ⟨m1, hn0, hn1⟩ : ∃ m1 : Nat, v = m1 ∧ m1 < 18446744073709551616 := by unfold isU at hvu; exact ⟨v.toNat, by omega, by omega⟩
  have HM1 := Lib.hid (And.intro hn0 hn1)
  have HMET := Lib.hid hmet
  clear hn0 hn1 hmet
  have QC := Lib.hid (fun w' (hk' : Keeps [] w w') => (hcl w' hk').mono fun e w'' ⟨he, hw⟩ => And.intro he (hw.pre hk'))
  have hkB : Keeps [] w w := Keeps.refl _ _
  have HW := Lib.hid hw
  have HVU := Lib.hid hvu
  clear hcl hv her hS' hcell hs hn ht hd hG hlow hoff h hf hk hl hlo how hw hu hvu
  obtain ⟨i0, hi, hz0, hz1, hz2⟩ := info_parts Tryz.infoU64
  obtain ⟨j0, hj, hy0, hy1, hy2⟩ := info_parts Tryz.infoVc
  go_enter Tryz.func148, Tryz.ntmps148
  go_wp2_with fail
  refine QD.out.mono ?_
  rintro e w1 ⟨rfl, rfl⟩
  go_wp2_with fail
  clear c12 c4 t0
  go_region_held3 (fun w' => w'.cell? ⟨b, 0, none⟩ = some (PT z.p) ∧ w'.cell? ⟨b, 11, none⟩ = some (.slice A 1 cc)) (first | with_reducible exact HC.out _ (by first | assumption | exact Keeps.drew (by assumption)) | exact ⟨d0, d11⟩ | go_keep) ((first
    | (go_at_call 19; refine (QS.out _ (by first | assumption | exact Keeps.drew (by assumption))).mono ?_; rintro e wc ⟨rfl, hkc⟩)
    | (go_at_call 132; refine (QC.out _ (by first | assumption | exact Keeps.drew (by assumption))).mono ?_; rintro e wd ⟨rfl, hW⟩; obtain ⟨F', hs1, hk1, hn1⟩ := id hW; have hbd := HA.out.keeps hk1 (fun q hq => HO.out q (by rw [HG.out]; exact hq)); have d0 : wd.cell? ⟨b, 0, none⟩ = some (PT z.p) := (hbd.blk.cell 0).trans rfl; have d11 : wd.cell? ⟨b, 11, none⟩ = some (.slice A 1 cc) := (hbd.blk.cell 11).trans rfl; have HBD := Lib.hid hbd; have HWT := Lib.hid hW; clear hbd hs1 hk1 hn1 hW)))
  all_goals
    have how : wd.ownsRow 0 56 1 (.slice A 1 cc) 1 [.int .u64 v0] := by have := HBD.out.words; rw [HW.out] at this; exact this
    have HOW := Lib.hid how
    have hbl := HBD.out.blk.lt
    have hbw : b ≠ wd.heap.size := by omega
    clear how c0
    go_wp2_with (at_builtin; refine wpList_append_row rfl (.tmp 69) (.tmp 71) 302 rfl 56 i0 _ 1 8 Tryz.underlying302 hi hz0 hz1 hz2 rfl (by decide) (.slice A 1 cc) 1 _ rfl (own_keeps HOW.out ((Keeps.refl [] _).alloc _) (by simp)) _ 1 [.int .u64 v] rfl (made_row _ _ _ _ rfl) (by simp [Value.oneCell']) (by decide) (by decide) ?_; intro v1 w1 hown1 hg1 hat1; obtain ⟨g1, c1, rfl, _, _⟩ := hown1.form (by decide); have hb1 := (HBD.out.blk.alloc _).grown hg1 (fun e => own_blk_ne HOW.out HBD.out.blk (by decide) e.symm); have c11 : w1.cell? ⟨b, 11, none⟩ = some (.slice A 1 cc) := (hb1.cell 11).trans rfl; have f11 := hb1.frozen 11; have H2 := Lib.hid (HBD.out.worded v _ hown1 hg1 hat1 (by rw [HW.out]; rfl)); clear hb1 hown1 hg1 hat1 hbw d0 d11)
    have H3 := Lib.hid (lk_met H2.out.1 m0 m1 (by show x.words ++ [v] = _; rw [HW.out, ← HM0.out.1, ← HM1.out.1]; rfl) HM0.out.2 HM1.out.2 HSG.out)
    rw [HMET.out] at H3
    refine H3.out.mono ?_
    rintro e w5 ⟨rfl, hk5⟩
    have ha5 := H2.out.1.keeps hk5 (by simp)
    have HA5 := Lib.hid ha5
    have HK5 := Lib.hid (H2.out.2.1.trans hk5 (by simp))
    clear f11 c11 hbl H3
    obtain ⟨c5, c7, c8, c13⟩ : w5.cell? ⟨b, 5, none⟩ = some (.int .i64 x.head.gen) ∧ w5.cell? ⟨b, 7, none⟩ = some (.int .i64 x.head.stamp) ∧ w5.cell? ⟨b, 8, none⟩ = some (.int .i64 x.head.thread) ∧ w5.cell? ⟨b, 13, none⟩ = some vv := ⟨(ha5.blk.cell 5).trans rfl, (ha5.blk.cell 7).trans rfl, (ha5.blk.cell 8).trans rfl, (ha5.blk.cell 13).trans rfl⟩
    have hbl := ha5.blk.lt
    have hbw : b ≠ w5.heap.size := by omega
    have HO5 := Lib.hid ha5.vs
    have HB5 := Lib.hid ha5.blk
    have at5 : atC w5 b 13 = vv := atC_eq c13
    have at6 : atC w5.drew b 13 = vv := atC_eq c13
    clear ha5 hk5
    go_wp2_with fail
    refine wp_region_noPanic ?_
    refine wp_region_L 26 (fun w' => w'.cell? ⟨b, 5, none⟩ = some (.int .i64 x.head.gen) ∧ w'.cell? ⟨b, 7, none⟩ = some (.int .i64 x.head.stamp) ∧ w'.cell? ⟨b, 8, none⟩ = some (.int .i64 x.head.thread) ∧ w'.cell? ⟨b, 13, none⟩ = some vv) (by kernel_rfl) ?_
    have hHeld := (show _ ∧ _ ∧ _ ∧ _ from ⟨(HB5.out.drew.cell 5).trans rfl, (HB5.out.drew.cell 7).trans rfl, (HB5.out.drew.cell 8).trans rfl, (HB5.out.drew.cell 13).trans rfl⟩)
    refine wpAnyL_take (i := 0) (v := ?rv0) rfl (by kernel_rfl) (by kernel_rfl) (by kernel_rfl) (by kernel_rfl) (fun _ _ _ h => h) (Or.inl ⟨by rfl, ?ry0⟩) hHeld ?rr0
    case ry0 => (intro w' hSw; obtain ⟨x0, x1, x2, x3⟩ := hSw; go_simp; first | done | with_reducible rfl)
    case' rr0 => (try simp only [Act.put, List.setIfInBounds_toArray, List.set_cons_zero, List.set_cons_succ])
    refine wpAnyL_take (i := 1) (v := ?rv1) rfl (by kernel_rfl) (by kernel_rfl) (by kernel_rfl) (by kernel_rfl) (fun _ _ _ h => h) (Or.inl ⟨by rfl, ?ry1⟩) hHeld ?rr1
    case ry1 => (intro w' hSw; obtain ⟨x0, x1, x2, x3⟩ := hSw; go_simp; first | done | with_reducible rfl)
    case' rr1 => (try simp only [Act.put, List.setIfInBounds_toArray, List.set_cons_zero, List.set_cons_succ])
    refine wpAnyL_take (i := 2) (v := ?rv2) rfl (by kernel_rfl) (by kernel_rfl) (by kernel_rfl) (by kernel_rfl) (fun _ _ _ h => h) (Or.inl ⟨by rfl, ?ry2⟩) hHeld ?rr2
    case ry2 => (intro w' hSw; obtain ⟨x0, x1, x2, x3⟩ := hSw; go_simp; first | done | with_reducible rfl)
    case' rr2 => (try simp only [Act.put, List.setIfInBounds_toArray, List.set_cons_zero, List.set_cons_succ])
    refine wpAnyL_take (i := 3) (v := ?rv3) rfl (by kernel_rfl) (by kernel_rfl) (by kernel_rfl) (by kernel_rfl) (fun _ _ _ h => h) (Or.inl ⟨by rfl, ?ry3⟩) hHeld ?rr3
    case ry3 => (intro w' hSw; obtain ⟨x0, x1, x2, x3⟩ := hSw; go_simp; first | done | with_reducible rfl)
    case' rr3 => (try simp only [Act.put, List.setIfInBounds_toArray, List.set_cons_zero, List.set_cons_succ])
    refine wpAnyL_take (i := 4) (v := ?rv4) rfl (by kernel_rfl) (by kernel_rfl) (by kernel_rfl) (by kernel_rfl) (fun _ _ _ h => h) (Or.inl ⟨by rfl, ?ry4⟩) hHeld ?rr4
    case ry4 => (intro w' hSw; obtain ⟨x0, x1, x2, x3⟩ := hSw; go_simp; first | done | with_reducible rfl)
    case' rr4 => (try simp only [Act.put, List.setIfInBounds_toArray, List.set_cons_zero, List.set_cons_succ])
    refine wpAnyL_take (i := 5) (v := ?rv5) rfl (by kernel_rfl) (by kernel_rfl) (by kernel_rfl) (by kernel_rfl) (fun _ _ _ h => h) (Or.inl ⟨by rfl, ?ry5⟩) hHeld ?rr5
    case ry5 => (intro w' hSw; obtain ⟨x0, x1, x2, x3⟩ := hSw; go_simp; first | done | with_reducible rfl)
    case' rr5 => (try simp only [Act.put, List.setIfInBounds_toArray, List.set_cons_zero, List.set_cons_succ])
    refine wpAnyL_take (i := 6) (v := ?rv6) rfl (by kernel_rfl) (by kernel_rfl) (by kernel_rfl) (by kernel_rfl) (fun _ _ _ h => h) (Or.inl ⟨by rfl, ?ry6⟩) hHeld ?rr6
    case ry6 => (intro w' hSw; obtain ⟨x0, x1, x2, x3⟩ := hSw; go_simp; first | done | with_reducible rfl)
    case' rr6 => (try simp only [Act.put, List.setIfInBounds_toArray, List.set_cons_zero, List.set_cons_succ])
    refine wpAnyL_take (i := 7) (v := ?rv7) rfl (by kernel_rfl) (by kernel_rfl) (by kernel_rfl) (by kernel_rfl) (fun _ _ _ h => h) (Or.inl ⟨by rfl, ?ry7⟩) hHeld ?rr7
    case ry7 => (intro w' hSw; obtain ⟨x0, x1, x2, x3⟩ := hSw; go_simp; first | done | with_reducible rfl)
    case' rr7 => (try simp only [Act.put, List.setIfInBounds_toArray, List.set_cons_zero, List.set_cons_succ])
    refine wpAnyL_take (i := 8) (v := ?rv8) rfl (by kernel_rfl) (by kernel_rfl) (by kernel_rfl) (by kernel_rfl) (fun _ _ _ h => h) (Or.inl ⟨by rfl, ?ry8⟩) hHeld ?rr8
    case ry8 => (intro w' hSw; obtain ⟨x0, x1, x2, x3⟩ := hSw; go_simp; first | done | with_reducible rfl)
    case' rr8 => (try simp only [Act.put, List.setIfInBounds_toArray, List.set_cons_zero, List.set_cons_succ])
    refine wpAnyL_take (i := 9) (v := ?rv9) rfl (by kernel_rfl) (by kernel_rfl) (by kernel_rfl) (by kernel_rfl) (fun _ _ _ h => h) (Or.inl ⟨by rfl, ?ry9⟩) hHeld ?rr9
    case ry9 => (intro w' hSw; obtain ⟨x0, x1, x2, x3⟩ := hSw; go_simp; first | done | with_reducible rfl)
    case' rr9 => (try simp only [Act.put, List.setIfInBounds_toArray, List.set_cons_zero, List.set_cons_succ])
    refine wpAnyL_take (i := 10) (v := ?rv10) rfl (by kernel_rfl) (by kernel_rfl) (by kernel_rfl) (by kernel_rfl) (fun _ _ _ h => h) (Or.inl ⟨by rfl, ?ry10⟩) hHeld ?rr10
    case ry10 => (intro w' hSw; obtain ⟨x0, x1, x2, x3⟩ := hSw; go_simp; first | done | with_reducible rfl)
    case' rr10 => (try simp only [Act.put, List.setIfInBounds_toArray, List.set_cons_zero, List.set_cons_succ])
    refine wpAnyL_take (i := 11) (v := ?rv11) rfl (by kernel_rfl) (by kernel_rfl) (by kernel_rfl) (by kernel_rfl) (fun _ _ _ h => h) (Or.inl ⟨by rfl, ?ry11⟩) hHeld ?rr11
    case ry11 => (intro w' hSw; obtain ⟨x0, x1, x2, x3⟩ := hSw; go_simp; first | done | with_reducible rfl)
    case' rr11 => (try simp only [Act.put, List.setIfInBounds_toArray, List.set_cons_zero, List.set_cons_succ])
    refine wpAnyL_take (i := 12) (v := ?rv12) rfl (by kernel_rfl) (by kernel_rfl) (by kernel_rfl) (by kernel_rfl) (fun _ _ _ h => h) (Or.inl ⟨by rfl, ?ry12⟩) hHeld ?rr12
    case ry12 => (intro w' hSw; obtain ⟨x0, x1, x2, x3⟩ := hSw; go_simp; first | done | with_reducible rfl)
    case' rr12 => (try simp only [Act.put, List.setIfInBounds_toArray, List.set_cons_zero, List.set_cons_succ])
    refine wpAnyL_take (i := 13) (v := ?rv13) rfl (by kernel_rfl) (by kernel_rfl) (by kernel_rfl) (by kernel_rfl) (fun _ _ _ h => h) (Or.inl ⟨by rfl, ?ry13⟩) hHeld ?rr13
    case ry13 => (intro w' hSw; obtain ⟨x0, x1, x2, x3⟩ := hSw; go_simp; first | done | with_reducible rfl)
    case' rr13 => (try simp only [Act.put, List.setIfInBounds_toArray, List.set_cons_zero, List.set_cons_succ])
    refine wpAnyL_take (i := 14) (v := ?rv14) rfl (by kernel_rfl) (by kernel_rfl) (by kernel_rfl) (by kernel_rfl) (fun _ _ _ h => h) (Or.inl ⟨by rfl, ?ry14⟩) hHeld ?rr14
    case ry14 => (intro w' hSw; obtain ⟨x0, x1, x2, x3⟩ := hSw; go_simp; first | done | with_reducible rfl)
    case' rr14 => (try simp only [Act.put, List.setIfInBounds_toArray, List.set_cons_zero, List.set_cons_succ])
    refine wpAnyL_take (i := 15) (v := ?rv15) rfl (by kernel_rfl) (by kernel_rfl) (by kernel_rfl) (by kernel_rfl) (fun _ _ _ h => h) (Or.inl ⟨by rfl, ?ry15⟩) hHeld ?rr15
    case ry15 => (intro w' hSw; obtain ⟨x0, x1, x2, x3⟩ := hSw; go_simp; first | done | with_reducible rfl)
    case' rr15 => (try simp only [Act.put, List.setIfInBounds_toArray, List.set_cons_zero, List.set_cons_succ])
    refine wpAnyL_take (i := 16) (v := ?rv16) rfl (by kernel_rfl) (by kernel_rfl) (by kernel_rfl) (by kernel_rfl) (fun _ _ _ h => h) (Or.inl ⟨by rfl, ?ry16⟩) hHeld ?rr16
    case ry16 => (intro w' hSw; obtain ⟨x0, x1, x2, x3⟩ := hSw; go_simp; first | done | with_reducible rfl)
    case' rr16 => (try simp only [Act.put, List.setIfInBounds_toArray, List.set_cons_zero, List.set_cons_succ])
    refine wpAnyL_take (i := 17) (v := ?rv17) rfl (by kernel_rfl) (by kernel_rfl) (by kernel_rfl) (by kernel_rfl) (fun _ _ _ h => h) (Or.inl ⟨by rfl, ?ry17⟩) hHeld ?rr17
    case ry17 => (intro w' hSw; obtain ⟨x0, x1, x2, x3⟩ := hSw; go_simp; first | done | with_reducible rfl)
    case' rr17 => (try simp only [Act.put, List.setIfInBounds_toArray, List.set_cons_zero, List.set_cons_succ])
    refine wpAnyL_take (i := 18) (v := ?rv18) rfl (by kernel_rfl) (by kernel_rfl) (by kernel_rfl) (by kernel_rfl) (fun _ _ _ h => h) (Or.inl ⟨by rfl, ?ry18⟩) hHeld ?rr18
    case ry18 => (intro w' hSw; obtain ⟨x0, x1, x2, x3⟩ := hSw; go_simp; first | done | with_reducible rfl)
    case' rr18 => (try simp only [Act.put, List.setIfInBounds_toArray, List.set_cons_zero, List.set_cons_succ])
    refine wpAnyL_take (i := 19) (v := ?rv19) rfl (by kernel_rfl) (by kernel_rfl) (by kernel_rfl) (by kernel_rfl) (fun _ _ _ h => h) (Or.inl ⟨by rfl, ?ry19⟩) hHeld ?rr19
    case ry19 => (intro w' hSw; obtain ⟨x0, x1, x2, x3⟩ := hSw; go_simp; first | done | with_reducible rfl)
    case' rr19 => (try simp only [Act.put, List.setIfInBounds_toArray, List.set_cons_zero, List.set_cons_succ])
    refine wpAnyL_take (i := 20) (v := ?rv20) rfl (by kernel_rfl) (by kernel_rfl) (by kernel_rfl) (by kernel_rfl) (fun _ _ _ h => h) (Or.inl ⟨by rfl, ?ry20⟩) hHeld ?rr20
    case ry20 => (intro w' hSw; obtain ⟨x0, x1, x2, x3⟩ := hSw; go_simp; first | done | with_reducible rfl)
    case' rr20 => (try simp only [Act.put, List.setIfInBounds_toArray, List.set_cons_zero, List.set_cons_succ])
    refine wpAnyL_take (i := 21) (v := ?rv21) rfl (by kernel_rfl) (by kernel_rfl) (by kernel_rfl) (by kernel_rfl) (fun _ _ _ h => h) (Or.inl ⟨by rfl, ?ry21⟩) hHeld ?rr21
    case ry21 => (intro w' hSw; obtain ⟨x0, x1, x2, x3⟩ := hSw; go_simp; first | done | with_reducible rfl)
    case' rr21 => (try simp only [Act.put, List.setIfInBounds_toArray, List.set_cons_zero, List.set_cons_succ])
    refine wpAnyL_one (i := 22) (by kernel_rfl) rfl (fun K hK => ?_)
    go_simp
    refine hK.out _ _ (fun _ => ⟨((Blk.alloc HB5.out.drew _).cell 5).trans rfl, ((Blk.alloc HB5.out.drew _).cell 7).trans rfl, ((Blk.alloc HB5.out.drew _).cell 8).trans rfl, ((Blk.alloc HB5.out.drew _).cell 13).trans rfl⟩) ?_
    clear hK K
    try simp only [Act.put, List.setIfInBounds_toArray, List.set_cons_zero, List.set_cons_succ]
    refine wpAnyL_one (i := 23) (by kernel_rfl) rfl (fun K hK => ?_)
    refine step_append_lies _ rfl (.tmp 87) (.tmp 105) 70 rfl 0 73 j0 _ 4 32 Tryz.underlying70 hj hy0 hy1 hy2 rfl (by decide) vv x.victims.length (vcCells x.victims) rfl (own_keeps HO5.out ((Keeps.refl [] w5).drew.alloc _) (by simp)) ⟨w5.heap.size, 0, none⟩ 1 1 (Vc.cells ⟨t, x.head.gen, x.head.stamp, x.head.thread⟩) rfl rfl (by exact World.news_of_block (new_at _ _ _ (by simp))) (by simp [Vc.cells, Value.oneCell']) (by decide) hmx.out hby.out (Nat.zero_le _) _ rfl ?_
    intro g3 c3 w6 hown3 hgrow3 hat3 hlt3
    have hb6 := ((HA5.out.blk.drew).alloc _).grown hgrow3 (fun e => own_blk_ne HO5.out HA5.out.blk (by decide) e.symm)
    have d13 : w6.cell? ⟨b, 13, none⟩ = some vv := (hb6.cell 13).trans rfl
    have f13 := hb6.frozen 13
    have H6 := Lib.hid (HA5.out.metted t _ hown3 hgrow3 hat3)
    have hHeld2 : _ ∧ _ ∧ _ ∧ _ := ⟨(hb6.cell 5).trans rfl, (hb6.cell 7).trans rfl, (hb6.cell 8).trans rfl, (hb6.cell 13).trans rfl⟩
    have HB6 := Lib.hid hb6
    clear hb6 hown3 hgrow3 hat3
    refine hK.out _ _ (fun _ => hHeld2) ?_
    clear hK K
    try simp only [Act.put, List.setIfInBounds_toArray, List.set_cons_zero, List.set_cons_succ]
    refine wpAnyL_one (i := 24) (by kernel_rfl) rfl (fun K hK => ?_)
    go_simp
    refine hK.out _ _ (fun _ => hHeld2) ?_
    clear hK K
    try simp only [Act.put, List.setIfInBounds_toArray, List.set_cons_zero, List.set_cons_succ]
    refine wpAnyL_one (i := 25) (by kernel_rfl) rfl (fun K hK => ?_)
    go_simp
    refine hK.out _ _ (fun _ => hHeld2) ?_
    clear hK K
    try simp only [Act.put, List.setIfInBounds_toArray, List.set_cons_zero, List.set_cons_succ]
    refine wpAnyL_one (i := 26) (by kernel_rfl) rfl (fun K hK => ?_)
    go_simp
    refine hK.out _ _ (fun h => absurd rfl h) ?_
    clear hK K
    try simp only [Act.put, List.setIfInBounds_toArray, List.set_cons_zero, List.set_cons_succ]
    refine wpAnyL_done (by kernel_rfl) ?_ _
    refine NoPanic.normal ?_
    all_goals
      go_wp2_with fail
      refine (lk_turn H6.out.1 (by show x.turns ≠ []; rw [HT.out]; simp)).mono ?_
      rintro e w7 ⟨rfl, tv', ha7, hk7, hv7⟩
      have HA7 := Lib.hid ha7
      have hX : Keeps (b :: ((Value.slice A 1 cc).ownBlock.toList ++ vv.ownBlock.toList)) wd w7 := ((HK5.out.mono (fun q hq => .inl (by simp only [List.mem_cons, List.mem_append] at hq ⊢; rcases hq with h | h; exact .inl h; exact .inr (.inl h)))).trans H6.out.2.1 (fun q hq => .inl (by simp only [List.mem_cons, List.mem_append] at hq ⊢; rcases hq with h | h; exact .inl h; exact .inr (.inr h)))).trans hk7 (fun q hq => .inl (by simp only [List.mem_cons, List.not_mem_nil, or_false] at hq ⊢; exact .inl hq))
      have HK7 := Lib.hid hX
      have HV7 := Lib.hid hv7
      clear ha7 hk7 hv7 hX
      go_wp2_with fail
      go_ret
      refine ⟨rfl, WentL.of HH.out HL.out HWT.out HK7.out (fun q hq => .inl ?_) HA7.out (fun q hq => ?_)⟩
      · rw [HG.out]
        simp only [List.mem_cons, List.mem_append] at hq
        simp only [footL, List.mem_cons, List.mem_append]
        rcases hq with hq | hq | hq
        · exact .inl hq
        · exact .inr (.inr (.inl hq))
        · exact .inr (.inr (.inr hq))
      · rw [HG.out]
        simp only [footL, List.mem_cons, List.mem_append] at hq ⊢
        rcases hq with hq | hq | hq | hq
        · exact .inl (.inl hq)
        · exact .inl (.inr (.inl (HV7.out q hq)))
        · simp [vblk, Value.ownBlock] at hq
        · simp [vblk, Value.ownBlock] at hq
          subst hq
          have hz5 := HK5.out.size
          rcases H6.out.2.2 with h | h
          · exact .inl (.inr (.inr (.inr h)))
          · exact .inr (by omega)
end
end Go.Proofs.YtdhgiohjdhcedaaGreat
