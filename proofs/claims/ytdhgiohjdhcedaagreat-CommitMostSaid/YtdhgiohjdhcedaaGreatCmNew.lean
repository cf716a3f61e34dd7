/- Layer 13: a commit is made. -/
import Derived.Test.YtdhgiohjdhcedaaGreatCmMay
import Derived.Test.YtdhgiohjdhcedaaGreatLocal
import Derived.Test.YtdhgiohjdhcedaaGreatSrc
namespace Go.Proofs.YtdhgiohjdhcedaaGreat
open Go.RowKit Pol
set_option linter.unusedVariables false
set_option linter.unusedSimpArgs false
theorem Tryz.infoPr : (Tryz.prog.info? 67).map (fun i => (i.zero, i.size, i.bytes)) = some (some (.agg #[.int .i64 0, .int .i64 0]), 2, 16) := by kernel_rfl
theorem pr_one (l : List Pr) : ∀ u ∈ prCells l, u.oneCell' = true := by
  intro u hu
  simp only [prCells, List.mem_flatMap] at hu
  obtain ⟨x, _, hx⟩ := hu
  simp only [Pr.cells, List.mem_cons, List.not_mem_nil, or_false] at hx
  rcases hx with rfl | rfl <;> rfl
theorem prCells_len (l : List Pr) : (prCells l).length = l.length * 2 := by
  induction l with
  | nil => rfl
  | cons x l ih => simp [prCells, Pr.cells] at ih ⊢; omega
section
variable {w0 w w' : World} {z : Sb} {F H : List Nat} {S S' : Sp} {k jb cb dp : Nat} {x x' : Cm} {nv : Value} {c : Cf} {d d' : Int}
set_option maxRecDepth 100000 in
set_option maxHeartbeats 2000000 in
theorem cm_new_bad (h : SP w0 w z F S) (hf : Fit k S) (sl ge th st : Int) (A : Option Addr) (cap : Nat) (ws : List Pr) (hw : SlR w 67 2 (.slice A ws.length cap) ws.length (prCells ws)) (he : mayE S.c sl th st ws ≠ 0) :
    Calls Tryz.prog 25 #[PT z.p, PT jb, .agg #[.int .i64 sl, .int .i64 ge, .int .i64 th, .int .i64 st, .slice A ws.length cap]] w fun e w' => e = .returned (.tuple #[.pointer none, .int .i64 (mayE S.c sl th st ws)]) ∧ Keeps [] w w' := by
  have hk : Keeps [] w (w.alloc (.cells #[.int .i64 sl, .int .i64 ge, .int .i64 th, .int .i64 st, .slice A ws.length cap] 52)) := by simp
  have hb := Blk.new w 52 #[.int .i64 sl, .int .i64 ge, .int .i64 th, .int .i64 st, .slice A ws.length cap]
  obtain ⟨wB, hwB⟩ : ∃ q, w.alloc (.cells #[.int .i64 sl, .int .i64 ge, .int .i64 th, .int .i64 st, .slice A ws.length cap] 52) = q := ⟨_, rfl⟩
  rw [hwB] at hk hb
  have hkB := hk
  have HC := Lib.hid (show ∀ w', Keeps [] wB w' → w'.cell? ⟨w.heap.size, 0, none⟩ = some (.int .i64 sl) ∧ w'.cell? ⟨w.heap.size, 1, none⟩ = some (.int .i64 ge) ∧ w'.cell? ⟨w.heap.size, 2, none⟩ = some (.int .i64 th) ∧ w'.cell? ⟨w.heap.size, 3, none⟩ = some (.int .i64 st) ∧ w'.cell? ⟨w.heap.size, 4, none⟩ = some (.slice A ws.length cap) from fun w' hk' => ⟨((hb.keeps hk' (by simp)).cell 0).trans rfl, ((hb.keeps hk' (by simp)).cell 1).trans rfl, ((hb.keeps hk' (by simp)).cell 2).trans rfl, ((hb.keeps hk' (by simp)).cell 3).trans rfl, ((hb.keeps hk' (by simp)).cell 4).trans rfl⟩)
  have QCF := Lib.hid (fun (w' : World) (hk' : Keeps [] w w') => sp_config (h.calm hk'))
  have QM := Lib.hid (fun (w' : World) (hk' : Keeps [] w w') => cm_may w' S.c hf.c sl ge th st A cap ws (hw.keeps hk' (by simp)))
  obtain ⟨er, her⟩ : ∃ q, mayE S.c sl th st ws = q := ⟨_, rfl⟩
  rw [her] at he QM ⊢
  have e0 : (er != 0) = true := by simp [he]
  have hkB0 : Keeps [] wB wB := Keeps.refl _ _
  clear h hf hw he her hb hk
  go_enter Tryz.func25, Tryz.ntmps25
  go_wp2_with fail
  try rw [hwB]
  refine wp_region_noPanic ?_
  refine wp_region_L 99 (fun w' => w'.cell? ⟨w.heap.size, 0, none⟩ = some (.int .i64 sl) ∧ w'.cell? ⟨w.heap.size, 1, none⟩ = some (.int .i64 ge) ∧ w'.cell? ⟨w.heap.size, 2, none⟩ = some (.int .i64 th) ∧ w'.cell? ⟨w.heap.size, 3, none⟩ = some (.int .i64 st) ∧ w'.cell? ⟨w.heap.size, 4, none⟩ = some (.slice A ws.length cap)) (by kernel_rfl) ?_
  have hHeld := HC.out _ hkB0.drew
  refine wpAnyL_takeT (i := 0) (v := ?rvm0) rfl (by kernel_rfl) (by kernel_rfl) (by kernel_rfl) (by kernel_rfl) (fun _ _ _ h => h) (Or.inl ⟨by rfl, ?rym0⟩) hHeld ?rrm0
  case rym0 => (intro w' hSw; (try dsimp only at hSw); go_simp; first | done | with_reducible rfl)
  case' rrm0 => (try simp only [Act.put, List.setIfInBounds_toArray, List.set_cons_zero, List.set_cons_succ])
  refine wpAnyL_takeT (i := 2) (v := ?rvm2) rfl (by kernel_rfl) (by kernel_rfl) (by kernel_rfl) (by kernel_rfl) (fun _ _ _ h => h) (Or.inl ⟨by rfl, ?rym2⟩) hHeld ?rrm2
  case rym2 => (intro w' hSw; (try dsimp only at hSw); go_simp; first | done | with_reducible rfl)
  case' rrm2 => (try simp only [Act.put, List.setIfInBounds_toArray, List.set_cons_zero, List.set_cons_succ])
  refine wpAnyL_oneT (i := 1) (by kernel_rfl) rfl (fun K hK => ?_)
  go_simp
  go_at_call 41
  refine (QCF.out _ hkB.drew).mono ?_
  rintro e wc ⟨rfl, hkc⟩
  have hS1 : wc.cell? ⟨w.heap.size, 0, none⟩ = some (.int .i64 sl) ∧ wc.cell? ⟨w.heap.size, 1, none⟩ = some (.int .i64 ge) ∧ wc.cell? ⟨w.heap.size, 2, none⟩ = some (.int .i64 th) ∧ wc.cell? ⟨w.heap.size, 3, none⟩ = some (.int .i64 st) ∧ wc.cell? ⟨w.heap.size, 4, none⟩ = some (.slice A ws.length cap) := HC.out _ (hkB0.drew.trans hkc (by simp))
  have HKC : Hid (Keeps [] wB wc) := hkB0.drew.trans hkc (by simp)
  go_simp
  refine hK.out _ _ (fun _ => hS1) ?_
  clear hK K
  try simp only [Act.put, List.setIfInBounds_toArray, List.set_cons_zero, List.set_cons_succ]
  replace hHeld := hS1
  clear hS1
  refine wpAnyL_oneT (i := 3) (by kernel_rfl) rfl (fun K hK => ?_)
  go_simp
  go_at_call 103
  refine (QM.out _ (hkB.drew.trans hkc (by simp))).mono ?_
  rintro e wd ⟨rfl, hkd⟩
  have hS2 : wd.cell? ⟨w.heap.size, 0, none⟩ = some (.int .i64 sl) ∧ wd.cell? ⟨w.heap.size, 1, none⟩ = some (.int .i64 ge) ∧ wd.cell? ⟨w.heap.size, 2, none⟩ = some (.int .i64 th) ∧ wd.cell? ⟨w.heap.size, 3, none⟩ = some (.int .i64 st) ∧ wd.cell? ⟨w.heap.size, 4, none⟩ = some (.slice A ws.length cap) := HC.out _ (HKC.out.trans hkd (by simp))
  have HKD : Hid (Keeps [] wB wd) := HKC.out.trans hkd (by simp)
  go_simp
  refine hK.out _ _ (fun _ => hS2) ?_
  clear hK K
  try simp only [Act.put, List.setIfInBounds_toArray, List.set_cons_zero, List.set_cons_succ]
  replace hHeld := hS2
  clear hS2
  refine wpAnyL_takeT (i := 4) (v := ?rvm4) rfl (by kernel_rfl) (by kernel_rfl) (by kernel_rfl) (by kernel_rfl) (fun _ _ _ h => h) (Or.inl ⟨by rfl, ?rym4⟩) hHeld ?rrm4
  case rym4 => (intro w' hSw; (try dsimp only at hSw); go_simp; first | done | with_reducible rfl)
  case' rrm4 => (try simp only [Act.put, List.setIfInBounds_toArray, List.set_cons_zero, List.set_cons_succ])
  refine wpAnyL_done (by kernel_rfl) ?_ _
  refine NoPanic.normal ?_
  go_wp2_with fail
  go_ret2
  exact ⟨rfl, hkB.trans HKD.out (by simp)⟩
set_option maxRecDepth 100000 in
set_option maxHeartbeats 2000000 in
theorem cm_new (h : SP w0 w z F S) (hf : Fit k S) (sl ge th st : Int) (A : Option Addr) (cap : Nat) (ws : List Pr) (hw : SlR w 67 2 (.slice A ws.length cap) ws.length (prCells ws)) (he : mayE S.c sl th st ws = 0) :
    Calls Tryz.prog 25 #[PT z.p, PT jb, .agg #[.int .i64 sl, .int .i64 ge, .int .i64 th, .int .i64 st, .slice A ws.length cap]] w fun e w' => ∃ cb H, e = .returned (.tuple #[PT cb, .int .i64 0]) ∧ CmN w0 w' z F jb cb H 0 (stgVal 0 .take) (Cm.new sl ge th st ws) ∧ (∀ q, q ∈ H → w.heap.size ≤ q) ∧ Keeps [] w w' := by
  have hk : Keeps [] w (w.alloc (.cells #[.int .i64 sl, .int .i64 ge, .int .i64 th, .int .i64 st, .slice A ws.length cap] 52)) := by simp
  have hb := Blk.new w 52 #[.int .i64 sl, .int .i64 ge, .int .i64 th, .int .i64 st, .slice A ws.length cap]
  obtain ⟨wB, hwB⟩ : ∃ q, w.alloc (.cells #[.int .i64 sl, .int .i64 ge, .int .i64 th, .int .i64 st, .slice A ws.length cap] 52) = q := ⟨_, rfl⟩
  rw [hwB] at hk hb
  have hkB := hk
  have HC := Lib.hid (show ∀ w', Keeps [] wB w' → w'.cell? ⟨w.heap.size, 0, none⟩ = some (.int .i64 sl) ∧ w'.cell? ⟨w.heap.size, 1, none⟩ = some (.int .i64 ge) ∧ w'.cell? ⟨w.heap.size, 2, none⟩ = some (.int .i64 th) ∧ w'.cell? ⟨w.heap.size, 3, none⟩ = some (.int .i64 st) ∧ w'.cell? ⟨w.heap.size, 4, none⟩ = some (.slice A ws.length cap) from fun w' hk' => ⟨((hb.keeps hk' (by simp)).cell 0).trans rfl, ((hb.keeps hk' (by simp)).cell 1).trans rfl, ((hb.keeps hk' (by simp)).cell 2).trans rfl, ((hb.keeps hk' (by simp)).cell 3).trans rfl, ((hb.keeps hk' (by simp)).cell 4).trans rfl⟩)
  have QCF := Lib.hid (fun (w' : World) (hk' : Keeps [] w w') => sp_config (h.calm hk'))
  have QM := Lib.hid (fun (w' : World) (hk' : Keeps [] w w') => cm_may w' S.c hf.c sl ge th st A cap ws (hw.keeps hk' (by simp)))
  rw [he] at QM
  have hlen : 1 ≤ ws.length ∧ ws.length ≤ 16 := mayE_len he
  have hmx : Hid (0 + ws.length ≤ maxLen) := by unfold Hid maxLen; omega
  have hby : Hid ((0 + ws.length) * 16 ≤ 140737488355328) := by unfold Hid; omega
  have HW := Lib.hid (hw.keeps hkB (by simp))
  have HBB := Lib.hid hb
  have HLN := Lib.hid hlen
  have HH := Lib.hid h
  obtain ⟨i0, hi, hz0, hz1, hz2⟩ := info_parts Tryz.infoPr
  have hkB0 : Keeps [] wB wB := Keeps.refl _ _
  have hszB : wB.heap.size = w.heap.size + 1 := by rw [← hwB]; simp
  have HSZ := Lib.hid hszB
  clear h hf hw he hb hk hlen hszB
  go_enter Tryz.func25, Tryz.ntmps25
  go_wp2_with fail
  try rw [hwB]
  refine wp_region_noPanic ?_
  refine wp_region_L 99 (fun w' => w'.cell? ⟨w.heap.size, 0, none⟩ = some (.int .i64 sl) ∧ w'.cell? ⟨w.heap.size, 1, none⟩ = some (.int .i64 ge) ∧ w'.cell? ⟨w.heap.size, 2, none⟩ = some (.int .i64 th) ∧ w'.cell? ⟨w.heap.size, 3, none⟩ = some (.int .i64 st) ∧ w'.cell? ⟨w.heap.size, 4, none⟩ = some (.slice A ws.length cap)) (by kernel_rfl) ?_
  have hHeld := HC.out _ hkB0.drew
  refine wpAnyL_takeT (i := 0) (v := ?rvm0) rfl (by kernel_rfl) (by kernel_rfl) (by kernel_rfl) (by kernel_rfl) (fun _ _ _ h => h) (Or.inl ⟨by rfl, ?rym0⟩) hHeld ?rrm0
  case rym0 => (intro w' hSw; (try dsimp only at hSw); go_simp; first | done | with_reducible rfl)
  case' rrm0 => (try simp only [Act.put, List.setIfInBounds_toArray, List.set_cons_zero, List.set_cons_succ])
  refine wpAnyL_takeT (i := 2) (v := ?rvm2) rfl (by kernel_rfl) (by kernel_rfl) (by kernel_rfl) (by kernel_rfl) (fun _ _ _ h => h) (Or.inl ⟨by rfl, ?rym2⟩) hHeld ?rrm2
  case rym2 => (intro w' hSw; (try dsimp only at hSw); go_simp; first | done | with_reducible rfl)
  case' rrm2 => (try simp only [Act.put, List.setIfInBounds_toArray, List.set_cons_zero, List.set_cons_succ])
  refine wpAnyL_oneT (i := 1) (by kernel_rfl) rfl (fun K hK => ?_)
  go_simp
  go_at_call 41
  refine (QCF.out _ hkB.drew).mono ?_
  rintro e wc ⟨rfl, hkc⟩
  have hS1 : wc.cell? ⟨w.heap.size, 0, none⟩ = some (.int .i64 sl) ∧ wc.cell? ⟨w.heap.size, 1, none⟩ = some (.int .i64 ge) ∧ wc.cell? ⟨w.heap.size, 2, none⟩ = some (.int .i64 th) ∧ wc.cell? ⟨w.heap.size, 3, none⟩ = some (.int .i64 st) ∧ wc.cell? ⟨w.heap.size, 4, none⟩ = some (.slice A ws.length cap) := HC.out _ (hkB0.drew.trans hkc (by simp))
  have HKC : Hid (Keeps [] wB wc) := hkB0.drew.trans hkc (by simp)
  go_simp
  refine hK.out _ _ (fun _ => hS1) ?_
  clear hK K
  try simp only [Act.put, List.setIfInBounds_toArray, List.set_cons_zero, List.set_cons_succ]
  replace hHeld := hS1
  clear hS1
  refine wpAnyL_oneT (i := 3) (by kernel_rfl) rfl (fun K hK => ?_)
  go_simp
  go_at_call 103
  refine (QM.out _ (hkB.drew.trans hkc (by simp))).mono ?_
  rintro e wd ⟨rfl, hkd⟩
  have hS2 : wd.cell? ⟨w.heap.size, 0, none⟩ = some (.int .i64 sl) ∧ wd.cell? ⟨w.heap.size, 1, none⟩ = some (.int .i64 ge) ∧ wd.cell? ⟨w.heap.size, 2, none⟩ = some (.int .i64 th) ∧ wd.cell? ⟨w.heap.size, 3, none⟩ = some (.int .i64 st) ∧ wd.cell? ⟨w.heap.size, 4, none⟩ = some (.slice A ws.length cap) := HC.out _ (HKC.out.trans hkd (by simp))
  have HKD : Hid (Keeps [] wB wd) := HKC.out.trans hkd (by simp)
  go_simp
  refine hK.out _ _ (fun _ => hS2) ?_
  clear hK K
  try simp only [Act.put, List.setIfInBounds_toArray, List.set_cons_zero, List.set_cons_succ]
  replace hHeld := hS2
  clear hS2
  refine wpAnyL_takeT (i := 4) (v := ?rvm4) rfl (by kernel_rfl) (by kernel_rfl) (by kernel_rfl) (by kernel_rfl) (fun _ _ _ h => h) (Or.inl ⟨by rfl, ?rym4⟩) hHeld ?rrm4
  case rym4 => (intro w' hSw; (try dsimp only at hSw); go_simp; first | done | with_reducible rfl)
  case' rrm4 => (try simp only [Act.put, List.setIfInBounds_toArray, List.set_cons_zero, List.set_cons_succ])
  refine wpAnyL_done (by kernel_rfl) ?_ _
  refine NoPanic.normal ?_
  obtain ⟨wa, hwa⟩ : ∃ v, v = wd := ⟨_, rfl⟩
  subst hwa
  have f4 := (HBB.out.keeps HKD.out (by simp)).frozen 4
  have hbl := (HBB.out.keeps HKD.out (by simp)).lt
  have hne : w.heap.size ≠ wa.heap.size := Nat.ne_of_lt hbl
  go_wp2_with (at_builtin; refine wpList_append_src rfl (.tmp 16) (.tmp 18) 27 rfl 67 i0 _ 2 16 Tryz.underlying27 hi hz0 hz1 hz2 rfl (by decide) (.slice (some ⟨wa.heap.size, 0, none⟩) 0 0) 0 [] rfl (World.ownsRow_made _ _ _ (Nat.zero_le _) (by decide) rfl) A ws.length cap (prCells ws) rfl (prCells_len _) (slr_src (HW.out.keeps (HKD.out.alloc _) (by simp))) (pr_one _) hmx.out hby.out ?_; intro v1 w1 hown1 hg1 hat1; obtain ⟨g1, cc, rfl, _, _⟩ := hown1.form (by have := HLN.out.1; omega); have HO1 := Lib.hid hown1; have HG1 := Lib.hid hg1; have HA1 := Lib.hid hat1; have hk1 : Keeps [] wB w1 := (HKD.out.alloc _).grown hg1 (fun q hq => by simp [Value.ownBlock] at hq; subst hq; exact .inr HKD.out.size); have HK1 := Lib.hid hk1; obtain ⟨p0, p1, p2, p3, p4⟩ := HC.out _ hk1; have f41 := (HBB.out.keeps hk1 (by simp)).frozen 4; clear hown1 hg1 hat1 hk1)
  go_ret2
  have hrow : w1.ownsRow 0 67 2 (.slice (some ⟨g1, 0, none⟩) ws.length cc) ws.length (prCells ws) := by simpa using HO1.out
  have hg1 : w.heap.size < g1 := by
    have h1 := HKD.out.size
    have h2 := HSZ.out
    rcases HA1.out with e | e <;> simp [Value.ownBlock] at e <;> omega
  have hkz : Keeps [] w (w1.setCell ⟨w.heap.size, 4, none⟩ (.slice (some ⟨g1, 0, none⟩) ws.length cc)) := (hkB.trans HK1.out (by simp)).setCell (.inr (Nat.le_refl _)) _
  have hrz := own_keeps hrow ((Keeps.refl [w.heap.size] w1).setCell (p := ⟨w.heap.size, 4, none⟩) (.inl (by simp)) (.slice (some ⟨g1, 0, none⟩) ws.length cc)) (fun q hq => by simp [Value.ownBlock] at hq; subst hq; simp; omega)
  have hsz : (w1.setCell ⟨w.heap.size, 4, none⟩ (.slice (some ⟨g1, 0, none⟩) ws.length cc)).heap.size = w1.heap.size := by simp
  have hs1 : w.heap.size < w1.heap.size := by have := HK1.out.size; have := HSZ.out; omega
  try simp only [Nat.zero_add]
  generalize w1.setCell ⟨w.heap.size, 4, none⟩ (.slice (some ⟨g1, 0, none⟩) ws.length cc) = wz at *
  rw [← hsz] at hs1 ⊢
  have hbn := Blk.new wz 210 (cmVals z jb (.slice (some ⟨g1, 0, none⟩) ws.length cc) (stgVal 0 .take) none (Cm.new sl ge th st ws))
  have hra := own_keeps hrz ((Keeps.refl [] wz).alloc (.cells (cmVals z jb (.slice (some ⟨g1, 0, none⟩) ws.length cc) (stgVal 0 .take) none (Cm.new sl ge th st ws)) 210)) (by simp)
  have hin : ∀ q, q ∈ [wz.heap.size, g1] → w.heap.size ≤ q := fun q hq => by simp at hq; rcases hq with rfl | rfl <;> omega
  refine ⟨wz.heap.size, [wz.heap.size, g1], rfl, ⟨⟨_, none, [], [], hbn, hra, ⟨rfl, rfl⟩, rfl, by simp [vblk, Value.ownBlock], by simp, by simp⟩, fun q hq => Nat.le_trans HH.out.keep.size (hin q hq), fun q hq => HH.out.fresh (hin q hq), fun q hq => ?_⟩, hin, hkz.alloc _⟩
  simp at hq
  rcases hq with rfl | rfl
  · exact ⟨_, hbn.tyOf, by decide⟩
  · exact ⟨_, own_tyOf hra rfl, by decide⟩
end
end Go.Proofs.YtdhgiohjdhcedaaGreat
