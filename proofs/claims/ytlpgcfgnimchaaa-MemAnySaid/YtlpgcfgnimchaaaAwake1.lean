/- quashlaw01.awake: the document's examples hold. -/
import Derived.Test.YtlpgcfgnimchaaaMemSt
namespace Go.Proofs.Ytlpgcfgnimchaaa
open Go.RowKit
set_option linter.unusedVariables false

set_option maxRecDepth 100000 in
set_option maxHeartbeats 1000000 in
theorem awake1 (w : World) : Calls Try.prog 9 #[] w fun e w' => e = .returned (.bool true) ∧ Keeps [] w w' := by
  go_enter Try.func9, Try.ntmps9
  go_wp2_with fail
  refine (StM.new w).mono ?_
  rintro e w1 ⟨g, rfl, h1⟩
  have H1 := Lib.hid h1
  clear h1
  go_wp2_with fail
  refine (H1.out.row 1 2 (by decide) (by decide)).mono ?_
  rintro e w2 ⟨r, b, rfl, h2⟩
  have H2 := Lib.hid h2
  clear h2 H1
  go_wp2_with fail
  refine (St.rowBad g 1 4097 (by decide)).mono ?_
  rintro e w2' ⟨rfl, rfl⟩
  go_wp2_with fail
  refine (H2.out.begin 3).mono ?_
  rintro e w3 ⟨rfl, h3⟩
  have H3 := Lib.hid h3
  clear h3 H2
  go_wp2_with fail
  refine (H3.out.store (by decide) 1 7 (by decide)).mono ?_
  rintro e w4 ⟨rfl, h4⟩
  have H4 := Lib.hid h4
  clear h4 H3
  go_wp2_with fail
  refine (H4.out.load (by decide) 1 7 (by decide)).mono ?_
  rintro e w5 ⟨rfl, h5⟩
  have H5 := Lib.hid h5
  clear h5 H4
  go_wp2_with fail
  refine (H5.out.trade_not (by decide) 1 7 5 9 (by decide) (by decide)).mono ?_
  rintro e w6 ⟨rfl, h6⟩
  have H6 := Lib.hid h6
  clear h6 H5
  go_wp2_with fail
  refine (H6.out.trade_yes (by decide) 1 7 9 (by decide)).mono ?_
  rintro e w7 ⟨rfl, h7⟩
  obtain ⟨S, hd, hs, hn, hl, h7'⟩ : ∃ S : MS, S.done = 4 ∧ S.steps = 1 ∧ S.log.length = 4 ∧ (logCells S.log).drop 18 = [.int .i64 1, .int .i64 3, .int .i64 1, .int .i64 1, .int .i64 3, .bool true] ∧ St w w7 g r b 1 [0, 9] S :=
    ⟨_, by simp [MS.note, MS.begin, MS.zero, wrap64], by simp [MS.note, MS.begin, MS.zero, wrap64], by simp [MS.note, MS.begin, MS.zero], by simp [logCells, MS.note, MS.begin, MS.zero, Acc.cells, wrap64], h7⟩
  have hg : ∀ i u, [Value.int .i64 1, .int .i64 3, .int .i64 1, .int .i64 1, .int .i64 3, .bool true][i]? = some u → (logCells S.log)[18 + i]? = some u := fun i u hu => by rw [← hl, List.getElem?_drop] at hu; exact hu
  have H7 := Lib.hid h7'
  have HG := Lib.hid hg
  clear h7 h7' H6 hl hg
  go_wp2_with fail
  refine (H7.out.log (by rw [hn]; decide)).mono ?_
  rintro e w8 ⟨v, rfl, h8, ho⟩
  obtain ⟨gl, cap, hv, _, _⟩ := ho.form (by rw [hn]; decide)
  rw [hn] at hv
  subst hv
  have hc := ho.cells (g := gl) rfl
  have a0 : w8.cell? ⟨gl, 18, none⟩ = some (.int .i64 1) := hc 18 _ (HG.out 0 _ rfl)
  have a1 : w8.cell? ⟨gl, 19, none⟩ = some (.int .i64 3) := hc 19 _ (HG.out 1 _ rfl)
  have a2 : w8.cell? ⟨gl, 20, none⟩ = some (.int .i64 1) := hc 20 _ (HG.out 2 _ rfl)
  have a3 : w8.cell? ⟨gl, 21, none⟩ = some (.int .i64 1) := hc 21 _ (HG.out 3 _ rfl)
  have a4 : w8.cell? ⟨gl, 22, none⟩ = some (.int .i64 3) := hc 22 _ (HG.out 4 _ rfl)
  have a5 : w8.cell? ⟨gl, 23, none⟩ = some (.bool true) := hc 23 _ (HG.out 5 _ rfl)
  have H8 := Lib.hid h8
  clear h8 ho hc H7
  go_wp2_with fail
  refine (H8.out.done).mono ?_
  rintro e w9 ⟨rfl, rfl⟩
  go_wp2_with fail
  refine (H8.out.steps).mono ?_
  rintro e w9 ⟨rfl, rfl⟩
  go_wp2_with fail
  go_ret
  exact ⟨rfl, H8.out.2.2.1⟩
end Go.Proofs.Ytlpgcfgnimchaaa
