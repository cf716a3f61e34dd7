/- Layer 11: read.New. -/
import Derived.Test.YtdhgiohjdhcedaaGreatReadH
import Derived.Deep.RegionHeld3
namespace Go.Proofs.YtdhgiohjdhcedaaGreat
open Go.RowKit
set_option linter.unusedVariables false
set_option linter.unusedSimpArgs false
theorem slc_1 (w : World) (x : Int) (k : Nat) (hk : w.heap.size = k) : Slc (w.alloc (.cells #[.int .i64 x] 3)) (some ⟨k, 0, none⟩) [x] := by
  subst hk
  refine ⟨by show 1 ≤ maxLen; decide, .inr ⟨w.heap.size, 0, rfl, by simp, ?_⟩⟩
  intro j y hy
  have hb := Blk.new w 3 #[.int .i64 x]
  rw [Nat.zero_add, hb.cell]
  cases j with
  | zero => simpa using hy
  | succ j => simp at hy
theorem of_one (w : World) (A : Option Addr) (cell n : Int) (hA : Slc w A [cell]) (c0 : 0 ≤ cell) (c1 : cell ≤ 255) (n0 : 1 ≤ n) (n1 : n ≤ 128) : Calls Tryz.prog 33 #[.slice A 1 1, .int .i64 n] w fun e w' => e = .returned (.tuple #[(ownSg n cell).val, .int .i64 0]) ∧ Keeps [] w w' := by
  have h := of_any w A 1 [cell] hA n n0 n1
  have hc : [cell].all isCell = true := by simp [isCell, c0, c1]
  have e1 : ofR n [cell] = ownSg n cell := by unfold ofR; rw [if_pos hc]; rfl
  have e2 : ofE [cell] = 0 := by unfold ofE; rw [if_pos hc]
  rw [e1, e2] at h
  exact h
theorem row_form {w : World} {base n size : Nat} {e : TypeId} {v : Value} {xs : List Value} (h : w.ownsRow base e size v n xs) : ∃ A c, v = .slice A n c := by
  rcases h.2 with ⟨rfl, rfl⟩ | ⟨g, cap, cur, rfl, _⟩
  · exact ⟨_, _, rfl⟩
  · exact ⟨_, _, rfl⟩
theorem ownSg_ok {n : Int} (n0 : 1 ≤ n) (n1 : n ≤ 128) (cell : Int) : (ownSg n cell).ok := ofL_ok n0 n1 _
section
variable {w0 w w' w'' : World} {z : Sb} {F G : List Nat} {S S' : Sp} {k b : Nat} {x x' : Rd} {wv : Value}
set_option maxRecDepth 100000 in
set_option maxHeartbeats 8000000 in
theorem read_new (h : SP w0 w z F S) (hf : Fit k S) (f : Fr) (hs : f.sig.ok) (cell : Int) (c0 : 0 ≤ cell) (c1 : cell < S.c.cells) (s0 : 0 ≤ f.slot) (s1 : f.slot < S.c.slots) : Calls Tryz.prog 76 #[PT z.p, f.val, .int .i64 cell] w fun e w' => ∃ b G, e = .returned (.tuple #[PT b, .int .i64 0]) ∧ RD w0 w' z F b G (Rd.new S.c.bits f cell) ∧ (∀ q, q ∈ G → w.heap.size ≤ q) ∧ Keeps [] w w' := by
  unfold Fr.val Fr.cells
  have hb0 := Blk.new w 171 #[.int .i64 f.slot, .int .i64 f.gen, .int .i64 f.seen, .int .u64 (f.sig.a : Int), .int .u64 (f.sig.b : Int)]
  have hk0 : Keeps [] w (w.alloc (.cells #[.int .i64 f.slot, .int .i64 f.gen, .int .i64 f.seen, .int .u64 (f.sig.a : Int), .int .u64 (f.sig.b : Int)] 171)) := by simp
  have h0 := h.calm hk0
  have QC := Lib.hid (sp_config h0)
  have HB0 := Lib.hid hb0
  have HK0 := Lib.hid hk0
  have HH := Lib.hid h
  have HS := Lib.hid hs
  have HF := Lib.hid hf
  have d1 : decide (cell < 0) = false := decide_eq_false (by omega)
  have d2 : decide (S.c.cells ≤ cell) = false := decide_eq_false (by omega)
  have d3 : decide (f.slot < 0) = false := decide_eq_false (by omega)
  have d4 : decide (S.c.slots ≤ f.slot) = false := decide_eq_false (by omega)
  have HC := Lib.hid (And.intro c0 c1)
  clear hb0 hk0 h h0 hs hf c0 c1 s0 s1
  go_enter Tryz.func76, Tryz.ntmps76
  go_wp2_with fail
  refine QC.out.mono ?_
  rintro e w1 ⟨rfl, hk⟩
  have hka : Keeps [] w1 (w1.alloc (.cells #[.int .i64 S.c.cells, .int .i64 S.c.slots, .int .i64 S.c.bits, .int .i64 S.c.tag, .int .i64 S.c.bias, .int .i64 S.c.defer] 23)) := by simp
  have hbx := (HB0.out.keeps hk (by simp)).keeps hka (by simp)
  have hql := (HB0.out.keeps hk (by simp)).lt
  have hqn : w.heap.size ≠ w1.heap.size := by omega
  obtain ⟨x0, x1, x2, x3, x4⟩ := And.intro ((hbx.cell 0).trans rfl : _ = some (.int .i64 f.slot)) (And.intro ((hbx.cell 1).trans rfl : _ = some (.int .i64 f.gen)) (And.intro ((hbx.cell 2).trans rfl : _ = some (.int .i64 f.seen)) (And.intro ((hbx.cell 3).trans rfl : _ = some (.int .u64 (f.sig.a : Int))) ((hbx.cell 4).trans rfl : _ = some (.int .u64 (f.sig.b : Int))))))
  obtain ⟨b0, b1⟩ := HF.out.c.2.2.1
  have hc255 : cell ≤ 255 := by have h1 := HC.out.2; have h2 := HF.out.c.1.2; omega
  have QO := Lib.hid (of_one _ _ cell S.c.bits (slc_1 (w1.alloc (.cells #[.int .i64 S.c.cells, .int .i64 S.c.slots, .int .i64 S.c.bits, .int .i64 S.c.tag, .int .i64 S.c.bias, .int .i64 S.c.defer] 23)) cell (w1.heap.size + 1) (by simp)) HC.out.1 hc255 b0 b1)
  have HOK := Lib.hid (ownSg_ok b0 b1 cell)
  obtain ⟨own, hown⟩ : ∃ o, ownSg S.c.bits cell = o := ⟨_, rfl⟩
  rw [hown] at QO HOK
  have HOWN := Lib.hid hown
  have HBX := Lib.hid hbx
  have HK1 := Lib.hid (HK0.out.trans hk (by simp))
  unfold Sg.val at QO
  clear hk hka hbx hql b0 b1 hc255 hown
  go_wp2_with fail
  refine QO.out.mono ?_
  rintro e w2 ⟨rfl, hk2⟩
  go_wp2_with fail
  have hp := Blk.new w2 58 #[.int .u64 (own.a : Int), .int .u64 (own.b : Int)]
  have hka : Keeps [] w2 (w2.alloc (.cells #[.int .u64 (own.a : Int), .int .u64 (own.b : Int)] 58)) := by simp
  have hbx := HBX.out.keeps (((Keeps.refl [] _).alloc (.cells #[.int .i64 cell] 3)).trans (hk2.trans hka (by simp)) (by simp)) (by simp)
  have HKS := Lib.hid (HK1.out.trans ((((Keeps.refl [] w1).alloc (.cells #[.int .i64 S.c.cells, .int .i64 S.c.slots, .int .i64 S.c.bits, .int .i64 S.c.tag, .int .i64 S.c.bias, .int .i64 S.c.defer] 23)).alloc (.cells #[.int .i64 cell] 3)).trans (hk2.trans hka (by simp)) (by simp)) (by simp))
  obtain ⟨p, hpe⟩ : ∃ p, w2.heap.size = p := ⟨_, rfl⟩
  obtain ⟨wS, hwS⟩ : ∃ q, w2.alloc (.cells #[.int .u64 (own.a : Int), .int .u64 (own.b : Int)] 58) = q := ⟨_, rfl⟩
  rw [hwS] at hp hbx HKS ⊢
  rw [hpe] at hp ⊢
  have HC := Lib.hid (show ∀ w', Keeps [] wS w' → w'.cell? ⟨w.heap.size, 0, none⟩ = some (.int .i64 f.slot) ∧ w'.cell? ⟨w.heap.size, 1, none⟩ = some (.int .i64 f.gen) ∧ w'.cell? ⟨w.heap.size, 2, none⟩ = some (.int .i64 f.seen) ∧ w'.cell? ⟨w.heap.size, 3, none⟩ = some (.int .u64 (f.sig.a : Int)) ∧ w'.cell? ⟨w.heap.size, 4, none⟩ = some (.int .u64 (f.sig.b : Int)) ∧ w'.cell? ⟨p, 0, none⟩ = some (.int .u64 (own.a : Int)) ∧ w'.cell? ⟨p, 1, none⟩ = some (.int .u64 (own.b : Int)) from fun w' hk => ⟨((hbx.keeps hk (by simp)).cell 0).trans rfl, ((hbx.keeps hk (by simp)).cell 1).trans rfl, ((hbx.keeps hk (by simp)).cell 2).trans rfl, ((hbx.keeps hk (by simp)).cell 3).trans rfl, ((hbx.keeps hk (by simp)).cell 4).trans rfl, ((hp.keeps hk (by simp)).cell 0).trans rfl, ((hp.keeps hk (by simp)).cell 1).trans rfl⟩)
  obtain ⟨ws, hws⟩ : ∃ l, wordsL (own.minus f.sig) = l := ⟨_, rfl⟩
  obtain ⟨bo, hbo⟩ : ∃ l, f.sig.join own = l := ⟨_, rfl⟩
  have QT : Hid (∀ w', Keeps [] wS w' → Calls Tryz.prog 167 #[.agg #[.int .u64 (f.sig.a : Int), .int .u64 (f.sig.b : Int)], .agg #[.int .u64 (own.a : Int), .int .u64 (own.b : Int)]] w' fun e w'' => ∃ v, e = .returned v ∧ w''.ownsRow wS.heap.size 3 1 v ws.length (ws.map (Value.int .i64)) ∧ Keeps [] wS w'') := fun w' hk => by
    refine (touched_any w' f.sig own HS.out HOK.out).mono ?_
    rintro e w'' ⟨v, he, h1, h2⟩
    rw [hws] at h1
    exact ⟨v, he, own_base h1 (fun q hq => Nat.le_trans hk.size (h1.lt q hq).1), hk.trans h2 (by simp)⟩
  have QJ : Hid (∀ w', Keeps [] wS w' → Calls Tryz.prog 168 #[.agg #[.int .u64 (f.sig.a : Int), .int .u64 (f.sig.b : Int)], .agg #[.int .u64 (own.a : Int), .int .u64 (own.b : Int)]] w' fun e w'' => e = .returned (.agg #[.int .u64 (bo.a : Int), .int .u64 (bo.b : Int)]) ∧ Keeps [] wS w'' ∧ Keeps [] w' w'') := fun w' hk => by
    refine (join_any w' f.sig own HS.out HOK.out).mono ?_
    rintro e w'' ⟨he, h2⟩
    rw [hbo] at he
    exact ⟨he, hk.trans h2 (by simp), h2⟩
  have hkB : Keeps [] wS wS := Keeps.refl _ _
  have HWS := Lib.hid (And.intro hws hbo)
  clear hp hbx hka hk2 hwS hpe hws hbo QO HBX HB0 x0 x1 x2 x3 x4 hqn d1 d2 d3 d4
  go_region_held3 (fun w' => w'.cell? ⟨w.heap.size, 0, none⟩ = some (.int .i64 f.slot) ∧ w'.cell? ⟨w.heap.size, 1, none⟩ = some (.int .i64 f.gen) ∧ w'.cell? ⟨w.heap.size, 2, none⟩ = some (.int .i64 f.seen) ∧ w'.cell? ⟨w.heap.size, 3, none⟩ = some (.int .u64 (f.sig.a : Int)) ∧ w'.cell? ⟨w.heap.size, 4, none⟩ = some (.int .u64 (f.sig.b : Int)) ∧ w'.cell? ⟨p, 0, none⟩ = some (.int .u64 (own.a : Int)) ∧ w'.cell? ⟨p, 1, none⟩ = some (.int .u64 (own.b : Int))) (first | with_reducible exact HC.out _ (by first | with_reducible assumption | exact Keeps.drew (by with_reducible assumption)) | go_keep) ((first
    | (go_at_call 167; refine (QT.out _ (by first | with_reducible assumption | exact Keeps.drew (by with_reducible assumption))).mono ?_; rintro e wc ⟨v, rfl, ho, hkc⟩; obtain ⟨A, cc, rfl⟩ := row_form ho; have HO := Lib.hid ho; clear ho)
    | (go_at_call 168; refine (QJ.out _ (by first | with_reducible assumption | exact Keeps.drew (by with_reducible assumption))).mono ?_; rintro e wd ⟨rfl, hkd, hkj⟩)))
  have hkd2 : Keeps [] w wd := HKS.out.trans hkd (by simp)
  have hod := own_keeps HO.out hkj (by simp)
  have hft : ∀ q, q ∈ footR wd.heap.size (.slice A ws.length cc) → w.heap.size ≤ q := fun q hq => by
    simp only [footR, List.mem_cons] at hq
    rcases hq with rfl | hq
    · exact hkd2.size
    · exact Nat.le_trans HKS.out.size (hod.lt q (by simpa [vblk] using hq)).1
  have HFT := Lib.hid hft
  have HKD := Lib.hid hkd2
  have HSL : Hid (∀ w3, Keeps [] wd w3 → SlR w3 3 1 (.slice A ws.length cc) ws.length (ws.map (Value.int .i64))) := fun w3 hk3 => SlR.of_own (own_keeps hod hk3 (by simp))
  have hn : Rd.new S.c.bits f cell = ⟨f, cell, ws, bo, if ws.length = 0 then 1 else 0, false, 0, 4⟩ := by
    unfold Rd.new
    rw [HOWN.out, HWS.out.1, HWS.out.2]
  have HN := Lib.hid hn
  clear hod hft hkd2 hn hkd hkj hkc hkB
  by_cases hl0 : 0 < ws.length
  · have hnx : Rd.new S.c.bits f cell = ⟨f, cell, ws, bo, 0, false, 0, 4⟩ := by rw [HN.out, if_neg (by omega)]
    have hq : decide (0 < ws.length) = true := decide_eq_true hl0
    go_wp2_with fail
    refine bodyPost_ret (v := .tuple #[PT wd.heap.size, .int .i64 0]) (by simp [results, Tryz.results76, go_sem]) rfl ⟨wd.heap.size, footR wd.heap.size (.slice A ws.length cc), rfl, ?_, HFT.out, ?_⟩
    · rw [hnx]
      refine ⟨⟨_, ⟨?_, HSL.out _ ((Keeps.refl [] wd).alloc _)⟩, rfl⟩, fun q hq => Nat.le_trans HH.out.keep.size (HFT.out q hq), fun q hq => HH.out.fresh (HFT.out q hq)⟩
      exact Blk.new wd 289 #[PT z.p, .int .i64 f.slot, .int .i64 f.gen, .int .i64 f.seen, .int .u64 (f.sig.a : Int), .int .u64 (f.sig.b : Int), .int .i64 cell, .slice A ws.length cc, .int .u64 (bo.a : Int), .int .u64 (bo.b : Int), .func (.func 170) #[PT wd.heap.size] #[], .bool false, .int .i64 0, .int .i64 4]
    · exact HKD.out.trans ((Keeps.refl [] wd).alloc _) (by simp)
  · have hnx : Rd.new S.c.bits f cell = ⟨f, cell, ws, bo, 1, false, 0, 4⟩ := by rw [HN.out, if_pos (by omega)]
    have hq : decide (0 < ws.length) = false := decide_eq_false hl0
    go_wp2_with fail
    refine bodyPost_ret (v := .tuple #[PT wd.heap.size, .int .i64 0]) (by simp [results, Tryz.results76, go_sem]) rfl ⟨wd.heap.size, footR wd.heap.size (.slice A ws.length cc), rfl, ?_, HFT.out, ?_⟩
    · rw [hnx]
      refine ⟨⟨_, ⟨?_, HSL.out _ ((Keeps.refl [] wd).alloc _)⟩, rfl⟩, fun q hq => Nat.le_trans HH.out.keep.size (HFT.out q hq), fun q hq => HH.out.fresh (HFT.out q hq)⟩
      exact Blk.new wd 289 #[PT z.p, .int .i64 f.slot, .int .i64 f.gen, .int .i64 f.seen, .int .u64 (f.sig.a : Int), .int .u64 (f.sig.b : Int), .int .i64 cell, .slice A ws.length cc, .int .u64 (bo.a : Int), .int .u64 (bo.b : Int), .func (.func 169) #[PT wd.heap.size] #[], .bool false, .int .i64 0, .int .i64 4]
    · exact HKD.out.trans ((Keeps.refl [] wd).alloc _) (by simp)
set_option maxRecDepth 100000 in
set_option maxHeartbeats 8000000 in
theorem read_new_bad (h : SP w0 w z F S) (f : Fr) (cell : Int) (c0 : 0 ≤ cell) (c1 : cell < S.c.cells) (s0 : 0 ≤ f.slot) (s1 : S.c.slots ≤ f.slot) : Calls Tryz.prog 76 #[PT z.p, f.val, .int .i64 cell] w fun e w' => e = .returned (.tuple #[.pointer none, .int .i64 2]) ∧ Keeps [] w w' := by
  unfold Fr.val Fr.cells
  have hb0 := Blk.new w 171 #[.int .i64 f.slot, .int .i64 f.gen, .int .i64 f.seen, .int .u64 (f.sig.a : Int), .int .u64 (f.sig.b : Int)]
  have hk0 : Keeps [] w (w.alloc (.cells #[.int .i64 f.slot, .int .i64 f.gen, .int .i64 f.seen, .int .u64 (f.sig.a : Int), .int .u64 (f.sig.b : Int)] 171)) := by simp
  have h0 := h.calm hk0
  have QC := Lib.hid (sp_config h0)
  have HB0 := Lib.hid hb0
  have HK0 := Lib.hid hk0
  have HH := Lib.hid h
  have d1 : decide (cell < 0) = false := decide_eq_false (by omega)
  have d2 : decide (S.c.cells ≤ cell) = false := decide_eq_false (by omega)
  have d3 : decide (f.slot < 0) = false := decide_eq_false (by omega)
  have d4 : decide (S.c.slots ≤ f.slot) = true := decide_eq_true s1
  clear hb0 hk0 h h0 c0 c1 s0 s1
  go_enter Tryz.func76, Tryz.ntmps76
  go_wp2_with fail
  refine QC.out.mono ?_
  rintro e w1 ⟨rfl, hk⟩
  have hka : Keeps [] w1 (w1.alloc (.cells #[.int .i64 S.c.cells, .int .i64 S.c.slots, .int .i64 S.c.bits, .int .i64 S.c.tag, .int .i64 S.c.bias, .int .i64 S.c.defer] 23)) := by simp
  have hbx := (HB0.out.keeps hk (by simp)).keeps hka (by simp)
  have hql := (HB0.out.keeps hk (by simp)).lt
  have hqn : w.heap.size ≠ w1.heap.size := by omega
  obtain ⟨x0, x1, x2, x3, x4⟩ := And.intro ((hbx.cell 0).trans rfl : _ = some (.int .i64 f.slot)) (And.intro ((hbx.cell 1).trans rfl : _ = some (.int .i64 f.gen)) (And.intro ((hbx.cell 2).trans rfl : _ = some (.int .i64 f.seen)) (And.intro ((hbx.cell 3).trans rfl : _ = some (.int .u64 (f.sig.a : Int))) ((hbx.cell 4).trans rfl : _ = some (.int .u64 (f.sig.b : Int))))))
  go_wp2_with fail
  refine bodyPost_ret (v := .tuple #[.pointer none, .int .i64 2]) (by simp [results, Tryz.results76, go_sem]) rfl ⟨rfl, ?_⟩
  exact HK0.out.trans (hk.trans hka (by simp)) (by simp)
end
end Go.Proofs.YtdhgiohjdhcedaaGreat
