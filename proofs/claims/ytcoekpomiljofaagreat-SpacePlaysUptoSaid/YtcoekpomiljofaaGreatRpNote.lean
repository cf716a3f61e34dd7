/- The document's space: Note, Fill, Told. -/
import Derived.Test.YtcoekpomiljofaaGreatRp
import Derived.Test.YtcoekpomiljofaaGreatLocal
import Derived.Deep.AppendLies
import Derived.Deep.RegionLaw
import Derived.BigQuiet
namespace Go.Proofs.YtcoekpomiljofaaGreat
open Go.RowKit
set_option linter.unusedVariables false
attribute [local go_sem ↓] Go.wp_at_zero Go.wp_at_succ
namespace Rpn
section
variable {w0 w w' w'' : World} {z : Rb} {F : List Nat} {S S' : Sp} {k : Nat}
theorem ev_close {w2 w3 : World} {lb g1 cap : Nat} {sv : Value} {u : Ev} {o : Obj} (hs : RpAt w2 z lb sv S) (hb : Blk w3 z.p 109 (rpVals z S.c sv))
    (hown : w3.ownsRow 0 98 10 (.slice (some ⟨g1, 0, none⟩) (S.ev.length + 1) cap) (S.ev.length + 1) (evCells S.ev ++ u.cells)) (hg : (w2.alloc o).drew.grownBy w3 sv.ownBlock)
    (hat : sv.ownBlock = some g1 ∨ g1 = (w2.alloc o).drew.heap.size) :
    RpWent w2 (w3.setCell ⟨z.p, 10, none⟩ (.slice (some ⟨g1, 0, none⟩) (S.ev.length + 1) cap)) z lb sv { S with ev := S.ev ++ [u] } := by
  have hne : z.p ≠ g1 := fun e => own_blk_ne hown hb (by decide) (by simp [Value.ownBlock, e])
  have k0 : Keeps (z.p :: sv.ownBlock.toList) w2 (w3.setCell ⟨z.p, 10, none⟩ (.slice (some ⟨g1, 0, none⟩) (S.ev.length + 1) cap)) :=
    (((((Keeps.refl _ w2).alloc o).drew).grown hg (fun q hq => .inl (by simp [hq]))).setCell (.inl (by simp)) _)
  have hX : InT w2 (z.p :: sv.ownBlock.toList) [109, 98] := InT.cons hs.blk.tyOf (fun x hx => ⟨_, by simp, own_tyOf hs.ev (by simpa using hx)⟩)
  refine ⟨lb, .slice (some ⟨g1, 0, none⟩) (S.ev.length + 1) cap, ⟨?_, hs.met_keeps hX k0 (by decide) (by decide), hs.row_keeps hX k0 (by decide) (by decide), hs.gate_keeps hX k0 (by decide), hs.tab_keeps hX k0 (by decide) (by decide), ?_⟩, footY_sub (fun x hx => by simp at hx; rcases hx with h | h <;> simp [h]) k0, .inl rfl, ?_⟩
  · have := hb.set_ 10 (.slice (some ⟨g1, 0, none⟩) (S.ev.length + 1) cap)
    simpa [rpVals] using this
  · have := own_keeps hown (S := [z.p]) ((Keeps.refl [z.p] w3).setCell (p := ⟨z.p, 10, none⟩) (.inl (by simp)) (.slice (some ⟨g1, 0, none⟩) (S.ev.length + 1) cap)) (by simp [Value.ownBlock, Ne.symm hne])
    simpa [evCells] using this
  · intro q hq
    simp [Value.ownBlock] at hq
    subst hq
    rcases hat with h | h
    · exact .inl h
    · right
      rw [h]
      simp only [World.size_drew, World.size_alloc]
      omega
theorem RWent.pre' {w1 : World} (hk : Keeps [] w w1) (h : RWent w0 w1 w' z F S') : RWent w0 w w' z F S' := by
  obtain ⟨F', h1, h2, h3⟩ := h
  refine ⟨F', h1, (hk.mono (T := F) (by simp)).trans h2 (fun x hx => .inl hx), fun x hx => ?_⟩
  have := hk.size
  rcases h3 x hx with h4 | h4
  · exact .inl h4
  · exact .inr (by omega)
set_option maxRecDepth 100000 in
set_option maxHeartbeats 8000000 in
theorem rp_note (h : RP w0 w z F S) (hf : Fit k S) (hk : k ≤ 1099511627776) (v : Ev) : Calls Tryz.prog 99 #[PT z.p, .agg #[.int .i64 v.kind, .int .i64 v.step, .int .i64 v.thread, .int .i64 v.stamp, .int .i64 v.cell, .int .i64 v.x, .bool v.mine, .int .i64 v.gate, .int .i64 v.e, .int .i64 v.who]] w fun e w' => e = .returned (.tuple #[]) ∧ RWent w0 w w' z F (S.note v) := by
  obtain ⟨lb0, sv0, hs0, hF0⟩ := h.ex
  have c6 : w.cell? ⟨z.p, 6, none⟩ = some (PT z.m) := (hs0.blk.cell 6).trans rfl
  obtain ⟨mv, hm⟩ := hs0.met
  have cm : w.cell? ⟨z.m, 0, none⟩ = some (.int .i64 S.met.steps) := (hm.blk.cell 0).trans rfl
  have hpl := hs0.blk.lt
  have hml := hm.blk.lt
  have hpz : z.p ≠ w.heap.size := by omega
  have hmz : z.m ≠ w.heap.size := by omega
  have HEV := Lib.hid hf.ev
  have HH := Lib.hid h
  clear h hf hs0 hF0 hm
  go_enter Tryz.func99, Tryz.ntmps99
  go_wp2_with fail
  clear c6 cm hpl hml hpz hmz
  have hk2 : Keeps [] w (w.alloc (.cells #[.int .i64 v.kind, .int .i64 S.met.steps, .int .i64 v.thread, .int .i64 v.stamp, .int .i64 v.cell, .int .i64 v.x, .bool v.mine, .int .i64 v.gate, .int .i64 v.e, .int .i64 v.who] 98)) := by simp
  have H2 := Lib.hid (HH.out.calm hk2)
  have hb2 : Blk (w.alloc (.cells #[.int .i64 v.kind, .int .i64 S.met.steps, .int .i64 v.thread, .int .i64 v.stamp, .int .i64 v.cell, .int .i64 v.x, .bool v.mine, .int .i64 v.gate, .int .i64 v.e, .int .i64 v.who] 98)) w.heap.size 98 (v.at_ S.met.steps).vals := Blk.new w _ _
  obtain ⟨w2, hw2⟩ : ∃ w2, w.alloc (.cells #[.int .i64 v.kind, .int .i64 S.met.steps, .int .i64 v.thread, .int .i64 v.stamp, .int .i64 v.cell, .int .i64 v.x, .bool v.mine, .int .i64 v.gate, .int .i64 v.e, .int .i64 v.who] 98) = w2 := ⟨_, rfl⟩
  have hz2 : Hid (w2.heap.size = w.heap.size + 1) := by unfold Hid; rw [← hw2]; simp
  rw [hw2] at H2 hb2 hk2 ⊢
  clear hw2
  obtain ⟨u, hu⟩ : ∃ u, v.at_ S.met.steps = u := ⟨_, rfl⟩
  rw [hu] at hb2
  have HU := Lib.hid hu
  obtain ⟨e0, e1, e2, e3, e4, e5, e6, e7, e8, e9⟩ := ev_cells hb2
  obtain ⟨q, hq⟩ : ∃ q, w.heap.size = q := ⟨_, rfl⟩
  have HQ := Lib.hid hq
  rw [hq] at e0 e1 e2 e3 e4 e5 e6 e7 e8 e9 ⊢
  obtain ⟨lb, sv, hs, hF⟩ := H2.out.ex
  have HSA := Lib.hid hs
  have c10 : w2.cell? ⟨z.p, 10, none⟩ = some sv := (hs.blk.cell 10).trans rfl
  have f10 := hs.blk.frozen 10
  have hplt := hs.blk.lt
  have hpne : z.p ≠ w2.heap.size := by omega
  have HO := Lib.hid hs.ev
  have HF := Lib.hid hF
  have HK2 := Lib.hid hk2
  clear hs hF hk2 hb2 hu hq
  obtain ⟨i0, hi, hz0, hz1, hz3⟩ := info_parts Tryz.infoEv
  have hmx : S.ev.length + 1 ≤ maxLen := by have := HEV.out; unfold maxLen; omega
  have hby : (S.ev.length + 1) * 80 ≤ 140737488355328 := by have := HEV.out; omega
  have HMX := Lib.hid hmx
  have HBY := Lib.hid hby
  have hpe : Hid (98 ≠ (109 : TypeId)) := by unfold Hid; decide
  clear hmx hby
  go_region_law (refine step_append_lies _ rfl (.tmp 16) (.tmp 18) 73 rfl 0 98 i0 _ 10 80 Tryz.underlying73 hi hz0 hz1 hz3 rfl (by decide) sv S.ev.length (evCells S.ev) rfl (own_ev HO.out) ⟨w2.heap.size, 0, none⟩ 1 1 (Ev.cells u) rfl rfl (by exact World.news_of_block (new_at _ _ _ (by simp))) (by simp [Ev.cells, Value.oneCell']) (by decide) HMX.out HBY.out (Nat.zero_le _) _ rfl ?_; intro g1 cap w3 hown hgrow hat hlt; have hb3 := grown_ev HO.out HSA.out.blk hpe.out hgrow; have d10 : w3.cell? ⟨z.p, 10, none⟩ = some sv := (hb3.cell 10).trans rfl; have f3 := hb3.frozen 10; have HB3 := Lib.hid hb3; clear hb3)
  all_goals
    go_wp2_with fail
    go_end0
    have hq := ev_close HSA.out HB3.out hown hgrow hat
    rw [← HU.out] at hq
    exact ⟨rfl, RWent.pre' HK2.out (H2.out.went HF.out hq)⟩
theorem rp_fill (h : RP w0 w z F S) (A : Option Addr) (xs : List Int) (c : Nat) (hA : Slc w A xs) (hne : 0 < xs.length → ∀ ad, A = some ad → ad.block ≠ z.b) :
    Calls Tryz.prog 88 #[PT z.r, .slice A xs.length c] w fun e w' => e = .returned (.int .i64 (S.fill xs).1) ∧ RWent w0 w w' z F (S.fill xs).2 := by
  obtain ⟨lb, v, hs, hF⟩ := h.ex
  unfold Sp.fill
  by_cases hn : xs.length ≤ S.cells.length
  · rw [if_pos hn]
    exact (RefI.fill_ok w z.r z.b 1 (some z.m) S.cells hs.row A c xs hA hne hn).mono fun e w' ⟨he, h1, h2⟩ => ⟨he, h.went hF (hs.filled h1 h2)⟩
  · rw [if_neg hn]
    exact (RefI.fill_many w z.r z.b 1 (some z.m) S.cells hs.row A xs.length c (by omega) hA.1).mono fun e w' ⟨he, h1⟩ => ⟨he, h.stay (h1 ▸ Keeps.refl _ _)⟩
theorem own_form' {w : World} {base n : Nat} {t : TypeId} {size : Nat} {v : Value} {xs : List Value} (h : w.ownsRow base t size v n xs) : ∃ A c, v = .slice A n c := by
  rcases h.2 with ⟨rfl, h0⟩ | ⟨g, cap, cur, rfl, _⟩
  · exact ⟨none, 0, by rw [h0]⟩
  · exact ⟨_, _, rfl⟩
theorem evCells_at : ∀ (l : List Ev) (i : Nat) (p : Ev), l[i]? = some p → ∀ j u, p.cells[j]? = some u → (evCells l)[i * 10 + j]? = some u
  | [], i, p, h, _, _, _ => by simp at h
  | x :: l, 0, p, h, j, u, hu => by
    simp at h
    subst h
    have hj : j < 10 := by have := (List.getElem?_eq_some_iff.1 hu).1; simpa [Ev.cells] using this
    have e : evCells (x :: l) = x.cells ++ evCells l := rfl
    rw [e, Nat.zero_mul, Nat.zero_add, List.getElem?_append_left (by simpa [Ev.cells] using hj)]
    exact hu
  | x :: l, i + 1, p, h, j, u, hu => by
    have ih := evCells_at l i p (by simpa using h) j u hu
    have e : evCells (x :: l) = x.cells ++ evCells l := rfl
    rw [e, List.getElem?_append_right (by simp [Ev.cells]; omega)]
    have e2 : (i + 1) * 10 + j - x.cells.length = i * 10 + j := by simp [Ev.cells]; omega
    rw [e2]
    exact ih
set_option maxHeartbeats 4000000 in
theorem told_yes (h : RP w0 w z F S) (hf : Fit k S) (hk : k ≤ 1099511627776) {base : Nat} {A : Option Addr} {c : Nat} (hr : w.ownsRow base 98 10 (.slice A S.ev.length c) S.ev.length (evCells S.ev)) :
    Calls Tryz.prog 42 #[PT z.p, .slice A S.ev.length c] w fun e w' => e = .returned (.bool true) ∧ Keeps [] w w' := by
  obtain ⟨lb, sv, hs, _⟩ := h.ex
  have hrow := hs.ev
  have hb := hs.blk
  have hev := hf.ev
  obtain ⟨l, hl⟩ : ∃ q, S.ev = q := ⟨_, rfl⟩
  rw [hl] at hr hrow hev ⊢
  obtain ⟨n, hn⟩ : ∃ q, l.length = q := ⟨_, rfl⟩
  rw [hn] at hr hrow hev ⊢
  have c10 : w.cell? ⟨z.p, 10, none⟩ = some sv := (hb.cell 10).trans rfl
  obtain ⟨A2, c2, rfl⟩ := own_form' hrow
  have HR := Lib.hid (And.intro hr (And.intro hrow hn))
  have HB := Lib.hid hb
  clear h hf hr hrow hs hb hl hn
  go_enter Tryz.func42, Tryz.ntmps42
  go_wp2_with fail
  go_loopw [5] (fun i wr => ∃ k : Nat, k ≤ n ∧ i = .int .i64 k ∧ Keeps [] w wr) (fun i _ => n - (intOf i).toNat)
  case atStart => exact ⟨0, Nat.zero_le _, rfl, Keeps.refl _ _⟩
  case round =>
    obtain ⟨k, hk, rfl, hkr⟩ := hrel
    have HK := Lib.hid hkr
    clear hkr c10
    have k0 : (0 : Int) ≤ (k : Int) := by omega
    have hwi : IntKind.i64.wrap ((k : Int) + 1) = (k : Int) + 1 := by rw [IntKind.wrap_i64]; omega
    by_cases hlt : k < n
    · have k1 : (k : Int) < (n : Int) := by omega
      obtain ⟨y, hy⟩ : ∃ y, l[k]? = some y := ⟨_, List.getElem?_eq_getElem (by have := HR.out.2.2; omega)⟩
      have c10 : wr.cell? ⟨z.p, 10, none⟩ = some (.slice A2 n c2) := ((HB.out.keeps HK.out (by simp)).cell 10).trans rfl
      have HX := Lib.hid (own_keeps HR.out.1 HK.out (by simp))
      have HY := Lib.hid (own_keeps HR.out.2.1 HK.out (by simp))
      obtain ⟨a, rfl⟩ : ∃ a : Nat, A = some ⟨a, 0, none⟩ := by
        obtain ⟨g, cc, e, _⟩ := HX.out.form (by omega)
        injection e with e
        exact ⟨g, e⟩
      obtain ⟨b, rfl⟩ : ∃ b : Nat, A2 = some ⟨b, 0, none⟩ := by
        obtain ⟨g, cc, e, _⟩ := HY.out.form (by omega)
        injection e with e
        exact ⟨g, e⟩
      have x0 : wr.cell? ⟨a, k * 10, none⟩ = some (.int .i64 y.kind) := (World.ownsRow.cellAt HX.out (k * 10 + 0) (by omega)).trans (evCells_at _ k y hy 0 _ rfl)
      have y0 : wr.cell? ⟨b, k * 10, none⟩ = some (.int .i64 y.kind) := (World.ownsRow.cellAt HY.out (k * 10 + 0) (by omega)).trans (evCells_at _ k y hy 0 _ rfl)
      have x1 : wr.cell? ⟨a, k * 10 + 1, none⟩ = some (.int .i64 y.step) := (World.ownsRow.cellAt HX.out (k * 10 + 1) (by omega)).trans (evCells_at _ k y hy 1 _ rfl)
      have y1 : wr.cell? ⟨b, k * 10 + 1, none⟩ = some (.int .i64 y.step) := (World.ownsRow.cellAt HY.out (k * 10 + 1) (by omega)).trans (evCells_at _ k y hy 1 _ rfl)
      have x2 : wr.cell? ⟨a, k * 10 + 2, none⟩ = some (.int .i64 y.thread) := (World.ownsRow.cellAt HX.out (k * 10 + 2) (by omega)).trans (evCells_at _ k y hy 2 _ rfl)
      have y2 : wr.cell? ⟨b, k * 10 + 2, none⟩ = some (.int .i64 y.thread) := (World.ownsRow.cellAt HY.out (k * 10 + 2) (by omega)).trans (evCells_at _ k y hy 2 _ rfl)
      have x3 : wr.cell? ⟨a, k * 10 + 3, none⟩ = some (.int .i64 y.stamp) := (World.ownsRow.cellAt HX.out (k * 10 + 3) (by omega)).trans (evCells_at _ k y hy 3 _ rfl)
      have y3 : wr.cell? ⟨b, k * 10 + 3, none⟩ = some (.int .i64 y.stamp) := (World.ownsRow.cellAt HY.out (k * 10 + 3) (by omega)).trans (evCells_at _ k y hy 3 _ rfl)
      have x4 : wr.cell? ⟨a, k * 10 + 4, none⟩ = some (.int .i64 y.cell) := (World.ownsRow.cellAt HX.out (k * 10 + 4) (by omega)).trans (evCells_at _ k y hy 4 _ rfl)
      have y4 : wr.cell? ⟨b, k * 10 + 4, none⟩ = some (.int .i64 y.cell) := (World.ownsRow.cellAt HY.out (k * 10 + 4) (by omega)).trans (evCells_at _ k y hy 4 _ rfl)
      have x5 : wr.cell? ⟨a, k * 10 + 5, none⟩ = some (.int .i64 y.x) := (World.ownsRow.cellAt HX.out (k * 10 + 5) (by omega)).trans (evCells_at _ k y hy 5 _ rfl)
      have y5 : wr.cell? ⟨b, k * 10 + 5, none⟩ = some (.int .i64 y.x) := (World.ownsRow.cellAt HY.out (k * 10 + 5) (by omega)).trans (evCells_at _ k y hy 5 _ rfl)
      have x6 : wr.cell? ⟨a, k * 10 + 6, none⟩ = some (.bool y.mine) := (World.ownsRow.cellAt HX.out (k * 10 + 6) (by omega)).trans (evCells_at _ k y hy 6 _ rfl)
      have y6 : wr.cell? ⟨b, k * 10 + 6, none⟩ = some (.bool y.mine) := (World.ownsRow.cellAt HY.out (k * 10 + 6) (by omega)).trans (evCells_at _ k y hy 6 _ rfl)
      have x7 : wr.cell? ⟨a, k * 10 + 7, none⟩ = some (.int .i64 y.gate) := (World.ownsRow.cellAt HX.out (k * 10 + 7) (by omega)).trans (evCells_at _ k y hy 7 _ rfl)
      have y7 : wr.cell? ⟨b, k * 10 + 7, none⟩ = some (.int .i64 y.gate) := (World.ownsRow.cellAt HY.out (k * 10 + 7) (by omega)).trans (evCells_at _ k y hy 7 _ rfl)
      have x8 : wr.cell? ⟨a, k * 10 + 8, none⟩ = some (.int .i64 y.e) := (World.ownsRow.cellAt HX.out (k * 10 + 8) (by omega)).trans (evCells_at _ k y hy 8 _ rfl)
      have y8 : wr.cell? ⟨b, k * 10 + 8, none⟩ = some (.int .i64 y.e) := (World.ownsRow.cellAt HY.out (k * 10 + 8) (by omega)).trans (evCells_at _ k y hy 8 _ rfl)
      have x9 : wr.cell? ⟨a, k * 10 + 9, none⟩ = some (.int .i64 y.who) := (World.ownsRow.cellAt HX.out (k * 10 + 9) (by omega)).trans (evCells_at _ k y hy 9 _ rfl)
      have y9 : wr.cell? ⟨b, k * 10 + 9, none⟩ = some (.int .i64 y.who) := (World.ownsRow.cellAt HY.out (k * 10 + 9) (by omega)).trans (evCells_at _ k y hy 9 _ rfl)
      have he : ∀ w, (Op.equalIn 10000 98 (.agg #[.int .i64 y.kind, .int .i64 y.step, .int .i64 y.thread, .int .i64 y.stamp, .int .i64 y.cell, .int .i64 y.x, .bool y.mine, .int .i64 y.gate, .int .i64 y.e, .int .i64 y.who]) (.agg #[.int .i64 y.kind, .int .i64 y.step, .int .i64 y.thread, .int .i64 y.stamp, .int .i64 y.cell, .int .i64 y.x, .bool y.mine, .int .i64 y.gate, .int .i64 y.e, .int .i64 y.who])).run Tryz.prog w = .ok true w := fun w => by simp [go_sem]
      clear hy HX HY
      go_wp2_with fail
      go_quiet (fail)
      go_wp2_with fail
      exact ⟨⟨k + 1, by omega, by simp, HK.out.trans ((Keeps.refl [] _).drewN _) (by simp)⟩, by simp [intOf]; omega⟩
    · have hge : ¬ ((k : Int) < (n : Int)) := by omega
      go_wp2_with fail
      go_ret
      exact ⟨rfl, HK.out⟩
end
end Rpn
end Go.Proofs.YtcoekpomiljofaaGreat
