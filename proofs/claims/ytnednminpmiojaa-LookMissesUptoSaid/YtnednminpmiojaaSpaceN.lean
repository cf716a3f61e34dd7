/- Layer 8: Note, Events. -/
import Derived.Test.YtnednminpmiojaaSpaceV
import Derived.Deep.AppendLies
import Derived.Deep.RegionLaw
namespace Go.Proofs.Ytnednminpmiojaa
open Go.RowKit
set_option linter.unusedVariables false
attribute [local go_sem ↓] Go.wp_at_zero Go.wp_at_succ
theorem Try.infoEv : (Try.prog.info? 27).map (fun i => (i.zero, i.size, i.bytes)) = some (some (.agg #[.int .i64 0, .int .i64 0, .int .i64 0, .int .i64 0, .int .i64 0, .int .i64 0, .bool false, .int .i64 0, .int .i64 0, .int .i64 0]), 10, 80) := by kernel_rfl
def Ev.vals (v : Ev) : Array Value := #[.int .i64 v.kind, .int .i64 v.step, .int .i64 v.thread, .int .i64 v.stamp, .int .i64 v.cell, .int .i64 v.x, .bool v.mine, .int .i64 v.gate, .int .i64 v.e, .int .i64 v.who]
theorem ev_cells {w : World} {z : Nat} {v : Ev} (h : Blk w z 27 v.vals) : w.cell? ⟨z, 0, none⟩ = some (.int .i64 v.kind) ∧ w.cell? ⟨z, 1, none⟩ = some (.int .i64 v.step) ∧ w.cell? ⟨z, 2, none⟩ = some (.int .i64 v.thread) ∧ w.cell? ⟨z, 3, none⟩ = some (.int .i64 v.stamp) ∧ w.cell? ⟨z, 4, none⟩ = some (.int .i64 v.cell) ∧ w.cell? ⟨z, 5, none⟩ = some (.int .i64 v.x) ∧ w.cell? ⟨z, 6, none⟩ = some (.bool v.mine) ∧ w.cell? ⟨z, 7, none⟩ = some (.int .i64 v.gate) ∧ w.cell? ⟨z, 8, none⟩ = some (.int .i64 v.e) ∧ w.cell? ⟨z, 9, none⟩ = some (.int .i64 v.who) :=
  ⟨(h.cell 0).trans rfl, (h.cell 1).trans rfl, (h.cell 2).trans rfl, (h.cell 3).trans rfl, (h.cell 4).trans rfl, (h.cell 5).trans rfl, (h.cell 6).trans rfl, (h.cell 7).trans rfl, (h.cell 8).trans rfl, (h.cell 9).trans rfl⟩
theorem ev_one (l : List Ev) : ∀ u ∈ evCells l, u.oneCell' = true := by
  intro u hu
  simp only [evCells, List.mem_flatMap] at hu
  obtain ⟨x, _, hx⟩ := hu
  simp only [Ev.cells, List.mem_cons, List.not_mem_nil, or_false] at hx
  rcases hx with rfl | rfl | rfl | rfl | rfl | rfl | rfl | rfl | rfl | rfl <;> rfl
section
variable {w0 w w' w'' : World} {z : Sb} {F : List Nat} {S S' : Sp} {k : Nat}
theorem own_ev {w : World} {v : Value} {n : Nat} {xs : List Value} {o : Obj} (h : w.ownsRow 0 27 10 v n xs) : (w.alloc o).drew.ownsRow 0 27 10 v n xs := own_keeps h (S := []) (((Keeps.refl [] w).alloc _).drew) (by simp)
theorem grown_ev {w w1 : World} {v : Value} {n : Nat} {xs : List Value} {o : Obj} {g : Nat} {t : TypeId} {cs : Array Value} (h : w.ownsRow 0 27 10 v n xs) (hb : Blk w g t cs) (hne : 27 ≠ t) (hg : (w.alloc o).drew.grownBy w1 v.ownBlock) : Blk w1 g t cs :=
  (((hb.alloc o).drew).grown hg (fun e => own_blk_ne h hb hne e.symm))
theorem ev_close {w2 w3 : World} {lb g1 cap : Nat} {sv : Value} {u : Ev} {o : Obj} (hs : SpAt w2 z lb sv S) (hb : Blk w3 z.p 52 (spVals z S.c sv))
    (hown : w3.ownsRow 0 27 10 (.slice (some ⟨g1, 0, none⟩) (S.ev.length + 1) cap) (S.ev.length + 1) (evCells S.ev ++ u.cells)) (hg : (w2.alloc o).drew.grownBy w3 sv.ownBlock)
    (hat : sv.ownBlock = some g1 ∨ g1 = (w2.alloc o).drew.heap.size) :
    SpWent w2 (w3.setCell ⟨z.p, 10, none⟩ (.slice (some ⟨g1, 0, none⟩) (S.ev.length + 1) cap)) z lb sv { S with ev := S.ev ++ [u] } := by
  have hne : z.p ≠ g1 := fun e => own_blk_ne hown hb (by decide) (by simp [Value.ownBlock, e])
  have k0 : Keeps (z.p :: sv.ownBlock.toList) w2 (w3.setCell ⟨z.p, 10, none⟩ (.slice (some ⟨g1, 0, none⟩) (S.ev.length + 1) cap)) :=
    (((((Keeps.refl _ w2).alloc o).drew).grown hg (fun q hq => .inl (by simp [hq]))).setCell (.inl (by simp)) _)
  have hX : InT w2 (z.p :: sv.ownBlock.toList) [52, 27] := InT.cons hs.blk.tyOf (fun x hx => ⟨_, by simp, own_tyOf hs.ev (by simpa using hx)⟩)
  refine ⟨lb, .slice (some ⟨g1, 0, none⟩) (S.ev.length + 1) cap, ⟨?_, hs.met_keeps hX k0 (by decide) (by decide), hs.row_keeps hX k0 (by decide) (by decide), hs.gate_keeps hX k0 (by decide) (by decide) (by decide), hs.tab_keeps hX k0 (by decide) (by decide) (by decide) (by decide) (by decide), ?_⟩, foot_sub (fun x hx => by simp at hx; rcases hx with h | h <;> simp [h]) k0, .inl rfl, ?_⟩
  · have := hb.set_ 10 (.slice (some ⟨g1, 0, none⟩) (S.ev.length + 1) cap)
    simpa [spVals] using this
  · have := own_keeps hown (S := [z.p]) ((Keeps.refl [z.p] w3).setCell (p := ⟨z.p, 10, none⟩) (.inl (by simp)) (.slice (some ⟨g1, 0, none⟩) (S.ev.length + 1) cap)) (by simp [Value.ownBlock, Ne.symm hne])
    simpa [evCells] using this
  · intro q hq
    simp [Value.ownBlock] at hq
    subst hq
    rcases hat with h | h
    · exact .inl h
    · right
      rw [h]
      simp only [World.size_drew, World.size_alloc]
      omega
theorem Went.pre {w1 : World} (hk : Keeps [] w w1) (h : Went w0 w1 w' z F S') : Went w0 w w' z F S' := by
  obtain ⟨F', h1, h2, h3⟩ := h
  refine ⟨F', h1, (hk.mono (T := F) (by simp)).trans h2 (fun x hx => .inl hx), fun x hx => ?_⟩
  have := hk.size
  rcases h3 x hx with h4 | h4
  · exact .inl h4
  · exact .inr (by omega)
set_option maxRecDepth 100000 in
set_option maxHeartbeats 8000000 in
theorem sp_note (h : SP w0 w z F S) (hf : Fit k S) (hk : k ≤ 1099511627776) (v : Ev) : Calls Try.prog 16 #[PT z.p, .agg #[.int .i64 v.kind, .int .i64 v.step, .int .i64 v.thread, .int .i64 v.stamp, .int .i64 v.cell, .int .i64 v.x, .bool v.mine, .int .i64 v.gate, .int .i64 v.e, .int .i64 v.who]] w fun e w' => e = .returned (.tuple #[]) ∧ Went w0 w w' z F (S.note v) := by
  have hk1 : Keeps [] w (w.alloc (.cells v.vals 27)) := by simp
  have H1 := Lib.hid (h.calm hk1)
  have HB1 := Lib.hid (Blk.new w 27 v.vals)
  obtain ⟨w1, hw1⟩ : ∃ w1, w.alloc (.cells v.vals 27) = w1 := ⟨_, rfl⟩
  have HW1 := Lib.hid hw1
  have f1 := HB1.out.frozen 1
  have c1 := (ev_cells HB1.out).2.1
  rw [hw1] at H1 HB1 hk1
  have HL := Lib.hid h.lt
  have HLo := Lib.hid h.low
  have HS := Lib.hid (show w0.heap.size ≤ w.heap.size from h.keep.size)
  have HEV := Lib.hid hf.ev
  have HH := Lib.hid h
  clear h hf hw1
  unfold Ev.vals at c1 f1
  go_enter Try.func16, Try.ntmps16
  go_wp2_with fail
  have hq : Calls Try.prog 23 #[PT z.p] w1 fun e w' => e = .returned (.int .i64 S.met.steps) ∧ w1 = w' := sp_step H1.out
  rw [← HW1.out] at hq
  unfold Ev.vals at hq
  refine hq.mono ?_
  rintro e wq ⟨rfl, rfl⟩
  clear hq
  go_wp2_with fail
  clear HW1 f1 c1 H1 HB1 hk1 w1
  have hk2 : Keeps [] w (w.alloc (.cells #[.int .i64 v.kind, .int .i64 S.met.steps, .int .i64 v.thread, .int .i64 v.stamp, .int .i64 v.cell, .int .i64 v.x, .bool v.mine, .int .i64 v.gate, .int .i64 v.e, .int .i64 v.who] 27)) := by simp
  have H2 := Lib.hid (HH.out.calm hk2)
  have hb2 : Blk (w.alloc (.cells #[.int .i64 v.kind, .int .i64 S.met.steps, .int .i64 v.thread, .int .i64 v.stamp, .int .i64 v.cell, .int .i64 v.x, .bool v.mine, .int .i64 v.gate, .int .i64 v.e, .int .i64 v.who] 27)) w.heap.size 27 (v.at_ S.met.steps).vals := Blk.new w _ _
  obtain ⟨w2, hw2⟩ : ∃ w2, w.alloc (.cells #[.int .i64 v.kind, .int .i64 S.met.steps, .int .i64 v.thread, .int .i64 v.stamp, .int .i64 v.cell, .int .i64 v.x, .bool v.mine, .int .i64 v.gate, .int .i64 v.e, .int .i64 v.who] 27) = w2 := ⟨_, rfl⟩
  have hz2 : Hid (w2.heap.size = w.heap.size + 1) := by unfold Hid; rw [← hw2]; simp
  rw [hw2] at H2 hb2 hk2 ⊢
  clear hw2
  obtain ⟨u, hu⟩ : ∃ u, v.at_ S.met.steps = u := ⟨_, rfl⟩
  rw [hu] at hb2
  have HU := Lib.hid hu
  obtain ⟨e0, e1, e2, e3, e4, e5, e6, e7, e8, e9⟩ := ev_cells hb2
  obtain ⟨q, hq⟩ : ∃ q, w.heap.size = q := ⟨_, rfl⟩
  have HQ := Lib.hid hq
  rw [hq] at e0 e1 e2 e3 e4 e5 e6 e7 e8 e9 ⊢
  obtain ⟨lb, sv, hs, hF⟩ := H2.out.ex
  have HSA := Lib.hid hs
  have c10 : w2.cell? ⟨z.p, 10, none⟩ = some sv := (hs.blk.cell 10).trans rfl
  have f10 := hs.blk.frozen 10
  have hplt := hs.blk.lt
  have hpne : z.p ≠ w2.heap.size := by omega
  have HO := Lib.hid hs.ev
  have HF := Lib.hid hF
  have HK2 := Lib.hid hk2
  clear hs hF hk2 hb2 hu hq
  obtain ⟨i0, hi, hz0, hz1, hz3⟩ := info_parts Try.infoEv
  have hmx : S.ev.length + 1 ≤ maxLen := by have := HEV.out; unfold maxLen; omega
  have hby : (S.ev.length + 1) * 80 ≤ 140737488355328 := by have := HEV.out; omega
  have HMX := Lib.hid hmx
  have HBY := Lib.hid hby
  have hpe : Hid (27 ≠ (52 : TypeId)) := by unfold Hid; decide
  clear hmx hby
  go_region_law (refine step_append_lies _ rfl (.tmp 11) (.tmp 13) 43 rfl 0 27 i0 _ 10 80 Try.underlying43 hi hz0 hz1 hz3 rfl (by decide) sv S.ev.length (evCells S.ev) rfl (own_ev HO.out) ⟨w2.heap.size, 0, none⟩ 1 1 (Ev.cells u) rfl rfl (by exact World.news_of_block (new_at _ _ _ (by simp))) (by simp [Ev.cells, Value.oneCell']) (by decide) HMX.out HBY.out (Nat.zero_le _) _ rfl ?_; intro g1 cap w3 hown hgrow hat hlt; have hb3 := grown_ev HO.out HSA.out.blk hpe.out hgrow; have d10 : w3.cell? ⟨z.p, 10, none⟩ = some sv := (hb3.cell 10).trans rfl; have f3 := hb3.frozen 10; have HB3 := Lib.hid hb3; clear hb3)
  all_goals
    go_wp2_with fail
    go_end0
    have hq := ev_close HSA.out HB3.out hown hgrow hat
    rw [← HU.out] at hq
    exact ⟨rfl, (H2.out.went HF.out hq).pre HK2.out⟩
/-- The events, told. -/
theorem sp_events (h : SP w0 w z F S) (hf : Fit k S) (hk : k ≤ 1099511627776) : Calls Try.prog 18 #[PT z.p] w fun e w' => ∃ v, e = .returned v ∧ NewRow 27 10 S.ev.length (evCells S.ev) [] w w' v := by
  obtain ⟨lb, sv, hs, _⟩ := h.ex
  have c10 : w.cell? ⟨z.p, 10, none⟩ = some sv := (hs.blk.cell 10).trans rfl
  have hplt := hs.blk.lt
  have hpne : z.p ≠ w.heap.size := by omega
  have HO := Lib.hid hs.ev
  have hl := hf.ev
  have hmx : Hid (0 + S.ev.length ≤ maxLen) := by unfold Hid maxLen; omega
  have hby : Hid ((0 + S.ev.length) * 80 ≤ 140737488355328) := by unfold Hid; omega
  clear hs h hf hl hk
  obtain ⟨i0, hi, hz0, hz1, hz2⟩ := info_parts Try.infoEv
  go_enter Try.func18, Try.ntmps18
  go_wp2_with (at_builtin; refine wpList_append_row rfl (.tmp 3) (.tmp 7) 43 rfl 27 i0 _ 10 80 Try.underlying43 hi hz0 hz1 hz2 rfl (by decide) (.slice (some ⟨w.heap.size, 0, none⟩) 0 0) 0 [] rfl (World.ownsRow_made _ _ _ (Nat.zero_le _) (by decide) rfl) sv S.ev.length (evCells S.ev) rfl (own_keeps HO.out ((Keeps.refl [] _).alloc _) (by simp)) (ev_one _) hmx.out hby.out ?_; intro v1 w1 hown1 hg1 hat1)
  go_ret
  refine ⟨v1, rfl, own_base (by simpa using hown1) ?_, (Keeps.refl _ _).alloc _ |>.grown hg1 ?_⟩
  · intro k hk
    rcases hat1 with e | e <;> rw [e] at hk <;> simp [Value.ownBlock] at hk <;> omega
  · simp [Value.ownBlock]
end
end Go.Proofs.Ytnednminpmiojaa
