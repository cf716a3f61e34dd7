/- The meter's note, mem's only writer of a log. -/
import Derived.Test.YtcoekpomiljofaaMDefs
import Derived.RegionTactic
import Derived.Deep.AppendLies
import Derived.Deep.RegionLaw
import Derived.BigRegion
import Derived.Outline
import Derived.Handy
import Derived.Deep.DrawnRows
namespace Go.Proofs.Ytcoekpomiljofaa
open Go.RowKit
set_option linter.unusedVariables false

attribute [local go_sem ↓] Go.wp_at_zero Go.wp_at_succ

theorem after1 {w w1 : World} {g : Nat} {t e : TypeId} {cs : Array Value} {size n : Nat} {v a b : Value} {xs : List Value} {o : Obj} (hb : Blk w g t cs) (ho : w.ownsRow 0 e size v n xs) (hne : e ≠ t) {i j : Nat}
    (hg : (((w.setCell ⟨g, i, none⟩ a).setCell ⟨g, j, none⟩ b).alloc o).drew.drew.grownBy w1 v.ownBlock) :
    Blk w1 g t ((cs.setIfInBounds i a).setIfInBounds j b) := by
  have h1 := ((((hb.set_ i a).set_ j b).alloc o).drew.drew)
  exact h1.grown hg (fun e => own_blk_ne ho hb hne e.symm)

theorem own_after0 {w : World} {g : Nat} {t e : TypeId} {cs : Array Value} {size n : Nat} {v a b : Value} {xs : List Value} {o : Obj} (hb : Blk w g t cs) (ho : w.ownsRow 0 e size v n xs) (hne : e ≠ t) {i j : Nat} :
    (((w.setCell ⟨g, i, none⟩ a).setCell ⟨g, j, none⟩ b).alloc o).drew.drew.ownsRow 0 e size v n xs :=
  own_keeps ho (S := [g]) (((((Keeps.refl [g] w).setCell (by simp) _).setCell (by simp) _).alloc _).drew.drew) (fun q hq hq' => by simp at hq'; subst hq'; exact own_blk_ne ho hb hne hq)

theorem note_end {w w1 : World} {g lb g1 cap : Nat} {s : MS} {v x y : Value} {o : Obj} {k p q : Int} {b : Bool}
    (hb : Blk w g 80 #[.int .i64 s.steps, .int .i64 s.thread, .int .i64 s.done, .int .i64 s.most, v]) (ho : w.ownsRow 0 61 6 v s.log.length (logCells s.log)) (hne : (61 : TypeId) ≠ 80)
    (hc : (v.ownBlock = none ∧ lb = g) ∨ v.ownBlock = some lb) (hlt : g1 < w1.heap.size) (hat : v.ownBlock = some g1 ∨ g1 = (((w.setCell ⟨g, 2, none⟩ (.int .i64 (wrap64 (s.done + 1)))).setCell ⟨g, 3, none⟩ (.int .i64 (imax s.most (wrap64 (s.done + 1))))).alloc o).drew.drew.heap.size)
    (hb1 : Blk w1 g 80 #[.int .i64 s.steps, .int .i64 s.thread, x, y, v])
    (ho1 : w1.ownsRow 0 61 6 (.slice (some ⟨g1, 0, none⟩) (s.log.length + 1) cap) (s.log.length + 1) (logCells s.log ++ Acc.cells ⟨s.steps, s.thread, k, p, q, b⟩))
    (hg : (((w.setCell ⟨g, 2, none⟩ (.int .i64 (wrap64 (s.done + 1)))).setCell ⟨g, 3, none⟩ (.int .i64 (imax s.most (wrap64 (s.done + 1))))).alloc o).drew.drew.grownBy w1 v.ownBlock)
    (hx : x = .int .i64 (wrap64 (s.done + 1))) (hy : y = .int .i64 (imax s.most (wrap64 (s.done + 1)))) :
    MeterAt MT (w1.setCell ⟨g, 4, none⟩ (.slice (some ⟨g1, 0, none⟩) (s.log.length + 1) cap)) g g1 (s.note k p q b) (.slice (some ⟨g1, 0, none⟩) (s.log.length + 1) cap) ∧
    Keeps [g, lb] w (w1.setCell ⟨g, 4, none⟩ (.slice (some ⟨g1, 0, none⟩) (s.log.length + 1) cap)) ∧ (g1 = lb ∨ w.heap.size ≤ g1) := by
  subst hx hy
  have hne1 : g ≠ g1 := fun e => own_blk_ne ho1 hb1 hne (by simp [Value.ownBlock, e])
  refine ⟨⟨?_, ?_, .inr rfl⟩, ?_, ?_⟩
  · have := hb1.set_ 4 (.slice (some ⟨g1, 0, none⟩) (s.log.length + 1) cap)
    simpa [MS.note] using this
  · have := own_keeps ho1 (S := [g]) ((Keeps.refl [g] w1).setCell (p := ⟨g, 4, none⟩) (.inl (by simp)) (.slice (some ⟨g1, 0, none⟩) (s.log.length + 1) cap)) (by simp [Value.ownBlock, Ne.symm hne1])
    simpa [MS.note, logCells_snoc] using this
  · have k0 : Keeps [g, lb] w (((w.setCell ⟨g, 2, none⟩ (.int .i64 (wrap64 (s.done + 1)))).setCell ⟨g, 3, none⟩ (.int .i64 (imax s.most (wrap64 (s.done + 1))))).alloc o).drew.drew :=
      ((((Keeps.refl _ _).setCell (.inl (by simp)) _).setCell (.inl (by simp)) _).alloc _).drew.drew
    refine (k0.grown hg (fun q hq => .inl ?_)).setCell (.inl (by simp)) _
    rcases hc with ⟨hc, _⟩ | hc
    · rw [hc] at hq; cases hq
    · rw [hc] at hq; injection hq with hq; subst hq; simp
  · rcases hat with h | h
    · rcases hc with ⟨hc, _⟩ | hc
      · rw [hc] at h; cases h
      · rw [hc] at h; injection h with h; exact .inl h.symm
    · exact .inr (by rw [h]; simp only [World.size_drew, World.size_alloc, World.size_setCell]; omega)

set_option maxHeartbeats 2000000 in
theorem note_some (w : World) (g lb : Nat) (s : MS) (v : Value) (hm : MeterAt MT w g lb s v) (k p o : Int) (b : Bool) (hl : s.log.length < 2199023255552) :
    Calls Try.prog 39 #[.pointer (some ⟨g, 0, none⟩), .int .i64 k, .int .i64 p, .int .i64 o, .bool b] w fun e w' =>
      e = .returned (.tuple #[]) ∧ ∃ lb' v', MeterAt MT w' g lb' (s.note k p o b) v' ∧ Keeps [g, lb] w w' ∧ (lb' = lb ∨ w.heap.size ≤ lb') := by
  obtain ⟨hb, hown, hloc⟩ := hm
  have c0 : w.cell? ⟨g, 0, none⟩ = some (.int .i64 s.steps) := (hb.cell 0).trans rfl
  have c1 : w.cell? ⟨g, 1, none⟩ = some (.int .i64 s.thread) := (hb.cell 1).trans rfl
  have c2 : w.cell? ⟨g, 2, none⟩ = some (.int .i64 s.done) := (hb.cell 2).trans rfl
  have c3 : w.cell? ⟨g, 3, none⟩ = some (.int .i64 s.most) := (hb.cell 3).trans rfl
  have c4 : w.cell? ⟨g, 4, none⟩ = some v := (hb.cell 4).trans rfl
  have f2 := hb.frozen 2
  have f3 := hb.frozen 3
  have f4 := hb.frozen 4
  have hglt := hb.lt
  have HL := Lib.hid hl
  have HB := Lib.hid hb
  have HO := Lib.hid hown
  have HC := Lib.hid hloc
  clear hl hb hown hloc
  go_enter Try.func39, Try.ntmps39
  go_wp2_with fail
  go_region
  simp only [imax_eq]
  go_wp2_with fail
  obtain ⟨i0, hi, hz0, hz1, hz2⟩ := info_parts Try.infoAcc
  have hmx : s.log.length + 1 ≤ maxLen := by have := HL.out; unfold maxLen; omega
  have hby : (s.log.length + 1) * 48 ≤ 140737488355328 := by have := HL.out; omega
  have hne : Hid ((61 : TypeId) ≠ 80) := by unfold Hid; decide
  have HMX := Lib.hid hmx
  have HBY := Lib.hid hby
  clear hmx hby
  go_region_law (refine step_append_lies _ rfl (.tmp 35) (.tmp 49) 45 rfl 0 61 i0 _ 6 48 Try.underlying45 hi hz0 hz1 hz2 rfl (by decide) v s.log.length (logCells s.log) rfl (own_after0 HB.out HO.out hne.out) ⟨w.heap.size, 0, none⟩ 1 1 (Acc.cells ⟨s.steps, s.thread, k, p, o, b⟩) rfl rfl (by exact World.news_of_block (new_at _ _ _ (by simp))) (by simp [Acc.cells, Value.oneCell']) (by decide) HMX.out HBY.out (Nat.zero_le _) _ rfl ?_; intro g1 cap w1 hown1 hgrow1 hat1 hlt1; have hb1 := after1 HB.out HO.out hne.out hgrow1; have d4 : w1.cell? ⟨g, 4, none⟩ = some v := (hb1.cell 4).trans rfl; have e4 := hb1.frozen 4; have HB1 := Lib.hid hb1; clear hb1)
  all_goals
    go_wp2_with fail
    go_end0
    refine ⟨rfl, g1, _, note_end HB.out HO.out hne.out HC.out hlt1 hat1 HB1.out hown1 hgrow1 rfl rfl⟩

theorem note_nil (w : World) (k p o : Int) (b : Bool) :
    Calls Try.prog 39 #[.pointer none, .int .i64 k, .int .i64 p, .int .i64 o, .bool b] w fun e w' => e = .returned (.tuple #[]) ∧ w = w' := by
  go_enter Try.func39, Try.ntmps39
  go_wp2
  go_returns
  exact ⟨rfl, rfl⟩

theorem note_any (w : World) (mp : Option Nat) (lb : Nat) (s : MS) (hm : MetAt MT w mp lb s) (k p o : Int) (b : Bool) (hl : Room mp s) :
    Calls Try.prog 39 #[PM mp, .int .i64 k, .int .i64 p, .int .i64 o, .bool b] w fun e w' =>
      e = .returned (.tuple #[]) ∧ Noted MT mp lb (s.note k p o b) w w' := by
  cases mp with
  | none => exact (note_nil w k p o b).mono fun e w' ⟨he, hw⟩ => ⟨he, lb, trivial, hw ▸ Keeps.refl _ _, .inl rfl⟩
  | some g =>
    obtain ⟨v, hv⟩ := hm
    exact (note_some w g lb s v hv k p o b (hl (by simp))).mono fun e w' ⟨he, lb', v', h1, h2, h3⟩ => ⟨he, lb', ⟨v', h1⟩, h2, h3⟩
end Go.Proofs.Ytcoekpomiljofaa
