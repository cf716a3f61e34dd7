/- The document's meter (quashref01): Begin, Note. -/
import Derived.Test.YtmlnedilbneekaaGreatMeter
import Derived.Deep.AppendLies
import Derived.Deep.RegionLaw
import Derived.Deep.DeepCutAuto
import Derived.BigRegion
import Derived.Outline
import Derived.Handy
import Derived.Deep.DrawnRows
namespace Go.Proofs.YtmlnedilbneekaaGreat
namespace RefM
open Go.RowKit
set_option linter.unusedVariables false
attribute [local go_sem ↓] Go.wp_at_zero Go.wp_at_succ

/-- The end of a note: the log has grown by one access. -/
theorem note_close {T : TypeId} {w W0 w1 : World} {g lb g1 cap : Nat} {s : MS} {v : Value} {o : Obj} {k p q : Int} {b : Bool} (hneT : 216 ≠ T)
    (hc : (v.ownBlock = none ∧ lb = g) ∨ v.ownBlock = some lb) (k0 : Keeps [g] w W0)
    (hat : v.ownBlock = some g1 ∨ g1 = (W0.alloc o).drew.heap.size)
    (hb1 : Blk w1 g T #[.int .i64 s.steps, .int .i64 s.thread, .int .i64 (wrap64 (s.done + 1)), .int .i64 (imax s.most (wrap64 (s.done + 1))), v])
    (ho1 : w1.ownsRow 0 216 6 (.slice (some ⟨g1, 0, none⟩) (s.log.length + 1) cap) (s.log.length + 1) (logCells s.log ++ Acc.cells ⟨s.steps, s.thread, k, p, q, b⟩))
    (hg : (W0.alloc o).drew.grownBy w1 v.ownBlock) :
    Noted T (some g) lb (s.note k p q b) w (w1.setCell ⟨g, 4, none⟩ (.slice (some ⟨g1, 0, none⟩) (s.log.length + 1) cap)) := by
  have hne1 : g ≠ g1 := fun e => own_blk_ne ho1 hb1 hneT (by simp [Value.ownBlock, e])
  refine ⟨g1, ⟨.slice (some ⟨g1, 0, none⟩) (s.log.length + 1) cap, ?_, ?_, .inr rfl⟩, ?_, ?_⟩
  · have := hb1.set_ 4 (.slice (some ⟨g1, 0, none⟩) (s.log.length + 1) cap)
    simpa [MS.note] using this
  · have := own_keeps ho1 (S := [g]) ((Keeps.refl [g] w1).setCell (p := ⟨g, 4, none⟩) (.inl (by simp)) (.slice (some ⟨g1, 0, none⟩) (s.log.length + 1) cap)) (by simp [Value.ownBlock, Ne.symm hne1])
    simpa [MS.note, logCells_snoc] using this
  · have k1 : Keeps [g, lb] w (W0.alloc o).drew := ((k0.mono (by simp)).alloc _).drew
    refine (k1.grown hg (fun q hq => .inl ?_)).setCell (.inl (by simp)) _
    rcases hc with ⟨hc, _⟩ | hc
    · rw [hc] at hq; cases hq
    · rw [hc] at hq; injection hq with hq; subst hq; simp
  · rcases hat with h | h
    · rcases hc with ⟨hc, _⟩ | hc
      · rw [hc] at h; cases h
      · rw [hc] at h; injection h with h; exact .inl h.symm
    · have := k0.size
      refine .inr ?_
      rw [h]
      simp only [World.size_drew, World.size_alloc]
      omega

theorem begin_any (w : World) (g lb : Nat) (s : MS) (hm : MetAt XT w (some g) lb s) (t : Int) :
    Calls Tryz.prog 14 #[PM (some g), .int .i64 t] w fun e w' => e = .returned (.tuple #[]) ∧ MetAt XT w' (some g) lb (s.begin t) ∧ Keeps [g, lb] w w' := by
  obtain ⟨v, hb, hown, hloc⟩ := hm
  have c0 : w.cell? ⟨g, 0, none⟩ = some (.int .i64 s.steps) := (hb.cell 0).trans rfl
  have c1 : w.cell? ⟨g, 1, none⟩ = some (.int .i64 s.thread) := (hb.cell 1).trans rfl
  have c2 : w.cell? ⟨g, 2, none⟩ = some (.int .i64 s.done) := (hb.cell 2).trans rfl
  have f0 := hb.frozen 0
  have f1 := hb.frozen 1
  have f2 := hb.frozen 2
  have HB := Lib.hid hb
  have HO := Lib.hid hown
  have HC := Lib.hid hloc
  clear hb hown hloc
  show Calls _ _ #[.pointer (some ⟨g, 0, none⟩), .int .i64 t] _ _
  go_enter Tryz.func14, Tryz.ntmps14
  go_wp2
  go_end0
  have k0 : Keeps [g] w (((w.setCell ⟨g, 0, none⟩ (.int .i64 (wrap64 (s.steps + 1)))).setCell ⟨g, 1, none⟩ (.int .i64 t)).setCell ⟨g, 2, none⟩ (.int .i64 0)) := (((Keeps.refl _ _).setCell (.inl (by simp)) _).setCell (.inl (by simp)) _).setCell (.inl (by simp)) _
  refine ⟨rfl, ⟨v, ?_, ?_, HC.out⟩, k0.mono (by simp)⟩
  · simpa [MS.begin] using ((HB.out.set_ 0 (.int .i64 (wrap64 (s.steps + 1)))).set_ 1 (.int .i64 t)).set_ 2 (.int .i64 0)
  · exact own_keeps HO.out k0 (fun q hq hq' => by simp at hq'; subst hq'; exact own_blk_ne HO.out HB.out (by decide) hq)

def Upto (w : World) (g : Nat) (s : MS) (v : Value) (wx : World) : Prop :=
  Blk wx g XT #[.int .i64 s.steps, .int .i64 s.thread, .int .i64 (wrap64 (s.done + 1)), .int .i64 (imax s.most (wrap64 (s.done + 1))), v] ∧ Keeps [g] w wx

set_option maxHeartbeats 2000000 in
theorem note_any (w : World) (g lb : Nat) (s : MS) (hm : MetAt XT w (some g) lb s) (k p o : Int) (b : Bool) (hl : s.log.length < 2199023255552) :
    Calls Tryz.prog 153 #[PM (some g), .int .i64 k, .int .i64 p, .int .i64 o, .bool b] w fun e w' =>
      e = .returned (.tuple #[]) ∧ Noted XT (some g) lb (s.note k p o b) w w' := by
  obtain ⟨v, hb, hown, hloc⟩ := hm
  have c0 : w.cell? ⟨g, 0, none⟩ = some (.int .i64 s.steps) := (hb.cell 0).trans rfl
  have c1 : w.cell? ⟨g, 1, none⟩ = some (.int .i64 s.thread) := (hb.cell 1).trans rfl
  have c2 : w.cell? ⟨g, 2, none⟩ = some (.int .i64 s.done) := (hb.cell 2).trans rfl
  have c3 : w.cell? ⟨g, 3, none⟩ = some (.int .i64 s.most) := (hb.cell 3).trans rfl
  have f2 := hb.frozen 2
  have f3 := hb.frozen 3
  have HL := Lib.hid hl
  have HB := Lib.hid hb
  have HO := Lib.hid hown
  have HC := Lib.hid hloc
  clear hl hb hown hloc
  show Calls _ _ #[.pointer (some ⟨g, 0, none⟩), .int .i64 k, .int .i64 p, .int .i64 o, .bool b] _ _
  go_enter Tryz.func153, Tryz.ntmps153
  go_wp2_with fail
  go_region
  go_upto_if 26 with fail
  go_cut [] (fun wx => Upto w g s v wx)
  case first =>
    go_wp2_with fail
    all_goals go_meet
    all_goals have k0 : Keeps [g] w (w.setCell ⟨g, 2, none⟩ (.int .i64 (wrap64 (s.done + 1)))).drew := ((Keeps.refl _ _).setCell (.inl (by simp)) _).drew
    · have e : imax s.most (wrap64 (s.done + 1)) = wrap64 (s.done + 1) := if_pos (by assumption)
      refine ⟨?_, (((Keeps.refl _ _).setCell (.inl (by simp)) _).setCell (.inl (by simp)) _).drew⟩
      rw [e]
      simpa using ((HB.out.set_ 2 (.int .i64 (wrap64 (s.done + 1)))).set_ 3 (.int .i64 (wrap64 (s.done + 1)))).drew
    · have e : imax s.most (wrap64 (s.done + 1)) = s.most := if_neg (by omega)
      refine ⟨?_, k0⟩
      rw [e]
      simpa using (HB.out.set_ 2 (.int .i64 (wrap64 (s.done + 1)))).drew
  case rest =>
    obtain ⟨hbc, hkc⟩ := hcut
    have hoc : wc.ownsRow 0 216 6 v s.log.length (logCells s.log) := own_keeps HO.out hkc (fun q hq hq' => by simp at hq'; subst hq'; exact own_blk_ne HO.out HB.out (by decide) hq)
    clear c0 c1 c2 c3 f2 f3
    have d0 : wc.cell? ⟨g, 0, none⟩ = some (.int .i64 s.steps) := (hbc.cell 0).trans rfl
    have d1 : wc.cell? ⟨g, 1, none⟩ = some (.int .i64 s.thread) := (hbc.cell 1).trans rfl
    have d4 : wc.cell? ⟨g, 4, none⟩ = some v := (hbc.cell 4).trans rfl
    have hglt := hbc.lt
    have HBC := Lib.hid hbc
    have HKC := Lib.hid hkc
    have HOC := Lib.hid hoc
    clear hbc hkc hoc
    obtain ⟨i0, hi, hz0, hz1, hz2⟩ := info_parts Tryz.infoAcc
    have HMX : Hid (s.log.length + 1 ≤ maxLen) := by have := HL.out; unfold Hid maxLen; omega
    have HBY : Hid ((s.log.length + 1) * 48 ≤ 140737488355328) := by have := HL.out; unfold Hid; omega
    have hne : Hid ((216 : TypeId) ≠ XT) := by unfold Hid; decide
    go_wp2_with fail
    go_region_law (refine step_append_lies _ rfl (.tmp 38) (.tmp 52) 93 rfl 0 216 i0 _ 6 48 Tryz.underlying93 hi hz0 hz1 hz2 rfl (by decide) v s.log.length (logCells s.log) rfl (HOC.out.alloc _) ⟨wc.heap.size, 0, none⟩ 1 1 (Acc.cells ⟨s.steps, s.thread, k, p, o, b⟩) rfl rfl (by exact World.news_of_block (new_at _ _ _ rfl)) (by simp [Acc.cells, Value.oneCell']) (by decide) HMX.out HBY.out (Nat.zero_le _) _ rfl ?_; intro g1 cap w1 hown1 hgrow1 hat1 hlt1; have hb1 := (HBC.out.alloc _).drew.grown hgrow1 (fun e => own_blk_ne HOC.out HBC.out hne.out e.symm); have x4 : w1.cell? ⟨g, 4, none⟩ = some v := (hb1.cell 4).trans rfl; have e4 := hb1.frozen 4; have HB1 := Lib.hid hb1; clear hb1)
    all_goals
      go_wp2_with fail
      go_end0
      refine ⟨rfl, note_close hne.out HC.out HKC.out hat1 HB1.out hown1 hgrow1⟩
end RefM
end Go.Proofs.YtmlnedilbneekaaGreat
