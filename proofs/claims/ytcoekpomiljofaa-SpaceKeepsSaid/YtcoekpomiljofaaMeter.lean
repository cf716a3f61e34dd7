/- The meter's other methods: NewMeter, Begin, Steps, Done, Most, Log. -/
import Derived.Test.YtcoekpomiljofaaMDefs
import Derived.Handy
import Derived.Outline
import Derived.Maps.AppendAt
import Derived.Deep.AppendSrc
namespace Go.Proofs.Ytcoekpomiljofaa
open Go.RowKit
set_option linter.unusedVariables false

theorem newMeter (w : World) :
    Calls Try.prog 20 #[] w fun e w' => ∃ g, e = .returned (.pointer (some ⟨g, 0, none⟩)) ∧ MetAt MT w' (some g) g MS.zero ∧ Keeps [] w w' ∧ g = w.heap.size := by
  go_enter Try.func20, Try.ntmps20
  go_wp2
  go_ret
  exact ⟨w.heap.size, rfl, ⟨_, Blk.new _ _ _, World.ownsRow_nil _ _ _ _, .inl ⟨rfl, rfl⟩⟩, by simp, rfl⟩

theorem begin_nil (w : World) (t : Int) :
    Calls Try.prog 25 #[.pointer none, .int .i64 t] w fun e w' => e = .returned (.tuple #[]) ∧ w = w' := by
  go_enter Try.func25, Try.ntmps25
  go_wp2
  go_returns
  exact ⟨rfl, rfl⟩

theorem begin_some (w : World) (g lb : Nat) (s : MS) (v : Value) (hm : MeterAt MT w g lb s v) (t : Int) :
    Calls Try.prog 25 #[.pointer (some ⟨g, 0, none⟩), .int .i64 t] w fun e w' =>
      e = .returned (.tuple #[]) ∧ MeterAt MT w' g lb (s.begin t) v ∧ Keeps [g] w w' := by
  obtain ⟨hb, hown, hloc⟩ := hm
  have c0 : w.cell? ⟨g, 0, none⟩ = some (.int .i64 s.steps) := (hb.cell 0).trans rfl
  have c1 : w.cell? ⟨g, 1, none⟩ = some (.int .i64 s.thread) := (hb.cell 1).trans rfl
  have c2 : w.cell? ⟨g, 2, none⟩ = some (.int .i64 s.done) := (hb.cell 2).trans rfl
  have f0 := hb.frozen 0
  have f1 := hb.frozen 1
  have f2 := hb.frozen 2
  have HB := Lib.hid hb
  have HO := Lib.hid hown
  have HC := Lib.hid hloc
  clear hb hown hloc
  go_enter Try.func25, Try.ntmps25
  go_wp2
  go_end0
  have k0 : Keeps [g] w (((w.setCell ⟨g, 0, none⟩ (.int .i64 (wrap64 (s.steps + 1)))).setCell ⟨g, 1, none⟩ (.int .i64 t)).setCell ⟨g, 2, none⟩ (.int .i64 0)) := (((Keeps.refl _ _).setCell (.inl (by simp)) _).setCell (.inl (by simp)) _).setCell (.inl (by simp)) _
  refine ⟨rfl, ⟨?_, ?_, HC.out⟩, k0⟩
  · simpa [MS.begin] using ((HB.out.set_ 0 (.int .i64 (wrap64 (s.steps + 1)))).set_ 1 (.int .i64 t)).set_ 2 (.int .i64 0)
  · exact own_keeps HO.out k0 (fun q hq hq' => by simp at hq'; subst hq'; exact own_blk_ne HO.out HB.out (by decide) hq)

/-- Begin. -/
theorem begin_any (w : World) (mp : Option Nat) (lb : Nat) (s : MS) (hm : MetAt MT w mp lb s) (t : Int) :
    Calls Try.prog 25 #[PM mp, .int .i64 t] w fun e w' => e = .returned (.tuple #[]) ∧ MetAt MT w' mp lb (s.begin t) ∧ Keeps (foot mp lb) w w' := by
  cases mp with
  | none => exact (begin_nil w t).mono fun e w' ⟨he, hw⟩ => ⟨he, trivial, hw ▸ Keeps.refl _ _⟩
  | some g =>
    obtain ⟨v, hv⟩ := hm
    exact (begin_some w g lb s v hv t).mono fun e w' ⟨he, h1, h2⟩ => ⟨he, ⟨v, h1⟩, h2.mono (by simp [foot])⟩

theorem steps_some (w : World) (g lb : Nat) (s : MS) (hm : MetAt MT w (some g) lb s) :
    Calls Try.prog 33 #[PM (some g)] w fun e w' => e = .returned (.int .i64 s.steps) ∧ w = w' := by
  obtain ⟨v, hb, hown, hloc⟩ := hm
  have c0 : w.cell? ⟨g, 0, none⟩ = some (.int .i64 s.steps) := (hb.cell 0).trans rfl
  clear hb hown hloc
  unfold PM
  go_enter Try.func33, Try.ntmps33
  go_wp2
  go_ret
  exact ⟨rfl, rfl⟩
theorem steps_nil (w : World) :
    Calls Try.prog 33 #[PM none] w fun e w' => e = .returned (.int .i64 0) ∧ w = w' := by
  unfold PM
  go_enter Try.func33, Try.ntmps33
  go_wp2
  go_ret
  exact ⟨rfl, rfl⟩
theorem done_some (w : World) (g lb : Nat) (s : MS) (hm : MetAt MT w (some g) lb s) :
    Calls Try.prog 18 #[PM (some g)] w fun e w' => e = .returned (.int .i64 s.done) ∧ w = w' := by
  obtain ⟨v, hb, hown, hloc⟩ := hm
  have c0 : w.cell? ⟨g, 2, none⟩ = some (.int .i64 s.done) := (hb.cell 2).trans rfl
  clear hb hown hloc
  unfold PM
  go_enter Try.func18, Try.ntmps18
  go_wp2
  go_ret
  exact ⟨rfl, rfl⟩
theorem done_nil (w : World) :
    Calls Try.prog 18 #[PM none] w fun e w' => e = .returned (.int .i64 0) ∧ w = w' := by
  unfold PM
  go_enter Try.func18, Try.ntmps18
  go_wp2
  go_ret
  exact ⟨rfl, rfl⟩
theorem logOne (l : List Acc) : ∀ u ∈ logCells l, u.oneCell' = true := by
  intro u hu
  simp only [logCells, List.mem_flatMap] at hu
  obtain ⟨x, _, hx⟩ := hu
  simp only [Acc.cells, List.mem_cons, List.not_mem_nil, or_false] at hx
  rcases hx with rfl | rfl | rfl | rfl | rfl | rfl <;> rfl
theorem log_some (w : World) (g lb : Nat) (s : MS) (hm : MetAt MT w (some g) lb s) (hl : s.log.length ≤ 2199023255552) :
    Calls Try.prog 12 #[PM (some g)] w fun e w' => ∃ v, e = .returned v ∧ NewRow 61 6 s.log.length (logCells s.log) [] w w' v := by
  obtain ⟨v, hb, hown, hloc⟩ := hm
  have c0 : w.cell? ⟨g, 4, none⟩ = some v := (hb.cell 4).trans rfl
  have hglt := hb.lt
  have HO := Lib.hid hown
  have HL := Lib.hid hl
  clear hb hown hloc hl
  obtain ⟨i0, hi, hz0, hz1, hz2⟩ := info_parts Try.infoAcc
  unfold PM
  go_enter Try.func12, Try.ntmps12
  have hmx : Hid (0 + s.log.length ≤ maxLen) := by have := HL.out; unfold Hid maxLen; omega
  have hby : Hid ((0 + s.log.length) * 48 ≤ 140737488355328) := by have := HL.out; unfold Hid; omega
  go_wp2_with (at_builtin; refine wpList_append_row rfl (.tmp 5) (.tmp 9) 45 rfl 61 i0 _ 6 48 Try.underlying45 hi hz0 hz1 hz2 rfl (by decide) (.slice (some ⟨w.heap.size, 0, none⟩) 0 0) 0 [] rfl (World.ownsRow_made _ _ _ (Nat.zero_le _) (by decide) rfl) v s.log.length (logCells s.log) rfl (HO.out.alloc _) (logOne _) hmx.out hby.out ?_; intro v1 w1 hown1 hg1 hat1)
  go_ret
  refine ⟨v1, rfl, own_base (by simpa using hown1) ?_, (Keeps.refl _ _).alloc _ |>.grown hg1 ?_⟩
  · intro k hk
    rcases hat1 with e | e <;> rw [e] at hk <;> simp [Value.ownBlock] at hk <;> omega
  · simp [Value.ownBlock]
end Go.Proofs.Ytcoekpomiljofaa
