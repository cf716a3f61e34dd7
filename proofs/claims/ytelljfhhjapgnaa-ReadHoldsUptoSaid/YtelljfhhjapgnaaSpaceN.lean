/- Layer 8: Note, Events. -/
import Derived.Test.YtelljfhhjapgnaaSpaceV
import Derived.Deep.AppendLies
import Derived.Deep.RegionLaw
namespace Go.Proofs.Ytelljfhhjapgnaa
open Go.RowKit
set_option linter.unusedVariables false
attribute [local go_sem ↓] Go.wp_at_zero Go.wp_at_succ
theorem Try.infoEv : (Try.prog.info? 177).map (fun i => (i.zero, i.size, i.bytes)) = some (some (.agg #[.int .i64 0, .int .i64 0, .int .i64 0, .int .i64 0, .int .i64 0, .int .i64 0, .bool false, .int .i64 0, .int .i64 0, .int .i64 0]), 10, 80) := by kernel_rfl
def Ev.vals (v : Ev) : Array Value := #[.int .i64 v.kind, .int .i64 v.step, .int .i64 v.thread, .int .i64 v.stamp, .int .i64 v.cell, .int .i64 v.x, .bool v.mine, .int .i64 v.gate, .int .i64 v.e, .int .i64 v.who]
theorem ev_cells {w : World} {z : Nat} {v : Ev} (h : Blk w z 177 v.vals) : w.cell? ⟨z, 0, none⟩ = some (.int .i64 v.kind) ∧ w.cell? ⟨z, 1, none⟩ = some (.int .i64 v.step) ∧ w.cell? ⟨z, 2, none⟩ = some (.int .i64 v.thread) ∧ w.cell? ⟨z, 3, none⟩ = some (.int .i64 v.stamp) ∧ w.cell? ⟨z, 4, none⟩ = some (.int .i64 v.cell) ∧ w.cell? ⟨z, 5, none⟩ = some (.int .i64 v.x) ∧ w.cell? ⟨z, 6, none⟩ = some (.bool v.mine) ∧ w.cell? ⟨z, 7, none⟩ = some (.int .i64 v.gate) ∧ w.cell? ⟨z, 8, none⟩ = some (.int .i64 v.e) ∧ w.cell? ⟨z, 9, none⟩ = some (.int .i64 v.who) :=
  ⟨(h.cell 0).trans rfl, (h.cell 1).trans rfl, (h.cell 2).trans rfl, (h.cell 3).trans rfl, (h.cell 4).trans rfl, (h.cell 5).trans rfl, (h.cell 6).trans rfl, (h.cell 7).trans rfl, (h.cell 8).trans rfl, (h.cell 9).trans rfl⟩
theorem ev_one (l : List Ev) : ∀ u ∈ evCells l, u.oneCell' = true := by
  intro u hu
  simp only [evCells, List.mem_flatMap] at hu
  obtain ⟨x, _, hx⟩ := hu
  simp only [Ev.cells, List.mem_cons, List.not_mem_nil, or_false] at hx
  rcases hx with rfl | rfl | rfl | rfl | rfl | rfl | rfl | rfl | rfl | rfl <;> rfl
section
variable {w0 w w' w'' : World} {z : Sb} {F : List Nat} {S S' : Sp} {k : Nat}
theorem own_ev {w : World} {v : Value} {n : Nat} {xs : List Value} {o : Obj} (h : w.ownsRow 0 177 10 v n xs) : (w.alloc o).drew.ownsRow 0 177 10 v n xs := own_keeps h (S := []) (((Keeps.refl [] w).alloc _).drew) (by simp)
theorem grown_ev {w w1 : World} {v : Value} {n : Nat} {xs : List Value} {o : Obj} {g : Nat} {t : TypeId} {cs : Array Value} (h : w.ownsRow 0 177 10 v n xs) (hb : Blk w g t cs) (hne : 177 ≠ t) (hg : (w.alloc o).drew.grownBy w1 v.ownBlock) : Blk w1 g t cs :=
  (((hb.alloc o).drew).grown hg (fun e => own_blk_ne h hb hne e.symm))
theorem ev_close {w2 w3 : World} {lb g1 cap : Nat} {sv : Value} {u : Ev} {o : Obj} (hs : SpAt w2 z lb sv S) (hb : Blk w3 z.p 81 (spVals z S.c sv))
    (hown : w3.ownsRow 0 177 10 (.slice (some ⟨g1, 0, none⟩) (S.ev.length + 1) cap) (S.ev.length + 1) (evCells S.ev ++ u.cells)) (hg : (w2.alloc o).drew.grownBy w3 sv.ownBlock)
    (hat : sv.ownBlock = some g1 ∨ g1 = (w2.alloc o).drew.heap.size) :
    SpWent w2 (w3.setCell ⟨z.p, 10, none⟩ (.slice (some ⟨g1, 0, none⟩) (S.ev.length + 1) cap)) z lb sv { S with ev := S.ev ++ [u] } := by
  have hne : z.p ≠ g1 := fun e => own_blk_ne hown hb (by decide) (by simp [Value.ownBlock, e])
  have k0 : Keeps (z.p :: sv.ownBlock.toList) w2 (w3.setCell ⟨z.p, 10, none⟩ (.slice (some ⟨g1, 0, none⟩) (S.ev.length + 1) cap)) :=
    (((((Keeps.refl _ w2).alloc o).drew).grown hg (fun q hq => .inl (by simp [hq]))).setCell (.inl (by simp)) _)
  have hX : InT w2 (z.p :: sv.ownBlock.toList) [81, 177] := InT.cons hs.blk.tyOf (fun x hx => ⟨_, by simp, own_tyOf hs.ev (by simpa using hx)⟩)
  refine ⟨lb, .slice (some ⟨g1, 0, none⟩) (S.ev.length + 1) cap, ⟨?_, hs.met_keeps hX k0 (by decide) (by decide), hs.row_keeps hX k0 (by decide) (by decide), hs.gate_keeps hX k0 (by decide) (by decide) (by decide), hs.tab_keeps hX k0 (by decide) (by decide) (by decide) (by decide) (by decide), ?_⟩, foot_sub (fun x hx => by simp at hx; rcases hx with h | h <;> simp [h]) k0, .inl rfl, ?_⟩
  · have := hb.set_ 10 (.slice (some ⟨g1, 0, none⟩) (S.ev.length + 1) cap)
    simpa [spVals] using this
  · have := own_keeps hown (S := [z.p]) ((Keeps.refl [z.p] w3).setCell (p := ⟨z.p, 10, none⟩) (.inl (by simp)) (.slice (some ⟨g1, 0, none⟩) (S.ev.length + 1) cap)) (by simp [Value.ownBlock, Ne.symm hne])
    simpa [evCells] using this
  · intro q hq
    simp [Value.ownBlock] at hq
    subst hq
    rcases hat with h | h
    · exact .inl h
    · right
      rw [h]
      simp only [World.size_drew, World.size_alloc]
      omega
theorem Went.pre {w1 : World} (hk : Keeps [] w w1) (h : Went w0 w1 w' z F S') : Went w0 w w' z F S' := by
  obtain ⟨F', h1, h2, h3⟩ := h
  refine ⟨F', h1, (hk.mono (T := F) (by simp)).trans h2 (fun x hx => .inl hx), fun x hx => ?_⟩
  have := hk.size
  rcases h3 x hx with h4 | h4
  · exact .inl h4
  · exact .inr (by omega)
end
end Go.Proofs.Ytelljfhhjapgnaa
