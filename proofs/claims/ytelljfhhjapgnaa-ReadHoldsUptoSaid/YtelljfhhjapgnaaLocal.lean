/- What lies beside a space: blocks and rows that its calls leave alone. -/
import Derived.Test.YtelljfhhjapgnaaSpaceN
namespace Go.Proofs.Ytelljfhhjapgnaa
open Go.RowKit
set_option linter.unusedVariables false
/-- A block of the call's own, none of the space's. -/
structure Loc (w : World) (F : List Nat) (b : Nat) (t : TypeId) (cs : Array Value) : Prop where
  blk : Blk w b t cs
  off : b ∉ F
/-- A row of the call's own. -/
structure LocR (w : World) (F : List Nat) (a : Nat) (t : TypeId) (size n c : Nat) (xs : List Value) : Prop where
  own : w.ownsRow 0 t size (.slice (some ⟨a, 0, none⟩) n c) n xs
  off : a ∉ F
section
variable {w0 w w' w1 : World} {z : Sb} {F F' : List Nat} {S S' : Sp} {b : Nat} {t : TypeId} {cs : Array Value} {size n c : Nat} {xs : List Value}
theorem Loc.step (h : Loc w F b t cs) (hk : Keeps F w w') (hn : ∀ x, x ∈ F' → x ∈ F ∨ w.heap.size ≤ x) : Loc w' F' b t cs :=
  ⟨h.blk.keeps hk h.off, fun hx => by
    have := h.blk.lt
    rcases hn b hx with h1 | h1
    · exact h.off h1
    · omega⟩
theorem Loc.calm (h : Loc w F b t cs) (hk : Keeps [] w w') : Loc w' F b t cs := ⟨h.blk.keeps hk (by simp), h.off⟩
theorem Loc.far {X : List Nat} (h : Loc w F b t cs) (hk : Keeps X w w') (hX : b ∉ X) : Loc w' F b t cs := ⟨h.blk.keeps hk hX, h.off⟩
theorem Loc.lt (h : Loc w F b t cs) : b < w.heap.size := h.blk.lt
theorem LocR.lt (h : LocR w F b t size n c xs) : b < w.heap.size := (World.ownsRow.lt h.own b rfl).2
theorem LocR.step (h : LocR w F b t size n c xs) (hk : Keeps F w w') (hn : ∀ x, x ∈ F' → x ∈ F ∨ w.heap.size ≤ x) : LocR w' F' b t size n c xs :=
  ⟨own_keeps h.own hk (fun q hq => by simp [Value.ownBlock] at hq; subst hq; exact h.off), fun hx => by
    have := h.lt
    rcases hn b hx with h1 | h1
    · exact h.off h1
    · omega⟩
theorem LocR.far {X : List Nat} (h : LocR w F b t size n c xs) (hk : Keeps X w w') (hX : b ∉ X) : LocR w' F b t size n c xs := ⟨own_keeps h.own hk (fun q hq => by simp [Value.ownBlock] at hq; subst hq; exact hX), h.off⟩
theorem LocR.calm (h : LocR w F b t size n c xs) (hk : Keeps [] w w') : LocR w' F b t size n c xs := h.far hk (by simp)
theorem LocR.cell (h : LocR w F b t size n c xs) {i : Nat} {v : Value} (hx : xs[i]? = some v) : w.cell? ⟨b, i, none⟩ = some v := by
  have hl : xs.length = n * size := h.own.1
  have hi := (List.getElem?_eq_some_iff.1 hx).1
  exact (h.own.cellAt i (by omega)).trans hx
theorem LocR.frozen (h : LocR w F b t size n c xs) (i : Nat) : w.frozen? ⟨b, i, none⟩ = false := h.own.frozenAt i
theorem SP.fresh (h : SP w0 w z F S) {b : Nat} (hb : w.heap.size ≤ b) : b ∉ F := fun hx => by have := h.lt b hx; omega
theorem SP.local_ (h : SP w0 w z F S) (t : TypeId) (cs : Array Value) : Loc (w.alloc (.cells cs t)) F w.heap.size t cs := ⟨Blk.new _ _ _, h.fresh (Nat.le_refl _)⟩
/-- Made since an earlier world. -/
theorem SP.base (h : SP w1 w z F S) (hk : Keeps [] w0 w1) : SP w0 w z F S := ⟨h.ex, fun x hx => Nat.le_trans hk.size (h.low x hx), hk.trans h.keep (by simp)⟩
/-- Writes to a local block. -/
theorem SP.locals (h : SP w0 w z F S) {X : List Nat} (hk : Keeps X w w') (hX : ∀ x, x ∈ X → w0.heap.size ≤ x ∧ x ∉ F ∧ (∀ t, tyOf w x = some t → t ∉ spFix)) : SP w0 w' z F S := h.away hk hX
theorem slots_held {wB : World} (h : SP w0 wB z F S) (hk : Keeps [] wB w) : Calls Try.prog 20 #[PT z.p] w fun e w' => e = .returned (PT z.t.q) ∧ Keeps [] wB w' :=
  (sp_slots (h.calm hk)).mono fun e w' ⟨he, h2⟩ => ⟨he, h2 ▸ hk⟩
theorem len_heldS {wB : World} (h : SP w0 wB z F S) (hk : Keeps [] wB w) : Calls Try.prog 74 #[PT z.t.q] w fun e w' => e = .returned (.int .i64 S.H.length) ∧ Keeps [] wB w' :=
  (sp_len (h.calm hk)).mono fun e w' ⟨he, h2⟩ => ⟨he, h2 ▸ hk⟩
end
theorem ev_eq (w : World) (x y : Ev) : (Op.equalIn 10000 177 (.agg x.vals) (.agg y.vals)).run Try.prog w = .ok (decide (x = y)) w := by
  have e : decide (x = y) = ((x.kind == y.kind) && (x.step == y.step) && (x.thread == y.thread) && (x.stamp == y.stamp) && (x.cell == y.cell) && (x.x == y.x) && (x.mine == y.mine) && (x.gate == y.gate) && (x.e == y.e) && (x.who == y.who)) := by
    obtain ⟨x0, x1, x2, x3, x4, x5, x6, x7, x8, x9⟩ := x
    obtain ⟨y0, y1, y2, y3, y4, y5, y6, y7, y8, y9⟩ := y
    rw [Bool.eq_iff_iff]
    simp [and_assoc]
  rw [e]
  simp [go_sem, Ev.vals]
  repeat' split
  all_goals simp_all
end Go.Proofs.Ytelljfhhjapgnaa
