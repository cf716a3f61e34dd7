/- What a space holds, and its calls as functions. Plain Lean. -/
import Derived.Test.YtcoekpomiljofaaMDefs
import Derived.Test.YtcoekpomiljofaaRowGDefs
import Derived.Test.YtcoekpomiljofaaRowH
import Derived.Test.YtcoekpomiljofaaSlotsRaw
namespace Go.Proofs.Ytcoekpomiljofaa
open Go.RowKit
set_option linter.unusedVariables false
/-- A config. -/
structure Cf where
  cells : Int
  slots : Int
  bits : Int
  tag : Int
  bias : Int
  defer : Int
deriving DecidableEq
def Cf.vals (c : Cf) : Array Value := #[.int .i64 c.cells, .int .i64 c.slots, .int .i64 c.bits, .int .i64 c.tag, .int .i64 c.bias, .int .i64 c.defer]
/-- Which configs may be. -/
def Cf.ok (c : Cf) : Prop := (1 ≤ c.cells ∧ c.cells ≤ 256) ∧ (1 ≤ c.slots ∧ c.slots ≤ 8) ∧ (1 ≤ c.bits ∧ c.bits ≤ 128) ∧ (1 ≤ c.tag ∧ c.tag ≤ 3) ∧ (0 ≤ c.bias ∧ c.bias ≤ 8) ∧ (0 ≤ c.defer ∧ c.defer ≤ 64)
instance (c : Cf) : Decidable c.ok := by unfold Cf.ok; infer_instance
/-- An event. -/
structure Ev where
  kind : Int
  step : Int
  thread : Int
  stamp : Int
  cell : Int
  x : Int
  mine : Bool
  gate : Int
  e : Int
  who : Int
deriving DecidableEq
def Ev.cells (v : Ev) : List Value := [.int .i64 v.kind, .int .i64 v.step, .int .i64 v.thread, .int .i64 v.stamp, .int .i64 v.cell, .int .i64 v.x, .bool v.mine, .int .i64 v.gate, .int .i64 v.e, .int .i64 v.who]
def evCells (l : List Ev) : List Value := l.flatMap Ev.cells
/-- What a space holds. -/
structure Sp where
  c : Cf
  met : MS
  cells : List Int
  gate : Gt
  H : List Hd
  W : List Int
  ev : List Ev
/-- A new one. -/
def Sp.new (c : Cf) : Sp := ⟨c, MS.zero, List.replicate c.cells.toNat 0, Gt.zero, List.replicate c.slots.toNat Hd.zero, List.replicate (c.slots.toNat * 2) 0, []⟩
/-- An access is noted. -/
def Sp.acc (S : Sp) (k p o : Int) (b : Bool) : Sp := { S with met := S.met.note k p o b }
/-- The thing at a place, if there is one. -/
def nth {α : Type} (l : List α) (i : Int) : Option α := if 0 ≤ i then l[i.toNat]? else none
def Sp.begin (S : Sp) (t : Int) : Sp := { S with met := S.met.begin t }
def Sp.load (S : Sp) (i : Int) : (Int × Int) × Sp :=
  match nth S.cells i with
  | some x => ((x, 0), S.acc 1 i 1 true)
  | none => ((0, 2), S)
def Sp.store (S : Sp) (i x : Int) : Int × Sp :=
  match nth S.cells i with
  | some _ => (0, { S.acc 1 i 2 true with cells := S.cells.set i.toNat x })
  | none => (2, S)
def Sp.fill (S : Sp) (l : List Int) : Int × Sp := if l.length ≤ S.cells.length then (0, { S with cells := l ++ S.cells.drop l.length }) else (3, S)
def Sp.take (S : Sp) (t : Int) : (Int × Int) × Sp :=
  if t < 1 ∨ 8 < t then ((0, 1), S)
  else if S.gate.number % 2 = 0 then ((S.gate.number + 1, 0), { S.acc 2 0 3 true with gate := ⟨S.gate.number + 1, t⟩ })
  else ((0, 5), S.acc 2 0 3 false)
def Sp.give (S : Sp) (t : Int) : Int × Sp :=
  if t < 1 ∨ 8 < t then (1, S)
  else if S.gate.owner = t then (0, { S.acc 2 0 3 true with gate := ⟨S.gate.number + 1, 0⟩ })
  else (4, S.acc 2 0 3 false)
def Sp.glook (S : Sp) : Gt × Sp := (S.gate, S.acc 2 0 1 true)
def Sp.claim (S : Sp) (i t : Int) : (Int × Int) × Sp :=
  if t < 1 ∨ 8 < t then ((0, 1), S)
  else match nth S.H i with
  | none => ((0, 2), S)
  | some x => if x.state = 0 then ((x.gen + 1, 0), { S.acc 3 i 3 true with H := S.H.set i.toNat ⟨x.gen + 1, 1, 0, t, false, 0⟩ }) else ((0, 5), S.acc 3 i 3 false)
def Sp.ready (S : Sp) (i g st : Int) : Int × Sp :=
  if st < 1 then (1, S)
  else match nth S.H i with
  | none => (2, S)
  | some x => if x.state = 1 ∧ x.gen = g then (0, { S.acc 3 i 3 true with H := S.H.set i.toNat ⟨x.gen, 2, st, x.thread, x.doomed, x.who⟩ }) else (4, S.acc 3 i 3 false)
def Hd.doom (x : Hd) (b : Int) : Hd := if x.doomed then x else ⟨x.gen, x.state, x.stamp, x.thread, true, b⟩
def Sp.doom (S : Sp) (i g b : Int) : Int × Sp :=
  if b < 1 ∨ 8 < b then (1, S)
  else match nth S.H i with
  | none => (2, S)
  | some x => if x.state = 2 ∧ x.gen = g then (0, { S.acc 3 i 3 true with H := S.H.set i.toNat (x.doom b) }) else (4, S.acc 3 i 3 false)
def Sp.free (S : Sp) (i g : Int) : Int × Sp :=
  match nth S.H i with
  | none => (2, S)
  | some x => if x.state ≠ 0 ∧ x.gen = g then (0, { S.acc 3 i 3 true with H := S.H.set i.toNat ⟨x.gen, 0, 0, 0, false, 0⟩ }) else (4, S.acc 3 i 3 false)
def Sp.look (S : Sp) (i : Int) : (Hd × Int) × Sp :=
  match nth S.H i with
  | none => ((Hd.zero, 2), S)
  | some x => ((x, 0), S.acc 3 i 1 true)
/-- Where a word lies. -/
def wnth (S : Sp) (i j : Int) : Option Int := if (0 ≤ i ∧ i < S.H.length) ∧ (0 ≤ j ∧ j < 2) then S.W[2 * i.toNat + j.toNat]? else none
def Sp.word (S : Sp) (i j : Int) : (Int × Int) × Sp :=
  match wnth S i j with
  | none => ((0, 2), S)
  | some x => ((x, 0), S.acc 4 (2 * i + j) 1 true)
def Sp.put (S : Sp) (i j x : Int) : Int × Sp :=
  match wnth S i j with
  | none => (2, S)
  | some _ => (0, { S.acc 4 (2 * i + j) 2 true with W := S.W.set (2 * i.toNat + j.toNat) x })
def Ev.at_ (v : Ev) (n : Int) : Ev := { v with step := n }
def Sp.note (S : Sp) (v : Ev) : Sp := { S with ev := S.ev ++ [v.at_ S.met.steps] }
/-- What k calls can make of a new space. -/
structure Fit (k : Nat) (S : Sp) : Prop where
  c : S.c.ok
  cells : S.cells.length = S.c.cells.toNat
  slots : S.H.length = S.c.slots.toNat
  words : S.W.length = 2 * S.H.length
  gens : Gens k S.H
  log : S.met.log.length ≤ k
  g0 : 0 ≤ S.gate.number
  g1 : S.gate.number ≤ k
  even : S.gate.number % 2 = 0 → S.gate.owner = 0
  odd : S.gate.number % 2 = 1 → 1 ≤ S.gate.owner
  ev : S.ev.length ≤ k
section
variable {k : Nat} {S : Sp}
theorem nth_len {α : Type} {l : List α} {i : Int} {x : α} (h : nth l i = some x) : 0 ≤ i ∧ i < l.length ∧ l[i.toNat]? = some x := by
  unfold nth at h
  split at h
  · rename_i h0
    have := (List.getElem?_eq_some_iff.1 h).1
    exact ⟨h0, by omega, h⟩
  · cases h
theorem nth_none {α : Type} {l : List α} {i : Int} (h : nth l i = none) : i < 0 ∨ (l.length : Int) ≤ i := by
  unfold nth at h
  split at h
  · rw [List.getElem?_eq_none_iff] at h; omega
  · omega
theorem wnth_some {i j x : Int} (h : wnth S i j = some x) : (0 ≤ i ∧ i < S.H.length) ∧ (0 ≤ j ∧ j < 2) ∧ S.W[2 * i.toNat + j.toNat]? = some x := by
  unfold wnth at h
  split at h
  · rename_i h0; exact ⟨h0.1, h0.2, h⟩
  · cases h
theorem wnth_none {i j : Int} (hw : S.W.length = 2 * S.H.length) (h : wnth S i j = none) : i < 0 ∨ (S.H.length : Int) ≤ i ∨ j < 0 ∨ 2 ≤ j := by
  unfold wnth at h
  split at h
  · rename_i h0
    rw [List.getElem?_eq_none_iff] at h
    omega
  · omega
theorem Gens.wide {k j : Nat} {H : List Hd} (h : Gens k H) (hj : k ≤ j) : Gens j H := fun i x hx => by have := h i x hx; omega
theorem Gens.set {k : Nat} {H : List Hd} (h : Gens k H) (i : Nat) (y : Hd) (h0 : 0 ≤ y.gen) (h1 : y.gen ≤ k) : Gens k (H.set i y) := fun j x hx => by
  rw [List.getElem?_set] at hx
  split at hx
  · split at hx
    · injection hx with hx; subst hx; exact ⟨h0, h1⟩
    · cases hx
  · exact h j x hx
theorem Fit.wide (h : Fit k S) {j : Nat} (hj : k ≤ j) : Fit j S :=
  ⟨h.c, h.cells, h.slots, h.words, h.gens.wide hj, by have := h.log; omega, h.g0, by have := h.g1; omega, h.even, h.odd, by have := h.ev; omega⟩
theorem Fit.new {c : Cf} (h : c.ok) : Fit 0 (Sp.new c) := by
  refine ⟨h, by simp [Sp.new], by simp [Sp.new], by simp [Sp.new]; omega, fun j x hx => ?_, by simp [Sp.new, MS.zero], by simp [Sp.new, Gt.zero], by simp [Sp.new, Gt.zero], fun _ => rfl, fun h => by simp [Sp.new, Gt.zero] at h, by simp [Sp.new]⟩
  simp only [Sp.new, List.getElem?_replicate] at hx
  split at hx
  · injection hx with hx; subst hx; exact ⟨by decide, by decide⟩
  · cases hx
theorem Fit.acc (h : Fit k S) (a p o : Int) (b : Bool) : Fit (k + 1) (S.acc a p o b) :=
  ⟨h.c, h.cells, h.slots, h.words, h.gens.wide (Nat.le_succ k), by have := h.log; simp [Sp.acc, MS.note]; omega, h.g0, by have := h.g1; show S.gate.number ≤ _; omega, h.even, h.odd, by have := h.ev; show S.ev.length ≤ _; omega⟩
theorem Fit.succ (h : Fit k S) : Fit (k + 1) S := h.wide (Nat.le_succ k)
theorem Fit.begin (h : Fit k S) (t : Int) : Fit k (S.begin t) := ⟨h.c, h.cells, h.slots, h.words, h.gens, h.log, h.g0, h.g1, h.even, h.odd, h.ev⟩
theorem Fit.load (h : Fit k S) (i : Int) : Fit (k + 1) (S.load i).2 := by
  unfold Sp.load
  split
  · exact h.acc _ _ _ _
  · exact h.succ
theorem Fit.store (h : Fit k S) (i x : Int) : Fit (k + 1) (S.store i x).2 := by
  unfold Sp.store
  split
  · have h' := h.acc 1 i 2 true
    exact ⟨h'.c, by rw [← h'.cells]; simp [Sp.acc], h'.slots, h'.words, h'.gens, h'.log, h'.g0, h'.g1, h'.even, h'.odd, h'.ev⟩
  · exact h.succ
theorem Fit.fill (h : Fit k S) (l : List Int) : Fit k (S.fill l).2 := by
  unfold Sp.fill
  split
  · exact ⟨h.c, by rw [← h.cells]; simp; omega, h.slots, h.words, h.gens, h.log, h.g0, h.g1, h.even, h.odd, h.ev⟩
  · exact h
theorem Fit.take (h : Fit k S) (t : Int) : Fit (k + 1) (S.take t).2 := by
  unfold Sp.take
  split
  · exact h.succ
  · rename_i ht
    split
    · rename_i h2
      have h' := h.acc 2 0 3 true
      refine ⟨h'.c, h'.cells, h'.slots, h'.words, h'.gens, h'.log, ?_, ?_, ?_, ?_, h'.ev⟩
      · have := h.g0; show 0 ≤ S.gate.number + 1; omega
      · have := h.g1; show S.gate.number + 1 ≤ _; omega
      · intro (h3 : (S.gate.number + 1) % 2 = 0); omega
      · intro _; show 1 ≤ t; omega
    · exact h.acc _ _ _ _
theorem Fit.give (h : Fit k S) (t : Int) : Fit (k + 1) (S.give t).2 := by
  unfold Sp.give
  split
  · exact h.succ
  · rename_i ht
    split
    · rename_i h2
      have h' := h.acc 2 0 3 true
      have he := h.even
      refine ⟨h'.c, h'.cells, h'.slots, h'.words, h'.gens, h'.log, ?_, ?_, ?_, ?_, h'.ev⟩
      · have := h.g0; show 0 ≤ S.gate.number + 1; omega
      · have := h.g1; show S.gate.number + 1 ≤ _; omega
      · intro _; rfl
      · intro (h3 : (S.gate.number + 1) % 2 = 1)
        have := he (by omega)
        omega
    · exact h.acc _ _ _ _
theorem Fit.headed (h : Fit k S) {i : Nat} {x y : Hd} (hx : S.H[i]? = some x) (h0 : 0 ≤ y.gen) (h1 : y.gen ≤ x.gen + 1) (a p o : Int) (b : Bool) : Fit (k + 1) { S.acc a p o b with H := S.H.set i y } := by
  have h' := h.acc a p o b
  have hg := h.gens i x hx
  exact ⟨h'.c, h'.cells, by rw [← h'.slots]; simp [Sp.acc], by simpa [Sp.acc] using h.words, h'.gens.set i y h0 (by omega), h'.log, h'.g0, h'.g1, h'.even, h'.odd, h'.ev⟩
theorem Fit.claim (h : Fit k S) (i t : Int) : Fit (k + 1) (S.claim i t).2 := by
  unfold Sp.claim
  split
  · exact h.succ
  · split
    · exact h.succ
    · rename_i x hx
      have hn := (nth_len hx).2.2
      have hg := h.gens _ _ hn
      split
      · exact h.headed hn (by simp; omega) (by simp; try omega) _ _ _ _
      · exact h.acc _ _ _ _
theorem Fit.ready (h : Fit k S) (i g st : Int) : Fit (k + 1) (S.ready i g st).2 := by
  unfold Sp.ready
  split
  · exact h.succ
  · split
    · exact h.succ
    · rename_i x hx
      have hn := (nth_len hx).2.2
      have hg := h.gens _ _ hn
      split
      · exact h.headed hn (by simp; omega) (by simp; try omega) _ _ _ _
      · exact h.acc _ _ _ _
theorem Hd.doom_gen (x : Hd) (b : Int) : (x.doom b).gen = x.gen := by unfold Hd.doom; split <;> rfl
theorem Fit.doom (h : Fit k S) (i g b : Int) : Fit (k + 1) (S.doom i g b).2 := by
  unfold Sp.doom
  split
  · exact h.succ
  · split
    · exact h.succ
    · rename_i x hx
      have hn := (nth_len hx).2.2
      have hg := h.gens _ _ hn
      split
      · exact h.headed hn (by rw [Hd.doom_gen]; omega) (by rw [Hd.doom_gen]; omega) _ _ _ _
      · exact h.acc _ _ _ _
theorem Fit.free (h : Fit k S) (i g : Int) : Fit (k + 1) (S.free i g).2 := by
  unfold Sp.free
  split
  · exact h.succ
  · rename_i x hx
    have hn := (nth_len hx).2.2
    have hg := h.gens _ _ hn
    split
    · exact h.headed hn (by simp; omega) (by simp; try omega) _ _ _ _
    · exact h.acc _ _ _ _
theorem Fit.look (h : Fit k S) (i : Int) : Fit (k + 1) (S.look i).2 := by
  unfold Sp.look
  split
  · exact h.succ
  · exact h.acc _ _ _ _
theorem Fit.word (h : Fit k S) (i j : Int) : Fit (k + 1) (S.word i j).2 := by
  unfold Sp.word
  split
  · exact h.succ
  · exact h.acc _ _ _ _
theorem Fit.put (h : Fit k S) (i j x : Int) : Fit (k + 1) (S.put i j x).2 := by
  unfold Sp.put
  split
  · exact h.succ
  · have h' := h.acc 4 (2 * i + j) 2 true
    exact ⟨h'.c, h'.cells, h'.slots, by have := h'.words; simp [Sp.acc] at this ⊢; exact this, h'.gens, h'.log, h'.g0, h'.g1, h'.even, h'.odd, h'.ev⟩
theorem Fit.glook (h : Fit k S) : Fit (k + 1) S.glook.2 := h.acc _ _ _ _
theorem Fit.note (h : Fit k S) (v : Ev) : Fit (k + 1) (S.note v) :=
  ⟨h.c, h.cells, h.slots, h.words, h.gens.wide (Nat.le_succ k), by have := h.log; show S.met.log.length ≤ _; omega, h.g0, by have := h.g1; show S.gate.number ≤ _; omega, h.even, h.odd, by have := h.ev; simp [Sp.note]; omega⟩
end
end Go.Proofs.Ytcoekpomiljofaa
