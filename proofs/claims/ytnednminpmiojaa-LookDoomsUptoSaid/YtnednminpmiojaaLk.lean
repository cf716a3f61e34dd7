/- Layer 12: a look, a dooming, as functions over what a space holds. Plain Lean. -/
import Derived.Test.YtnednminpmiojaaSpF
import Derived.Test.YtnednminpmiojaaSigMeets
namespace Go.Proofs.Ytnednminpmiojaa
open Go.RowKit
set_option linter.unusedVariables false
/-- A victim. -/
structure Vc where
  slot : Int
  gen : Int
  stamp : Int
  thread : Int
deriving DecidableEq
def Vc.cells (v : Vc) : List Value := [.int .i64 v.slot, .int .i64 v.gen, .int .i64 v.stamp, .int .i64 v.thread]
def vcCells (l : List Vc) : List Value := l.flatMap Vc.cells
theorem vcCells_len (l : List Vc) : (vcCells l).length = l.length * 4 := by
  induction l with
  | nil => rfl
  | cons x l ih => simp [vcCells, Vc.cells] at ih ⊢; omega
theorem vcCells_snoc (l : List Vc) (x : Vc) : vcCells (l ++ [x]) = vcCells l ++ x.cells := by simp [vcCells]
/-- A look that is under way. -/
structure Lk where
  own : Int
  writes : Sg
  turns : List Int
  head : Hd
  words : List Int
  looked : Bool
  victims : List Vc
/-- The numbers below k but one. -/
def turnsTo (slot : Int) : Nat → List Int
  | 0 => []
  | k + 1 => if (k : Int) = slot then turnsTo slot k else turnsTo slot k ++ [(k : Int)]
def Lk.new (n : Nat) (slot : Int) (s : Sg) : Lk := ⟨slot, s, turnsTo slot n, Hd.zero, [], false, []⟩
def Lk.turn (x : Lk) : Lk := { x with turns := x.turns.tail, words := [], looked := false }
/-- The words as a signature. -/
def sgOf (ws : List Int) : Sg := ⟨(ws.getD 0 0).toNat, (ws.getD 1 0).toNat⟩
def Lk.met (x : Lk) : Bool := !((sgOf x.words).meet x.writes).none
def Lk.at_ (x : Lk) (h : Hd) : Lk := { x with head := h, looked := true }
def Lk.word (x : Lk) (v : Int) : Lk := { x with words := x.words ++ [v] }
def Lk.meets (x : Lk) (t : Int) : Lk := { x with victims := x.victims ++ [⟨t, x.head.gen, x.head.stamp, x.head.thread⟩] }
/-- A step: what it answers, the look, the space. -/
def Lk.step (x : Lk) (S : Sp) : Int × Lk × Sp :=
  match x.turns with
  | [] => (3, x, S)
  | t :: _ =>
    if x.looked = false then
      (1, if (S.look t).1.1.state ≠ 2 ∨ (S.look t).1.1.doomed = true then (x.at_ (S.look t).1.1).turn else x.at_ (S.look t).1.1, (S.look t).2)
    else
      (1, if x.words.length + 1 < 2 then x.word (S.word t x.words.length).1.1
        else if (x.word (S.word t x.words.length).1.1).met = true then ((x.word (S.word t x.words.length).1.1).meets t).turn
        else (x.word (S.word t x.words.length).1.1).turn, (S.word t x.words.length).2)
/-- A word of a signature. -/
def isU (x : Int) : Prop := 0 ≤ x ∧ x < 18446744073709551616
/-- What steps can make of one; k: how many at most. -/
structure Lk.Ok (k : Nat) (x : Lk) : Prop where
  sg : x.writes.ok
  turns : x.turns.length ≤ 8
  rng : ∀ t, t ∈ x.turns → 0 ≤ t ∧ t < 8
  words : x.words.length ≤ 1
  wu : ∀ v, v ∈ x.words → isU v
  vs : x.victims.length ≤ k
theorem Lk.Ok.wide {k j : Nat} {x : Lk} (h : x.Ok k) (hj : k ≤ j) : x.Ok j := ⟨h.sg, h.turns, h.rng, h.words, h.wu, Nat.le_trans h.vs hj⟩
theorem turnsTo_len (slot : Int) : ∀ k, (turnsTo slot k).length ≤ k
  | 0 => Nat.le_refl _
  | k + 1 => by
    have := turnsTo_len slot k
    unfold turnsTo
    split
    · omega
    · simp; omega
theorem turnsTo_rng (slot : Int) : ∀ k t, t ∈ turnsTo slot k → 0 ≤ t ∧ t < k
  | 0, t, h => by simp [turnsTo] at h
  | k + 1, t, h => by
    have hh := turnsTo_rng slot k t
    unfold turnsTo at h
    split at h
    · have := hh h; omega
    · rw [List.mem_append] at h
      rcases h with h | h
      · have := hh h; omega
      · simp at h; omega
theorem Lk.new_ok {n : Nat} (hn : n ≤ 8) (slot : Int) {s : Sg} (hs : s.ok) : (Lk.new n slot s).Ok 0 :=
  ⟨hs, Nat.le_trans (turnsTo_len slot n) hn, fun t ht => by have := turnsTo_rng slot n t ht; omega, by simp [Lk.new], by simp [Lk.new], by simp [Lk.new]⟩
theorem Lk.Ok.turn {k : Nat} {x : Lk} (h : x.writes.ok) (h1 : x.turns.length ≤ 8) (h2 : ∀ t, t ∈ x.turns → 0 ≤ t ∧ t < 8) (h3 : x.victims.length ≤ k) : x.turn.Ok k :=
  ⟨h, by have := List.length_tail (l := x.turns); show x.turns.tail.length ≤ 8; omega, fun t ht => h2 t (List.mem_of_mem_tail ht), by simp [Lk.turn], by simp [Lk.turn], h3⟩
/-- All words of a space are words. -/
def Sp.wu (S : Sp) : Prop := ∀ v, v ∈ S.W → isU v
theorem Sp.wu.word {S : Sp} (h : S.wu) (i j : Int) : isU (S.word i j).1.1 := by
  unfold Sp.word
  split
  · exact ⟨by simp, by simp⟩
  · rename_i x hx
    exact h x (List.mem_of_getElem? (wnth_some hx).2.2)
theorem Lk.Ok.step {k : Nat} {x : Lk} {S : Sp} (h : x.Ok k) (hu : S.wu) : (x.step S).2.1.Ok (k + 1) := by
  have hw := h.wide (Nat.le_succ k)
  unfold Lk.step
  split
  · exact hw
  · rename_i t tl ht
    split
    · rename_i hl
      split
      · exact Lk.Ok.turn h.sg h.turns h.rng hw.vs
      · exact ⟨h.sg, h.turns, h.rng, h.words, h.wu, hw.vs⟩
    · split
      · rename_i hl
        refine ⟨h.sg, h.turns, h.rng, by show (x.words ++ [_]).length ≤ 1; rw [List.length_append]; simp only [List.length_cons, List.length_nil]; omega, fun v hv => ?_, hw.vs⟩
        simp only [Lk.word, List.mem_append, List.mem_singleton] at hv
        rcases hv with hv | rfl
        · exact h.wu v hv
        · exact hu.word _ _
      · split
        · exact Lk.Ok.turn h.sg h.turns h.rng (by have := h.vs; show (x.victims ++ [_]).length ≤ _; rw [List.length_append]; simp only [List.length_cons, List.length_nil]; omega)
        · exact Lk.Ok.turn h.sg h.turns h.rng hw.vs
theorem Fit.lkstep {k : Nat} {S : Sp} (h : Fit k S) (x : Lk) : Fit (k + 1) (x.step S).2.2 := by
  unfold Lk.step
  split
  · exact h.succ
  · split
    · exact h.look _
    · exact h.word _ _
theorem Sp.look_W (S : Sp) (i : Int) : (S.look i).2.W = S.W := by unfold Sp.look; split <;> rfl
theorem Sp.word_W (S : Sp) (i j : Int) : (S.word i j).2.W = S.W := by unfold Sp.word; split <;> rfl
theorem Sp.wu.lkstep {S : Sp} (h : S.wu) (x : Lk) : (x.step S).2.2.wu := by
  unfold Lk.step
  split
  · exact h
  · split
    · unfold Sp.wu; rw [Sp.look_W]; exact h
    · unfold Sp.wu; rw [Sp.word_W]; exact h
/-- A dooming that is under way. -/
structure Dm where
  who : Int
  left : List Vc
  doomed : List Vc
def Dm.new (b : Int) (l : List Vc) : Dm := ⟨b, l, []⟩
def Dm.step (x : Dm) (S : Sp) : Int × Dm × Sp :=
  match x.left with
  | [] => (3, x, S)
  | v :: l => (1, if (S.doom v.slot v.gen x.who).1 = 0 then ⟨x.who, l, x.doomed ++ [v]⟩ else ⟨x.who, l, x.doomed⟩, (S.doom v.slot v.gen x.who).2)
theorem Fit.dmstep {k : Nat} {S : Sp} (h : Fit k S) (x : Dm) : Fit (k + 1) (x.step S).2.2 := by
  unfold Dm.step
  split
  · exact h.succ
  · exact h.doom _ _ _
end Go.Proofs.Ytnednminpmiojaa
