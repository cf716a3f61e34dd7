/- Layer 12: where a look and a dooming lie, beside a space. -/
import Derived.Test.YtmlnedilbneekaaGreatSpF
import Derived.Test.YtmlnedilbneekaaGreatSigMeets
import Derived.Test.YtmlnedilbneekaaGreatSlR
namespace Go.Proofs.YtmlnedilbneekaaGreat
open Go.RowKit
set_option linter.unusedVariables false
/-- A victim. -/
structure Vc where
  slot : Int
  gen : Int
  stamp : Int
  thread : Int
deriving DecidableEq
def Vc.cells (v : Vc) : List Value := [.int .i64 v.slot, .int .i64 v.gen, .int .i64 v.stamp, .int .i64 v.thread]
def vcCells (l : List Vc) : List Value := l.flatMap Vc.cells
theorem vcCells_len (l : List Vc) : (vcCells l).length = l.length * 4 := by
  induction l with
  | nil => rfl
  | cons x l ih => simp [vcCells, Vc.cells] at ih ⊢; omega
theorem vcCells_snoc (l : List Vc) (x : Vc) : vcCells (l ++ [x]) = vcCells l ++ x.cells := by simp [vcCells]
/-- A look that is under way. -/
structure Lk where
  own : Int
  writes : Sg
  turns : List Int
  head : Hd
  words : List Int
  looked : Bool
  victims : List Vc
/-- The numbers below k but one. -/
def turnsTo (slot : Int) : Nat → List Int
  | 0 => []
  | k + 1 => if (k : Int) = slot then turnsTo slot k else turnsTo slot k ++ [(k : Int)]
def Lk.new (n : Nat) (slot : Int) (s : Sg) : Lk := ⟨slot, s, turnsTo slot n, Hd.zero, [], false, []⟩
def Lk.turn (x : Lk) : Lk := { x with turns := x.turns.tail, words := [], looked := false }
/-- The words as a signature. -/
def sgOf (ws : List Int) : Sg := ⟨(ws.getD 0 0).toNat, (ws.getD 1 0).toNat⟩
def Lk.met (x : Lk) : Bool := !((sgOf x.words).meet x.writes).none
def Lk.at_ (x : Lk) (h : Hd) : Lk := { x with head := h, looked := true }
def Lk.word (x : Lk) (v : Int) : Lk := { x with words := x.words ++ [v] }
def Lk.meets (x : Lk) (t : Int) : Lk := { x with victims := x.victims ++ [⟨t, x.head.gen, x.head.stamp, x.head.thread⟩] }
/-- A step: what it answers, the look, the space. -/
def Lk.step (x : Lk) (S : Sp) : Int × Lk × Sp :=
  match x.turns with
  | [] => (3, x, S)
  | t :: _ =>
    if x.looked = false then
      (1, if (S.look t).1.1.state ≠ 2 ∨ (S.look t).1.1.doomed = true then (x.at_ (S.look t).1.1).turn else x.at_ (S.look t).1.1, (S.look t).2)
    else
      (1, if x.words.length + 1 < 2 then x.word (S.word t x.words.length).1.1
        else if (x.word (S.word t x.words.length).1.1).met = true then ((x.word (S.word t x.words.length).1.1).meets t).turn
        else (x.word (S.word t x.words.length).1.1).turn, (S.word t x.words.length).2)
/-- A word of a signature. -/
def isU (x : Int) : Prop := 0 ≤ x ∧ x < 18446744073709551616
/-- What steps can make of one; k: how many at most. -/
structure Lk.Ok (k : Nat) (x : Lk) : Prop where
  sg : x.writes.ok
  turns : x.turns.length ≤ 8
  rng : ∀ t, t ∈ x.turns → 0 ≤ t ∧ t < 8
  words : x.words.length ≤ 1
  wu : ∀ v, v ∈ x.words → isU v
  vs : x.victims.length ≤ k
theorem Lk.Ok.wide {k j : Nat} {x : Lk} (h : x.Ok k) (hj : k ≤ j) : x.Ok j := ⟨h.sg, h.turns, h.rng, h.words, h.wu, Nat.le_trans h.vs hj⟩
theorem turnsTo_len (slot : Int) : ∀ k, (turnsTo slot k).length ≤ k
  | 0 => Nat.le_refl _
  | k + 1 => by
    have := turnsTo_len slot k
    unfold turnsTo
    split
    · omega
    · simp; omega
theorem turnsTo_rng (slot : Int) : ∀ k t, t ∈ turnsTo slot k → 0 ≤ t ∧ t < k
  | 0, t, h => by simp [turnsTo] at h
  | k + 1, t, h => by
    have hh := turnsTo_rng slot k t
    unfold turnsTo at h
    split at h
    · have := hh h; omega
    · rw [List.mem_append] at h
      rcases h with h | h
      · have := hh h; omega
      · simp at h; omega
theorem Lk.new_ok {n : Nat} (hn : n ≤ 8) (slot : Int) {s : Sg} (hs : s.ok) : (Lk.new n slot s).Ok 0 :=
  ⟨hs, Nat.le_trans (turnsTo_len slot n) hn, fun t ht => by have := turnsTo_rng slot n t ht; omega, by simp [Lk.new], by simp [Lk.new], by simp [Lk.new]⟩
theorem Lk.Ok.turn {k : Nat} {x : Lk} (h : x.writes.ok) (h1 : x.turns.length ≤ 8) (h2 : ∀ t, t ∈ x.turns → 0 ≤ t ∧ t < 8) (h3 : x.victims.length ≤ k) : x.turn.Ok k :=
  ⟨h, by have := List.length_tail (l := x.turns); show x.turns.tail.length ≤ 8; omega, fun t ht => h2 t (List.mem_of_mem_tail ht), by simp [Lk.turn], by simp [Lk.turn], h3⟩
/-- All words of a space are words. -/
def Sp.wu (S : Sp) : Prop := ∀ v, v ∈ S.W → isU v
theorem Sp.wu.word {S : Sp} (h : S.wu) (i j : Int) : isU (S.word i j).1.1 := by
  unfold Sp.word
  split
  · exact ⟨by simp, by simp⟩
  · rename_i x hx
    exact h x (List.mem_of_getElem? (wnth_some hx).2.2)
theorem Lk.Ok.step {k : Nat} {x : Lk} {S : Sp} (h : x.Ok k) (hu : S.wu) : (x.step S).2.1.Ok (k + 1) := by
  have hw := h.wide (Nat.le_succ k)
  unfold Lk.step
  split
  · exact hw
  · rename_i t tl ht
    split
    · rename_i hl
      split
      · exact Lk.Ok.turn h.sg h.turns h.rng hw.vs
      · exact ⟨h.sg, h.turns, h.rng, h.words, h.wu, hw.vs⟩
    · split
      · rename_i hl
        refine ⟨h.sg, h.turns, h.rng, by show (x.words ++ [_]).length ≤ 1; rw [List.length_append]; simp only [List.length_cons, List.length_nil]; omega, fun v hv => ?_, hw.vs⟩
        simp only [Lk.word, List.mem_append, List.mem_singleton] at hv
        rcases hv with hv | rfl
        · exact h.wu v hv
        · exact hu.word _ _
      · split
        · exact Lk.Ok.turn h.sg h.turns h.rng (by have := h.vs; show (x.victims ++ [_]).length ≤ _; rw [List.length_append]; simp only [List.length_cons, List.length_nil]; omega)
        · exact Lk.Ok.turn h.sg h.turns h.rng hw.vs
theorem Fit.lkstep {k : Nat} {S : Sp} (h : Fit k S) (x : Lk) : Fit (k + 1) (x.step S).2.2 := by
  unfold Lk.step
  split
  · exact h.succ
  · split
    · exact h.look _
    · exact h.word _ _
theorem Sp.look_W (S : Sp) (i : Int) : (S.look i).2.W = S.W := by unfold Sp.look; split <;> rfl
theorem Sp.word_W (S : Sp) (i j : Int) : (S.word i j).2.W = S.W := by unfold Sp.word; split <;> rfl
theorem Sp.wu.lkstep {S : Sp} (h : S.wu) (x : Lk) : (x.step S).2.2.wu := by
  unfold Lk.step
  split
  · exact h
  · split
    · unfold Sp.wu; rw [Sp.look_W]; exact h
    · unfold Sp.wu; rw [Sp.word_W]; exact h
/-- A dooming that is under way. -/
structure Dm where
  who : Int
  left : List Vc
  doomed : List Vc
def Dm.new (b : Int) (l : List Vc) : Dm := ⟨b, l, []⟩
def Dm.step (x : Dm) (S : Sp) : Int × Dm × Sp :=
  match x.left with
  | [] => (3, x, S)
  | v :: l => (1, if (S.doom v.slot v.gen x.who).1 = 0 then ⟨x.who, l, x.doomed ++ [v]⟩ else ⟨x.who, l, x.doomed⟩, (S.doom v.slot v.gen x.who).2)
theorem Fit.dmstep {k : Nat} {S : Sp} (h : Fit k S) (x : Dm) : Fit (k + 1) (x.step S).2.2 := by
  unfold Dm.step
  split
  · exact h.succ
  · exact h.doom _ _ _
end Go.Proofs.YtmlnedilbneekaaGreat

namespace Go.Proofs.YtmlnedilbneekaaGreat
open Go.RowKit
set_option linter.unusedVariables false
theorem Tryz.infoVc : (Tryz.prog.info? 113).map (fun i => (i.zero, i.size, i.bytes)) = some (some (.agg #[.int .i64 0, .int .i64 0, .int .i64 0, .int .i64 0]), 4, 32) := by kernel_rfl
/-- A look in block b: the slots to come, the words, the victims in three slices. -/
structure LkAt (w : World) (z : Sb) (b : Nat) (tv wv vv : Value) (x : Lk) : Prop where
  blk : Blk w b 189 #[PT z.p, .int .i64 x.own, .int .u64 (x.writes.a : Int), .int .u64 (x.writes.b : Int), tv, .int .i64 x.head.gen, .int .i64 x.head.state, .int .i64 x.head.stamp, .int .i64 x.head.thread, .bool x.head.doomed, .int .i64 x.head.who, wv, .bool x.looked, vv]
  turns : SlR w 3 1 tv x.turns.length (x.turns.map (Value.int .i64))
  words : w.ownsRow 0 45 1 wv x.words.length (x.words.map (Value.int .u64))
  vs : w.ownsRow 0 113 4 vv x.victims.length (vcCells x.victims)
def footL (b : Nat) (tv wv vv : Value) : List Nat := b :: (vblk tv ++ (vblk wv ++ vblk vv))
/-- A dooming in block b. -/
structure DmAt (w : World) (z : Sb) (b : Nat) (lv dv : Value) (x : Dm) : Prop where
  blk : Blk w b 193 #[PT z.p, .int .i64 x.who, lv, dv]
  left : SlR w 113 4 lv x.left.length (vcCells x.left)
  doomed : w.ownsRow 0 113 4 dv x.doomed.length (vcCells x.doomed)
  dif : ∀ q, q ∈ vblk lv → q ∉ vblk dv
def footD (b : Nat) (lv dv : Value) : List Nat := b :: (vblk lv ++ vblk dv)
/-- Blocks of a machine beside a space. -/
structure Apt (w0 w : World) (F G : List Nat) : Prop where
  low : ∀ y, y ∈ G → w0.heap.size ≤ y
  off : ∀ y, y ∈ G → y ∉ F
  ty : ∀ y, y ∈ G → ∃ t, tyOf w y = some t ∧ t ∉ spFix
/-- A look made since w0, beside a space that may write F; G: the blocks that are its own. -/
structure LK (w0 w : World) (z : Sb) (F : List Nat) (b : Nat) (G : List Nat) (x : Lk) : Prop where
  ex : ∃ tv wv vv, LkAt w z b tv wv vv x ∧ G = footL b tv wv vv
  low : ∀ y, y ∈ G → w0.heap.size ≤ y
  off : ∀ y, y ∈ G → y ∉ F
structure DM (w0 w : World) (z : Sb) (F : List Nat) (b : Nat) (G : List Nat) (x : Dm) : Prop where
  ex : ∃ lv dv, DmAt w z b lv dv x ∧ G = footD b lv dv
  low : ∀ y, y ∈ G → w0.heap.size ≤ y
  off : ∀ y, y ∈ G → y ∉ F
section
variable {w0 w w' w'' : World} {z : Sb} {F F' G G' X : List Nat} {S S' : Sp} {k b : Nat} {x x' : Lk} {y y' : Dm} {tv wv vv lv dv : Value}
theorem own_in {base size n : Nat} {t : TypeId} {v : Value} {xs : List Value} (h : w.ownsRow base t size v n xs) : ∀ q, q ∈ vblk v → tyOf w q = some t := fun q hq => own_tyOf h (by simpa [vblk] using hq)
theorem LkAt.keeps (h : LkAt w z b tv wv vv x) (hk : Keeps X w w') (hX : ∀ q, q ∈ footL b tv wv vv → q ∉ X) : LkAt w' z b tv wv vv x :=
  ⟨h.blk.keeps hk (hX b (by simp [footL])), h.turns.keeps hk (fun q hq => hX q (by simp [footL, hq])), own_keeps h.words hk (fun q hq => hX q (by simp [footL, vblk, hq])), own_keeps h.vs hk (fun q hq => hX q (by simp [footL, vblk, hq]))⟩
theorem DmAt.keeps (h : DmAt w z b lv dv y) (hk : Keeps X w w') (hX : ∀ q, q ∈ footD b lv dv → q ∉ X) : DmAt w' z b lv dv y :=
  ⟨h.blk.keeps hk (hX b (by simp [footD])), h.left.keeps hk (fun q hq => hX q (by simp [footD, hq])), own_keeps h.doomed hk (fun q hq => hX q (by simp [footD, vblk, hq])), h.dif⟩
theorem LkAt.ty (h : LkAt w z b tv wv vv x) : ∀ q, q ∈ footL b tv wv vv → ∃ t, tyOf w q = some t ∧ t ∉ spFix := fun q hq => by
  simp only [footL, List.mem_cons, List.mem_append] at hq
  rcases hq with rfl | hq | hq | hq
  · exact ⟨_, h.blk.tyOf, by decide⟩
  · exact ⟨_, h.turns.ty q hq, by decide⟩
  · exact ⟨_, own_in h.words q hq, by decide⟩
  · exact ⟨_, own_in h.vs q hq, by decide⟩
theorem DmAt.ty (h : DmAt w z b lv dv y) : ∀ q, q ∈ footD b lv dv → ∃ t, tyOf w q = some t ∧ t ∉ spFix := fun q hq => by
  simp only [footD, List.mem_cons, List.mem_append] at hq
  rcases hq with rfl | hq | hq
  · exact ⟨_, h.blk.tyOf, by decide⟩
  · exact ⟨_, h.left.ty q hq, by decide⟩
  · exact ⟨_, own_in h.doomed q hq, by decide⟩
theorem LK.apt (h : LK w0 w z F b G x) : Apt w0 w F G := by
  obtain ⟨⟨tv, wv, vv, h1, rfl⟩, h2, h3⟩ := h
  exact ⟨h2, h3, h1.ty⟩
theorem DM.apt (h : DM w0 w z F b G y) : Apt w0 w F G := by
  obtain ⟨⟨lv, dv, h1, rfl⟩, h2, h3⟩ := h
  exact ⟨h2, h3, h1.ty⟩
theorem Apt.lt (h : Apt w0 w F G) : ∀ q, q ∈ G → q < w.heap.size := fun q hq => by
  obtain ⟨t, ht, _⟩ := h.ty q hq
  exact tyOf_lt ht
/-- What a machine writes of its own leaves the space. -/
theorem SP.apt (h : SP w0 w z F S) (ha : Apt w0 w F G) (hk : Keeps X w w') (hX : ∀ q, q ∈ X → q ∈ G) : SP w0 w' z F S := h.away hk fun q hq => by
  refine ⟨ha.low q (hX q hq), ha.off q (hX q hq), fun t ht => ?_⟩
  obtain ⟨t', ht', hn⟩ := ha.ty q (hX q hq)
  rw [ht'] at ht; injection ht with ht; subst ht; exact hn
theorem LK.keeps (h : LK w0 w z F b G x) (hk : Keeps X w w') (hX : ∀ q, q ∈ G → q ∉ X) (hF : ∀ q, q ∈ F' → q ∈ F ∨ w.heap.size ≤ q) : LK w0 w' z F' b G x := by
  have hlt := h.apt.lt
  obtain ⟨⟨tv, wv, vv, h1, rfl⟩, h2, h3⟩ := h
  refine ⟨⟨tv, wv, vv, h1.keeps hk hX, rfl⟩, h2, fun q hq hf => ?_⟩
  have := hlt q hq
  rcases hF q hf with h4 | h4
  · exact h3 q hq h4
  · omega
theorem DM.keeps (h : DM w0 w z F b G y) (hk : Keeps X w w') (hX : ∀ q, q ∈ G → q ∉ X) (hF : ∀ q, q ∈ F' → q ∈ F ∨ w.heap.size ≤ q) : DM w0 w' z F' b G y := by
  have hlt := h.apt.lt
  obtain ⟨⟨lv, dv, h1, rfl⟩, h2, h3⟩ := h
  refine ⟨⟨lv, dv, h1.keeps hk hX, rfl⟩, h2, fun q hq hf => ?_⟩
  have := hlt q hq
  rcases hF q hf with h4 | h4
  · exact h3 q hq h4
  · omega
theorem LK.step (h : LK w0 w z F b G x) (hk : Keeps F w w') (hF : ∀ q, q ∈ F' → q ∈ F ∨ w.heap.size ≤ q) : LK w0 w' z F' b G x := h.keeps hk h.off hF
theorem DM.step (h : DM w0 w z F b G y) (hk : Keeps F w w') (hF : ∀ q, q ∈ F' → q ∈ F ∨ w.heap.size ≤ q) : DM w0 w' z F' b G y := h.keeps hk h.off hF
theorem LK.calm (h : LK w0 w z F b G x) (hk : Keeps [] w w') : LK w0 w' z F b G x := h.keeps hk (by simp) (fun q hq => .inl hq)
theorem DM.calm (h : DM w0 w z F b G y) (hk : Keeps [] w w') : DM w0 w' z F b G y := h.keeps hk (by simp) (fun q hq => .inl hq)
end
/-- What a call of a look leaves. -/
def WentL (w0 w w' : World) (z : Sb) (F G : List Nat) (b : Nat) (S' : Sp) (x' : Lk) : Prop :=
  ∃ F' G', SP w0 w' z F' S' ∧ LK w0 w' z F' b G' x' ∧ Keeps (G ++ F) w w' ∧ (∀ q, q ∈ F' → q ∈ F ∨ w.heap.size ≤ q) ∧ (∀ q, q ∈ G' → q ∈ G ∨ w.heap.size ≤ q)
def WentD (w0 w w' : World) (z : Sb) (F G : List Nat) (b : Nat) (S' : Sp) (y' : Dm) : Prop :=
  ∃ F' G', SP w0 w' z F' S' ∧ DM w0 w' z F' b G' y' ∧ Keeps (G ++ F) w w' ∧ (∀ q, q ∈ F' → q ∈ F ∨ w.heap.size ≤ q) ∧ (∀ q, q ∈ G' → q ∈ G ∨ w.heap.size ≤ q)
section
variable {w0 w w' w'' : World} {z : Sb} {F F' G G' X : List Nat} {S S' : Sp} {k b : Nat} {x x' : Lk} {y y' : Dm} {tv wv vv lv dv tv' wv' vv' lv' dv' : Value}
/-- A call of the space's, then writes of the look's own. -/
theorem WentL.of (hs : SP w0 w z F S) (hl : LK w0 w z F b G x) (h : Went w0 w w' z F S') (hk : Keeps X w' w'') (hX : ∀ q, q ∈ X → q ∈ G ∨ w'.heap.size ≤ q) (ha : LkAt w'' z b tv wv vv x') (hG : ∀ q, q ∈ footL b tv wv vv → q ∈ G ∨ w'.heap.size ≤ q) : WentL w0 w w'' z F G b S' x' := by
  obtain ⟨F', h1, h2, h3⟩ := h
  have hl' := hl.step h2 h3
  have hsz := h2.size
  have hz := h1.keep.size
  have hk' : Keeps G w' w'' := hk.mono hX
  refine ⟨F', _, h1.apt hl'.apt hk' (fun q hq => hq), ⟨⟨tv, wv, vv, ha, rfl⟩, fun q hq => ?_, fun q hq hf => ?_⟩, (h2.mono (T := G ++ F) (fun q hq => .inl (by simp [hq]))).trans hk' (fun q hq => .inl (by simp [hq])), h3, fun q hq => ?_⟩
  · rcases hG q hq with h4 | h4
    · exact hl.low q h4
    · omega
  · rcases hG q hq with h4 | h4
    · exact hl'.off q h4 hf
    · have := h1.lt q hf; omega
  · rcases hG q hq with h4 | h4
    · exact .inl h4
    · exact .inr (by omega)
theorem WentD.of (hs : SP w0 w z F S) (hl : DM w0 w z F b G y) (h : Went w0 w w' z F S') (hk : Keeps X w' w'') (hX : ∀ q, q ∈ X → q ∈ G ∨ w'.heap.size ≤ q) (ha : DmAt w'' z b lv dv y') (hG : ∀ q, q ∈ footD b lv dv → q ∈ G ∨ w'.heap.size ≤ q) : WentD w0 w w'' z F G b S' y' := by
  obtain ⟨F', h1, h2, h3⟩ := h
  have hl' := hl.step h2 h3
  have hsz := h2.size
  have hz := h1.keep.size
  have hk' : Keeps G w' w'' := hk.mono hX
  refine ⟨F', _, h1.apt hl'.apt hk' (fun q hq => hq), ⟨⟨lv, dv, ha, rfl⟩, fun q hq => ?_, fun q hq hf => ?_⟩, (h2.mono (T := G ++ F) (fun q hq => .inl (by simp [hq]))).trans hk' (fun q hq => .inl (by simp [hq])), h3, fun q hq => ?_⟩
  · rcases hG q hq with h4 | h4
    · exact hl.low q h4
    · omega
  · rcases hG q hq with h4 | h4
    · exact hl'.off q h4 hf
    · have := h1.lt q hf; omega
  · rcases hG q hq with h4 | h4
    · exact .inl h4
    · exact .inr (by omega)
theorem WentL.still (hs : SP w0 w z F S) (hl : LK w0 w z F b G x) (hk : Keeps [] w w') : WentL w0 w w' z F G b S x :=
  ⟨F, G, hs.calm hk, hl.calm hk, hk.mono (by simp), fun q hq => .inl hq, fun q hq => .inl hq⟩
theorem WentD.still (hs : SP w0 w z F S) (hl : DM w0 w z F b G y) (hk : Keeps [] w w') : WentD w0 w w' z F G b S y :=
  ⟨F, G, hs.calm hk, hl.calm hk, hk.mono (by simp), fun q hq => .inl hq, fun q hq => .inl hq⟩
end
end Go.Proofs.YtmlnedilbneekaaGreat
