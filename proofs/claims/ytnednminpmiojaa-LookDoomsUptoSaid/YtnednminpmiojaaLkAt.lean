/- Layer 12: where a look and a dooming lie, beside a space. -/
import Derived.Test.YtnednminpmiojaaLocal
import Derived.Test.YtnednminpmiojaaLk
namespace Go.Proofs.Ytnednminpmiojaa
open Go.RowKit
set_option linter.unusedVariables false
/-- The block of a slice. -/
def vblk (v : Value) : List Nat := v.ownBlock.toList
/-- A slice whose cells are xs. -/
structure SlR (w : World) (t : TypeId) (size : Nat) (v : Value) (n : Nat) (xs : List Value) : Prop where
  len : xs.length = n * size
  ex : ∃ A c, v = .slice A n c ∧ n ≤ c ∧ c ≤ maxLen ∧ (∀ a, A = some a → tyOf w a.block = some t) ∧ (0 < n → ∃ b off, A = some ⟨b, off, none⟩ ∧ ∀ j u, xs[j]? = some u → w.cell? ⟨b, off + j, none⟩ = some u)
section
variable {w w' : World} {t : TypeId} {size n : Nat} {v : Value} {xs : List Value} {X : List Nat}
theorem SlR.ty (h : SlR w t size v n xs) : ∀ y, y ∈ vblk v → tyOf w y = some t := by
  obtain ⟨_, A, c, rfl, _, _, h1, _⟩ := h
  intro y hy
  cases A with
  | none => simp [vblk, Value.ownBlock] at hy
  | some a => simp [vblk, Value.ownBlock] at hy; subst hy; exact h1 a rfl
theorem SlR.keeps (h : SlR w t size v n xs) (hk : Keeps X w w') (hX : ∀ y, y ∈ vblk v → y ∉ X) : SlR w' t size v n xs := by
  obtain ⟨h0, A, c, rfl, hc, hm, h1, h2⟩ := h
  refine ⟨h0, A, c, rfl, hc, hm, fun a ha => tyOf_keeps (h1 a ha) hk (hX _ (by subst ha; simp [vblk, Value.ownBlock])), fun hn => ?_⟩
  obtain ⟨b, off, rfl, h3⟩ := h2 hn
  refine ⟨b, off, rfl, fun j u hu => ?_⟩
  have := tyOf_lt (h1 _ rfl)
  rw [← h3 j u hu]
  exact World.cell?_of_block (hk.block b this (hX b (by simp [vblk, Value.ownBlock])))
theorem SlR.nil (w : World) (t : TypeId) (size : Nat) : SlR w t size (.slice none 0 0) 0 [] := ⟨by simp, none, 0, rfl, Nat.le_refl _, by decide, (fun a h => by cases h), fun h => absurd h (by omega)⟩
theorem SlR.of_own {base : Nat} (h : w.ownsRow base t size v n xs) : SlR w t size v n xs := by
  refine ⟨h.1, ?_⟩
  rcases h.2 with ⟨rfl, rfl⟩ | ⟨g, cap, cur, rfl, hb, hg, h1, h2, h3⟩
  · exact ⟨none, 0, rfl, Nat.le_refl _, by decide, (fun a h => by cases h), fun h => absurd h (by omega)⟩
  · refine ⟨some ⟨g, 0, none⟩, cap, rfl, h1, ?_, fun a ha => ?_, fun _ => ⟨g, 0, rfl, fun j u hu => ?_⟩⟩
    · exact h2
    · injection ha with ha; subst ha
      exact Blk.tyOf (cs := cur) hg
    · have hc := h.cells (g := g) rfl j u hu
      have e : (⟨g, 0, none⟩ : Addr).add j = ⟨g, 0 + j, none⟩ := by unfold Addr.add; split <;> simp_all
      rwa [e] at hc
/-- The first one is cut off. -/
theorem SlR.cut {A : Option Addr} {c : Nat} (h : SlR w t size (.slice A (n + 1) c) (n + 1) xs) : SlR w t size (.slice (if c = 1 then A else A.map (·.add (1 * size))) n (c - 1)) n (xs.drop size) ∧ ∀ y, y ∈ vblk (.slice (if c = 1 then A else A.map (·.add (1 * size))) n (c - 1)) → y ∈ vblk (.slice A (n + 1) c) := by
  obtain ⟨h0, A', c', e, hc, hm, h1, h2⟩ := h
  injection e with e1 _ e3
  subst e1 e3
  obtain ⟨b, off, rfl, h3⟩ := h2 (by omega)
  have ea : (⟨b, off, none⟩ : Addr).add (1 * size) = ⟨b, off + size, none⟩ := by unfold Addr.add; split <;> simp_all
  by_cases hc1 : c = 1
  · rw [if_pos hc1]
    have hn : n = 0 := by omega
    subst hn
    refine ⟨⟨by simp at h0 ⊢; omega, _, _, rfl, by omega, by omega, h1, fun h => absurd h (by omega)⟩, fun y hy => hy⟩
  · rw [if_neg hc1]
    simp only [Option.map_some, ea]
    refine ⟨⟨by simp at h0 ⊢; rw [h0, Nat.succ_mul]; omega, _, _, rfl, by omega, by omega, fun a ha => ?_, fun _ => ⟨b, off + size, rfl, fun j u hu => ?_⟩⟩, fun y hy => hy⟩
    · injection ha with ha; subst ha
      have hb0 := h1 ⟨b, off, none⟩ rfl
      exact hb0
    · rw [List.getElem?_drop] at hu
      have := h3 _ u hu
      rw [Nat.add_assoc]
      exact this
/-- One that is not empty: its address; cut. -/
theorem SlR.spot (h : SlR w t size v (n + 1) xs) : ∃ g off c, v = .slice (some ⟨g, off, none⟩) (n + 1) c ∧ n + 1 ≤ c ∧ c ≤ maxLen ∧ (∀ j u, xs[j]? = some u → w.cell? ⟨g, off + j, none⟩ = some u) := by
  obtain ⟨h0, A, c, rfl, hc, hm, h1, h2⟩ := h
  obtain ⟨g, off, rfl, h3⟩ := h2 (by omega)
  exact ⟨g, off, c, rfl, hc, hm, h3⟩
theorem SlR.spot_pos (h : SlR w t size v n xs) (hn : 0 < n) : ∃ g off c, v = .slice (some ⟨g, off, none⟩) n c ∧ n ≤ c ∧ c ≤ maxLen ∧ (∀ j u, xs[j]? = some u → w.cell? ⟨g, off + j, none⟩ = some u) := by
  obtain ⟨h0, A, c, rfl, hc, hm, h1, h2⟩ := h
  obtain ⟨g, off, rfl, h3⟩ := h2 hn
  exact ⟨g, off, c, rfl, hc, hm, h3⟩
theorem SlR.cut1 {g off c : Nat} (h : SlR w t size (.slice (some ⟨g, off, none⟩) (n + 1) c) (n + 1) xs) : (c = 1 → SlR w t size (.slice (some ⟨g, off, none⟩) n (c - 1)) n (xs.drop size)) ∧ (c ≠ 1 → SlR w t size (.slice (some ⟨g, off + size, none⟩) n (c - 1)) n (xs.drop size)) := by
  have hc := h.cut.1
  have ea : (⟨g, off, none⟩ : Addr).add (1 * size) = ⟨g, off + size, none⟩ := by unfold Addr.add; split <;> simp_all
  refine ⟨fun e => ?_, fun e => ?_⟩
  · rw [if_pos e] at hc; exact hc
  · rw [if_neg e, Option.map_some, ea] at hc; exact hc
/-- One element, made for an append. -/
theorem made_row (w : World) (t : TypeId) (cs : Array Value) (k : Nat) (hk : w.heap.size = k) : (w.alloc (.cells cs t)).ownsRow 0 t cs.size (.slice (some ⟨k, 0, none⟩) 1 1) 1 cs.toList := by
  subst hk
  exact ⟨by simp, .inr ⟨w.heap.size, 1, cs, rfl, Nat.zero_le _, heap_alloc_new w _, Nat.le_refl _, by decide, by simp, by rw [Nat.one_mul]; exact List.take_of_length_le (by simp)⟩⟩
end
theorem Try.infoInt : (Try.prog.info? 3).map (fun i => (i.zero, i.size, i.bytes)) = some (some (.int .i64 0), 1, 8) := by kernel_rfl
theorem Try.infoU64 : (Try.prog.info? 55).map (fun i => (i.zero, i.size, i.bytes)) = some (some (.int .u64 0), 1, 8) := by kernel_rfl
theorem Try.infoVc : (Try.prog.info? 101).map (fun i => (i.zero, i.size, i.bytes)) = some (some (.agg #[.int .i64 0, .int .i64 0, .int .i64 0, .int .i64 0]), 4, 32) := by kernel_rfl
end Go.Proofs.Ytnednminpmiojaa

namespace Go.Proofs.Ytnednminpmiojaa
open Go.RowKit
set_option linter.unusedVariables false
/-- A look in block b: the slots to come, the words, the victims in three slices. -/
structure LkAt (w : World) (z : Sb) (b : Nat) (tv wv vv : Value) (x : Lk) : Prop where
  blk : Blk w b 148 #[PT z.p, .int .i64 x.own, .int .u64 (x.writes.a : Int), .int .u64 (x.writes.b : Int), tv, .int .i64 x.head.gen, .int .i64 x.head.state, .int .i64 x.head.stamp, .int .i64 x.head.thread, .bool x.head.doomed, .int .i64 x.head.who, wv, .bool x.looked, vv]
  turns : SlR w 3 1 tv x.turns.length (x.turns.map (Value.int .i64))
  words : w.ownsRow 0 55 1 wv x.words.length (x.words.map (Value.int .u64))
  vs : w.ownsRow 0 101 4 vv x.victims.length (vcCells x.victims)
def footL (b : Nat) (tv wv vv : Value) : List Nat := b :: (vblk tv ++ (vblk wv ++ vblk vv))
/-- A dooming in block b. -/
structure DmAt (w : World) (z : Sb) (b : Nat) (lv dv : Value) (x : Dm) : Prop where
  blk : Blk w b 150 #[PT z.p, .int .i64 x.who, lv, dv]
  left : SlR w 101 4 lv x.left.length (vcCells x.left)
  doomed : w.ownsRow 0 101 4 dv x.doomed.length (vcCells x.doomed)
  dif : ∀ q, q ∈ vblk lv → q ∉ vblk dv
def footD (b : Nat) (lv dv : Value) : List Nat := b :: (vblk lv ++ vblk dv)
/-- Blocks of a machine beside a space. -/
structure Apt (w0 w : World) (F G : List Nat) : Prop where
  low : ∀ y, y ∈ G → w0.heap.size ≤ y
  off : ∀ y, y ∈ G → y ∉ F
  ty : ∀ y, y ∈ G → ∃ t, tyOf w y = some t ∧ t ∉ spFix
/-- A look made since w0, beside a space that may write F; G: the blocks that are its own. -/
structure LK (w0 w : World) (z : Sb) (F : List Nat) (b : Nat) (G : List Nat) (x : Lk) : Prop where
  ex : ∃ tv wv vv, LkAt w z b tv wv vv x ∧ G = footL b tv wv vv
  low : ∀ y, y ∈ G → w0.heap.size ≤ y
  off : ∀ y, y ∈ G → y ∉ F
structure DM (w0 w : World) (z : Sb) (F : List Nat) (b : Nat) (G : List Nat) (x : Dm) : Prop where
  ex : ∃ lv dv, DmAt w z b lv dv x ∧ G = footD b lv dv
  low : ∀ y, y ∈ G → w0.heap.size ≤ y
  off : ∀ y, y ∈ G → y ∉ F
section
variable {w0 w w' w'' : World} {z : Sb} {F F' G G' X : List Nat} {S S' : Sp} {k b : Nat} {x x' : Lk} {y y' : Dm} {tv wv vv lv dv : Value}
theorem own_in {base size n : Nat} {t : TypeId} {v : Value} {xs : List Value} (h : w.ownsRow base t size v n xs) : ∀ q, q ∈ vblk v → tyOf w q = some t := fun q hq => own_tyOf h (by simpa [vblk] using hq)
theorem LkAt.keeps (h : LkAt w z b tv wv vv x) (hk : Keeps X w w') (hX : ∀ q, q ∈ footL b tv wv vv → q ∉ X) : LkAt w' z b tv wv vv x :=
  ⟨h.blk.keeps hk (hX b (by simp [footL])), h.turns.keeps hk (fun q hq => hX q (by simp [footL, hq])), own_keeps h.words hk (fun q hq => hX q (by simp [footL, vblk, hq])), own_keeps h.vs hk (fun q hq => hX q (by simp [footL, vblk, hq]))⟩
theorem DmAt.keeps (h : DmAt w z b lv dv y) (hk : Keeps X w w') (hX : ∀ q, q ∈ footD b lv dv → q ∉ X) : DmAt w' z b lv dv y :=
  ⟨h.blk.keeps hk (hX b (by simp [footD])), h.left.keeps hk (fun q hq => hX q (by simp [footD, hq])), own_keeps h.doomed hk (fun q hq => hX q (by simp [footD, vblk, hq])), h.dif⟩
theorem LkAt.ty (h : LkAt w z b tv wv vv x) : ∀ q, q ∈ footL b tv wv vv → ∃ t, tyOf w q = some t ∧ t ∉ spFix := fun q hq => by
  simp only [footL, List.mem_cons, List.mem_append] at hq
  rcases hq with rfl | hq | hq | hq
  · exact ⟨_, h.blk.tyOf, by decide⟩
  · exact ⟨_, h.turns.ty q hq, by decide⟩
  · exact ⟨_, own_in h.words q hq, by decide⟩
  · exact ⟨_, own_in h.vs q hq, by decide⟩
theorem DmAt.ty (h : DmAt w z b lv dv y) : ∀ q, q ∈ footD b lv dv → ∃ t, tyOf w q = some t ∧ t ∉ spFix := fun q hq => by
  simp only [footD, List.mem_cons, List.mem_append] at hq
  rcases hq with rfl | hq | hq
  · exact ⟨_, h.blk.tyOf, by decide⟩
  · exact ⟨_, h.left.ty q hq, by decide⟩
  · exact ⟨_, own_in h.doomed q hq, by decide⟩
theorem LK.apt (h : LK w0 w z F b G x) : Apt w0 w F G := by
  obtain ⟨⟨tv, wv, vv, h1, rfl⟩, h2, h3⟩ := h
  exact ⟨h2, h3, h1.ty⟩
theorem DM.apt (h : DM w0 w z F b G y) : Apt w0 w F G := by
  obtain ⟨⟨lv, dv, h1, rfl⟩, h2, h3⟩ := h
  exact ⟨h2, h3, h1.ty⟩
theorem Apt.lt (h : Apt w0 w F G) : ∀ q, q ∈ G → q < w.heap.size := fun q hq => by
  obtain ⟨t, ht, _⟩ := h.ty q hq
  exact tyOf_lt ht
/-- What a machine writes of its own leaves the space. -/
theorem SP.apt (h : SP w0 w z F S) (ha : Apt w0 w F G) (hk : Keeps X w w') (hX : ∀ q, q ∈ X → q ∈ G) : SP w0 w' z F S := h.away hk fun q hq => by
  refine ⟨ha.low q (hX q hq), ha.off q (hX q hq), fun t ht => ?_⟩
  obtain ⟨t', ht', hn⟩ := ha.ty q (hX q hq)
  rw [ht'] at ht; injection ht with ht; subst ht; exact hn
theorem LK.keeps (h : LK w0 w z F b G x) (hk : Keeps X w w') (hX : ∀ q, q ∈ G → q ∉ X) (hF : ∀ q, q ∈ F' → q ∈ F ∨ w.heap.size ≤ q) : LK w0 w' z F' b G x := by
  have hlt := h.apt.lt
  obtain ⟨⟨tv, wv, vv, h1, rfl⟩, h2, h3⟩ := h
  refine ⟨⟨tv, wv, vv, h1.keeps hk hX, rfl⟩, h2, fun q hq hf => ?_⟩
  have := hlt q hq
  rcases hF q hf with h4 | h4
  · exact h3 q hq h4
  · omega
theorem DM.keeps (h : DM w0 w z F b G y) (hk : Keeps X w w') (hX : ∀ q, q ∈ G → q ∉ X) (hF : ∀ q, q ∈ F' → q ∈ F ∨ w.heap.size ≤ q) : DM w0 w' z F' b G y := by
  have hlt := h.apt.lt
  obtain ⟨⟨lv, dv, h1, rfl⟩, h2, h3⟩ := h
  refine ⟨⟨lv, dv, h1.keeps hk hX, rfl⟩, h2, fun q hq hf => ?_⟩
  have := hlt q hq
  rcases hF q hf with h4 | h4
  · exact h3 q hq h4
  · omega
theorem LK.step (h : LK w0 w z F b G x) (hk : Keeps F w w') (hF : ∀ q, q ∈ F' → q ∈ F ∨ w.heap.size ≤ q) : LK w0 w' z F' b G x := h.keeps hk h.off hF
theorem DM.step (h : DM w0 w z F b G y) (hk : Keeps F w w') (hF : ∀ q, q ∈ F' → q ∈ F ∨ w.heap.size ≤ q) : DM w0 w' z F' b G y := h.keeps hk h.off hF
theorem LK.calm (h : LK w0 w z F b G x) (hk : Keeps [] w w') : LK w0 w' z F b G x := h.keeps hk (by simp) (fun q hq => .inl hq)
theorem DM.calm (h : DM w0 w z F b G y) (hk : Keeps [] w w') : DM w0 w' z F b G y := h.keeps hk (by simp) (fun q hq => .inl hq)
end
/-- What a call of a look leaves. -/
def WentL (w0 w w' : World) (z : Sb) (F G : List Nat) (b : Nat) (S' : Sp) (x' : Lk) : Prop :=
  ∃ F' G', SP w0 w' z F' S' ∧ LK w0 w' z F' b G' x' ∧ Keeps (G ++ F) w w' ∧ (∀ q, q ∈ F' → q ∈ F ∨ w.heap.size ≤ q) ∧ (∀ q, q ∈ G' → q ∈ G ∨ w.heap.size ≤ q)
def WentD (w0 w w' : World) (z : Sb) (F G : List Nat) (b : Nat) (S' : Sp) (y' : Dm) : Prop :=
  ∃ F' G', SP w0 w' z F' S' ∧ DM w0 w' z F' b G' y' ∧ Keeps (G ++ F) w w' ∧ (∀ q, q ∈ F' → q ∈ F ∨ w.heap.size ≤ q) ∧ (∀ q, q ∈ G' → q ∈ G ∨ w.heap.size ≤ q)
section
variable {w0 w w' w'' : World} {z : Sb} {F F' G G' X : List Nat} {S S' : Sp} {k b : Nat} {x x' : Lk} {y y' : Dm} {tv wv vv lv dv tv' wv' vv' lv' dv' : Value}
/-- A call of the space's, then writes of the look's own. -/
theorem WentL.of (hs : SP w0 w z F S) (hl : LK w0 w z F b G x) (h : Went w0 w w' z F S') (hk : Keeps X w' w'') (hX : ∀ q, q ∈ X → q ∈ G ∨ w'.heap.size ≤ q) (ha : LkAt w'' z b tv wv vv x') (hG : ∀ q, q ∈ footL b tv wv vv → q ∈ G ∨ w'.heap.size ≤ q) : WentL w0 w w'' z F G b S' x' := by
  obtain ⟨F', h1, h2, h3⟩ := h
  have hl' := hl.step h2 h3
  have hsz := h2.size
  have hz := h1.keep.size
  have hk' : Keeps G w' w'' := hk.mono hX
  refine ⟨F', _, h1.apt hl'.apt hk' (fun q hq => hq), ⟨⟨tv, wv, vv, ha, rfl⟩, fun q hq => ?_, fun q hq hf => ?_⟩, (h2.mono (T := G ++ F) (fun q hq => .inl (by simp [hq]))).trans hk' (fun q hq => .inl (by simp [hq])), h3, fun q hq => ?_⟩
  · rcases hG q hq with h4 | h4
    · exact hl.low q h4
    · omega
  · rcases hG q hq with h4 | h4
    · exact hl'.off q h4 hf
    · have := h1.lt q hf; omega
  · rcases hG q hq with h4 | h4
    · exact .inl h4
    · exact .inr (by omega)
theorem WentD.of (hs : SP w0 w z F S) (hl : DM w0 w z F b G y) (h : Went w0 w w' z F S') (hk : Keeps X w' w'') (hX : ∀ q, q ∈ X → q ∈ G ∨ w'.heap.size ≤ q) (ha : DmAt w'' z b lv dv y') (hG : ∀ q, q ∈ footD b lv dv → q ∈ G ∨ w'.heap.size ≤ q) : WentD w0 w w'' z F G b S' y' := by
  obtain ⟨F', h1, h2, h3⟩ := h
  have hl' := hl.step h2 h3
  have hsz := h2.size
  have hz := h1.keep.size
  have hk' : Keeps G w' w'' := hk.mono hX
  refine ⟨F', _, h1.apt hl'.apt hk' (fun q hq => hq), ⟨⟨lv, dv, ha, rfl⟩, fun q hq => ?_, fun q hq hf => ?_⟩, (h2.mono (T := G ++ F) (fun q hq => .inl (by simp [hq]))).trans hk' (fun q hq => .inl (by simp [hq])), h3, fun q hq => ?_⟩
  · rcases hG q hq with h4 | h4
    · exact hl.low q h4
    · omega
  · rcases hG q hq with h4 | h4
    · exact hl'.off q h4 hf
    · have := h1.lt q hf; omega
  · rcases hG q hq with h4 | h4
    · exact .inl h4
    · exact .inr (by omega)
theorem WentL.still (hs : SP w0 w z F S) (hl : LK w0 w z F b G x) (hk : Keeps [] w w') : WentL w0 w w' z F G b S x :=
  ⟨F, G, hs.calm hk, hl.calm hk, hk.mono (by simp), fun q hq => .inl hq, fun q hq => .inl hq⟩
theorem WentD.still (hs : SP w0 w z F S) (hl : DM w0 w z F b G y) (hk : Keeps [] w w') : WentD w0 w w' z F G b S y :=
  ⟨F, G, hs.calm hk, hl.calm hk, hk.mono (by simp), fun q hq => .inl hq, fun q hq => .inl hq⟩
end
end Go.Proofs.Ytnednminpmiojaa
