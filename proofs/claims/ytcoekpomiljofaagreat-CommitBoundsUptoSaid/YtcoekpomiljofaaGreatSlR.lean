/- Slices that are read and cut from the front; what a machine beside a space owns. -/
import Derived.Test.YtcoekpomiljofaaGreatLocal
namespace Go.Proofs.YtcoekpomiljofaaGreat
open Go.RowKit
set_option linter.unusedVariables false
/-- The block of a slice. -/
def vblk (v : Value) : List Nat := v.ownBlock.toList
/-- A slice whose cells are xs. -/
structure SlR (w : World) (t : TypeId) (size : Nat) (v : Value) (n : Nat) (xs : List Value) : Prop where
  len : xs.length = n * size
  ex : ∃ A c, v = .slice A n c ∧ n ≤ c ∧ c ≤ maxLen ∧ (∀ a, A = some a → tyOf w a.block = some t) ∧ (0 < n → ∃ b off, A = some ⟨b, off, none⟩ ∧ ∀ j u, xs[j]? = some u → w.cell? ⟨b, off + j, none⟩ = some u)
section
variable {w w' : World} {t : TypeId} {size n : Nat} {v : Value} {xs : List Value} {X : List Nat}
theorem SlR.ty (h : SlR w t size v n xs) : ∀ y, y ∈ vblk v → tyOf w y = some t := by
  obtain ⟨_, A, c, rfl, _, _, h1, _⟩ := h
  intro y hy
  cases A with
  | none => simp [vblk, Value.ownBlock] at hy
  | some a => simp [vblk, Value.ownBlock] at hy; subst hy; exact h1 a rfl
theorem SlR.keeps (h : SlR w t size v n xs) (hk : Keeps X w w') (hX : ∀ y, y ∈ vblk v → y ∉ X) : SlR w' t size v n xs := by
  obtain ⟨h0, A, c, rfl, hc, hm, h1, h2⟩ := h
  refine ⟨h0, A, c, rfl, hc, hm, fun a ha => tyOf_keeps (h1 a ha) hk (hX _ (by subst ha; simp [vblk, Value.ownBlock])), fun hn => ?_⟩
  obtain ⟨b, off, rfl, h3⟩ := h2 hn
  refine ⟨b, off, rfl, fun j u hu => ?_⟩
  have := tyOf_lt (h1 _ rfl)
  rw [← h3 j u hu]
  exact World.cell?_of_block (hk.block b this (hX b (by simp [vblk, Value.ownBlock])))
theorem SlR.nil (w : World) (t : TypeId) (size : Nat) : SlR w t size (.slice none 0 0) 0 [] := ⟨by simp, none, 0, rfl, Nat.le_refl _, by decide, (fun a h => by cases h), fun h => absurd h (by omega)⟩
theorem SlR.of_own {base : Nat} (h : w.ownsRow base t size v n xs) : SlR w t size v n xs := by
  refine ⟨h.1, ?_⟩
  rcases h.2 with ⟨rfl, rfl⟩ | ⟨g, cap, cur, rfl, hb, hg, h1, h2, h3⟩
  · exact ⟨none, 0, rfl, Nat.le_refl _, by decide, (fun a h => by cases h), fun h => absurd h (by omega)⟩
  · refine ⟨some ⟨g, 0, none⟩, cap, rfl, h1, ?_, fun a ha => ?_, fun _ => ⟨g, 0, rfl, fun j u hu => ?_⟩⟩
    · exact h2
    · injection ha with ha; subst ha
      exact Blk.tyOf (cs := cur) hg
    · have hc := h.cells (g := g) rfl j u hu
      have e : (⟨g, 0, none⟩ : Addr).add j = ⟨g, 0 + j, none⟩ := by unfold Addr.add; split <;> simp_all
      rwa [e] at hc
/-- The first one is cut off. -/
theorem SlR.cut {A : Option Addr} {c : Nat} (h : SlR w t size (.slice A (n + 1) c) (n + 1) xs) : SlR w t size (.slice (if c = 1 then A else A.map (·.add (1 * size))) n (c - 1)) n (xs.drop size) ∧ ∀ y, y ∈ vblk (.slice (if c = 1 then A else A.map (·.add (1 * size))) n (c - 1)) → y ∈ vblk (.slice A (n + 1) c) := by
  obtain ⟨h0, A', c', e, hc, hm, h1, h2⟩ := h
  injection e with e1 _ e3
  subst e1 e3
  obtain ⟨b, off, rfl, h3⟩ := h2 (by omega)
  have ea : (⟨b, off, none⟩ : Addr).add (1 * size) = ⟨b, off + size, none⟩ := by unfold Addr.add; split <;> simp_all
  by_cases hc1 : c = 1
  · rw [if_pos hc1]
    have hn : n = 0 := by omega
    subst hn
    refine ⟨⟨by simp at h0 ⊢; omega, _, _, rfl, by omega, by omega, h1, fun h => absurd h (by omega)⟩, fun y hy => hy⟩
  · rw [if_neg hc1]
    simp only [Option.map_some, ea]
    refine ⟨⟨by simp at h0 ⊢; rw [h0, Nat.succ_mul]; omega, _, _, rfl, by omega, by omega, fun a ha => ?_, fun _ => ⟨b, off + size, rfl, fun j u hu => ?_⟩⟩, fun y hy => hy⟩
    · injection ha with ha; subst ha
      have hb0 := h1 ⟨b, off, none⟩ rfl
      exact hb0
    · rw [List.getElem?_drop] at hu
      have := h3 _ u hu
      rw [Nat.add_assoc]
      exact this
/-- One that is not empty: its address; cut. -/
theorem SlR.spot (h : SlR w t size v (n + 1) xs) : ∃ g off c, v = .slice (some ⟨g, off, none⟩) (n + 1) c ∧ n + 1 ≤ c ∧ c ≤ maxLen ∧ (∀ j u, xs[j]? = some u → w.cell? ⟨g, off + j, none⟩ = some u) := by
  obtain ⟨h0, A, c, rfl, hc, hm, h1, h2⟩ := h
  obtain ⟨g, off, rfl, h3⟩ := h2 (by omega)
  exact ⟨g, off, c, rfl, hc, hm, h3⟩
theorem SlR.spot_pos (h : SlR w t size v n xs) (hn : 0 < n) : ∃ g off c, v = .slice (some ⟨g, off, none⟩) n c ∧ n ≤ c ∧ c ≤ maxLen ∧ (∀ j u, xs[j]? = some u → w.cell? ⟨g, off + j, none⟩ = some u) := by
  obtain ⟨h0, A, c, rfl, hc, hm, h1, h2⟩ := h
  obtain ⟨g, off, rfl, h3⟩ := h2 hn
  exact ⟨g, off, c, rfl, hc, hm, h3⟩
theorem SlR.cut1 {g off c : Nat} (h : SlR w t size (.slice (some ⟨g, off, none⟩) (n + 1) c) (n + 1) xs) : (c = 1 → SlR w t size (.slice (some ⟨g, off, none⟩) n (c - 1)) n (xs.drop size)) ∧ (c ≠ 1 → SlR w t size (.slice (some ⟨g, off + size, none⟩) n (c - 1)) n (xs.drop size)) := by
  have hc := h.cut.1
  have ea : (⟨g, off, none⟩ : Addr).add (1 * size) = ⟨g, off + size, none⟩ := by unfold Addr.add; split <;> simp_all
  refine ⟨fun e => ?_, fun e => ?_⟩
  · rw [if_pos e] at hc; exact hc
  · rw [if_neg e, Option.map_some, ea] at hc; exact hc
/-- One element, made for an append. -/
theorem made_row (w : World) (t : TypeId) (cs : Array Value) (k : Nat) (hk : w.heap.size = k) : (w.alloc (.cells cs t)).ownsRow 0 t cs.size (.slice (some ⟨k, 0, none⟩) 1 1) 1 cs.toList := by
  subst hk
  exact ⟨by simp, .inr ⟨w.heap.size, 1, cs, rfl, Nat.zero_le _, heap_alloc_new w _, Nat.le_refl _, by decide, by simp, by rw [Nat.one_mul]; exact List.take_of_length_le (by simp)⟩⟩
end
theorem Tryz.infoInt : (Tryz.prog.info? 3).map (fun i => (i.zero, i.size, i.bytes)) = some (some (.int .i64 0), 1, 8) := by kernel_rfl
theorem Tryz.infoU64 : (Tryz.prog.info? 76).map (fun i => (i.zero, i.size, i.bytes)) = some (some (.int .u64 0), 1, 8) := by kernel_rfl
end Go.Proofs.YtcoekpomiljofaaGreat
