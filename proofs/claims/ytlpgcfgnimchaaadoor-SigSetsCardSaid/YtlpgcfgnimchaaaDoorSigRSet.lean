/- Signatures bit by bit: the plain law of the document's loops, and their blocks. -/
import Derived.Test.YtlpgcfgnimchaaaDoorSigBackP
import Derived.Test.YtlpgcfgnimchaaaDoorSigROf
namespace Go.Proofs.YtlpgcfgnimchaaaDoor
open Go.RowKit
set_option linter.unusedVariables false
/-- The bits below k that meet p, added to s. -/
def foldB (p : Nat → Bool) (s : Sg) : Nat → Sg
  | 0 => s
  | k + 1 => if p k then (foldB p s k).set k else foldB p s k
theorem foldB_yes {p : Nat → Bool} {s : Sg} {k : Nat} (h : p k = true) : foldB p s (k + 1) = (foldB p s k).set k := by unfold foldB; rw [if_pos h]; cases k <;> rfl
theorem foldB_no {p : Nat → Bool} {s : Sg} {k : Nat} (h : p k = false) : foldB p s (k + 1) = foldB p s k := by rw [foldB]; simp [h]
theorem foldB_ok (p : Nat → Bool) (s : Sg) (hs : s.ok) (k : Nat) (hk : k ≤ 128) : (foldB p s k).ok := by
  induction k with
  | zero => exact hs
  | succ k ih =>
    have ih := ih (by omega)
    cases h : p k
    · rw [foldB_no h]; exact ih
    · rw [foldB_yes h]; exact Sg.set_ok _ ih _ (by omega)
theorem foldB_has (p : Nat → Bool) (s : Sg) (i : Nat) (hi : i < 128) (k : Nat) (hk : k ≤ 128) : (foldB p s k).has i = (s.has i || (decide (i < k) && p i)) := by
  induction k with
  | zero => simp [foldB]
  | succ k ih =>
    have ih := ih (by omega)
    cases h : p k
    · rw [foldB_no h, ih]
      congr 1
      by_cases e : i = k
      · subst e; simp [h]
      · congr 1; exact decide_eq_decide.2 (by omega)
    · rw [foldB_yes h, Sg.has_set _ k i (by omega) hi, ih, Bool.or_assoc]
      congr 1
      by_cases e : k = i
      · subst e; simp [h]
      · have e1 : decide (k = i) = false := by simp [e]
        have e2 : decide (i < k + 1) = decide (i < k) := decide_eq_decide.2 (by omega)
        rw [e1, e2, Bool.or_false]
theorem Sg.zero_has (i : Nat) : Sg.zero.has i = false := by unfold Sg.has Sg.zero; split <;> simp
theorem has_join (a b : Sg) (i : Nat) : (a.join b).has i = (a.has i || b.has i) := by unfold Sg.has Sg.join; split <;> simp [Nat.testBit_or]
theorem has_meet (a b : Sg) (i : Nat) : (a.meet b).has i = (a.has i && b.has i) := by unfold Sg.has Sg.meet; split <;> simp [Nat.testBit_and]
theorem has_minus (a b : Sg) (ha : a.ok) (hb : b.ok) (i : Nat) : (a.minus b).has i = (a.has i && !b.has i) := by
  unfold Sg.has Sg.minus
  split
  · exact minusN_bit _ _ ha.1 hb.1 _
  · exact minusN_bit _ _ ha.2 hb.2 _
theorem fold_join (a b : Sg) (ha : a.ok) (hb : b.ok) : foldB b.has a 128 = a.join b := by
  refine Sg.ext_has (foldB_ok _ _ ha _ (by omega)) (Sg.join_ok ha hb) fun i hi => ?_
  rw [foldB_has _ _ i hi _ (by omega), has_join]
  simp [hi]
theorem fold_meet (a b : Sg) (ha : a.ok) (hb : b.ok) : foldB (fun i => a.has i && b.has i) Sg.zero 128 = a.meet b := by
  refine Sg.ext_has (foldB_ok _ _ zero_ok _ (by omega)) (Sg.meet_ok b ha) fun i hi => ?_
  rw [foldB_has _ _ i hi _ (by omega), has_meet, Sg.zero_has]
  simp [hi]
theorem fold_minus (a b : Sg) (ha : a.ok) (hb : b.ok) : foldB (fun i => a.has i && !b.has i) Sg.zero 128 = a.minus b := by
  refine Sg.ext_has (foldB_ok _ _ zero_ok _ (by omega)) (Sg.minus_ok b ha) fun i hi => ?_
  rw [foldB_has _ _ i hi _ (by omega), has_minus a b ha hb, Sg.zero_has]
  simp [hi]
theorem none_has {s : Sg} (hs : s.ok) : s.none = true ↔ ∀ i, i < 128 → s.has i = false := by
  constructor
  · intro h i _
    obtain ⟨a, b⟩ := s
    have h := Sg.none_yes.1 h
    simp only at h
    rw [h.1, h.2]
    exact Sg.zero_has i
  · intro h
    have e : s = Sg.zero := Sg.ext_has hs zero_ok fun i hi => by rw [h i hi, Sg.zero_has]
    rw [e]; rfl
/-- A bit above k - 1 that both have is still to come, if any. -/
theorem none_of_all {s : Sg} (hs : s.ok) (h : ∀ i, i < 128 → s.has i = false) : s.none = true := (none_has hs).2 h
theorem some_of {s : Sg} (hs : s.ok) (i : Nat) (hi : i < 128) (h : s.has i = true) : s.none = false := by
  cases hn : s.none
  · rfl
  · rw [(none_has hs).1 hn i hi] at h; cases h

/-- The four blocks of Meet and Minus. -/
def StB (w : World) (a b s : Sg) (wr : World) : Prop :=
  Blk wr w.heap.size 31 #[.int .u64 (a.a : Int), .int .u64 (a.b : Int)] ∧ Blk wr (w.heap.size + 1) 31 #[.int .u64 (b.a : Int), .int .u64 (b.b : Int)] ∧ Blk wr (w.heap.size + 1 + 1) 31 #[.int .u64 0, .int .u64 0] ∧
    Blk wr (w.heap.size + 1 + 1 + 1) 31 #[.int .u64 (s.a : Int), .int .u64 (s.b : Int)] ∧ Keeps [] w wr
theorem StB.start (w : World) (a b : Sg) : StB w a b Sg.zero ((((w.alloc (.cells #[.int .u64 (a.a : Int), .int .u64 (a.b : Int)] 31)).alloc (.cells #[.int .u64 (b.a : Int), .int .u64 (b.b : Int)] 31)).alloc (.cells #[.int .u64 0, .int .u64 0] 31)).alloc (.cells #[.int .u64 0, .int .u64 0] 31)) :=
  ⟨(((Blk.new _ _ _).alloc _).alloc _).alloc _, (Blk.alloc (new_at _ _ _ (by simp)) _).alloc _, Blk.alloc (new_at _ _ _ (by simp)) _, new_at _ _ _ (by simp), ((((Keeps.refl _ _).alloc _).alloc _).alloc _).alloc _⟩
theorem StB.keeps {w wr w' : World} {a b s : Sg} (h : StB w a b s wr) (hk : Keeps [] wr w') : StB w a b s w' :=
  ⟨h.1.keeps hk (by simp), h.2.1.keeps hk (by simp), h.2.2.1.keeps hk (by simp), h.2.2.2.1.keeps hk (by simp), h.2.2.2.2.trans hk (by simp)⟩
theorem StB.cells {w wr : World} {a b s : Sg} (h : StB w a b s wr) :
    wr.cell? ⟨w.heap.size, 0, none⟩ = some (.int .u64 (a.a : Int)) ∧ wr.cell? ⟨w.heap.size, 1, none⟩ = some (.int .u64 (a.b : Int)) ∧ wr.cell? ⟨w.heap.size + 1, 0, none⟩ = some (.int .u64 (b.a : Int)) ∧ wr.cell? ⟨w.heap.size + 1, 1, none⟩ = some (.int .u64 (b.b : Int)) ∧
    wr.cell? ⟨w.heap.size + 1 + 1, 0, none⟩ = some (.int .u64 0) ∧ wr.cell? ⟨w.heap.size + 1 + 1, 1, none⟩ = some (.int .u64 0) ∧ wr.cell? ⟨w.heap.size + 1 + 1 + 1, 0, none⟩ = some (.int .u64 (s.a : Int)) ∧ wr.cell? ⟨w.heap.size + 1 + 1 + 1, 1, none⟩ = some (.int .u64 (s.b : Int)) ∧
    wr.frozen? ⟨w.heap.size + 1 + 1, 0, none⟩ = false ∧ wr.frozen? ⟨w.heap.size + 1 + 1, 1, none⟩ = false ∧ wr.frozen? ⟨w.heap.size + 1 + 1 + 1, 0, none⟩ = false ∧ wr.frozen? ⟨w.heap.size + 1 + 1 + 1, 1, none⟩ = false :=
  ⟨(h.1.cell 0).trans rfl, (h.1.cell 1).trans rfl, (h.2.1.cell 0).trans rfl, (h.2.1.cell 1).trans rfl, (h.2.2.1.cell 0).trans rfl, (h.2.2.1.cell 1).trans rfl, (h.2.2.2.1.cell 0).trans rfl, (h.2.2.2.1.cell 1).trans rfl, h.2.2.1.frozen 0, h.2.2.1.frozen 1, h.2.2.2.1.frozen 0, h.2.2.2.1.frozen 1⟩
theorem StB.next {w wr : World} {a b s : Sg} (h : StB w a b s wr) (s' : Sg) : StB w a b s' ((wr.setCell ⟨w.heap.size + 1 + 1 + 1, 0, none⟩ (.int .u64 (s'.a : Int))).setCell ⟨w.heap.size + 1 + 1 + 1, 1, none⟩ (.int .u64 (s'.b : Int))) := by
  obtain ⟨h1, h2, h3, h4, h5⟩ := h
  refine ⟨(h1.far (by simp <;> omega) _).far (by simp <;> omega) _, (h2.far (by simp <;> omega) _).far (by simp <;> omega) _, (h3.far (by simp) _).far (by simp) _, ?_, (h5.setCell (.inr (by show _ ≤ _ + 1 + 1 + 1; omega)) _).setCell (.inr (by show _ ≤ _ + 1 + 1 + 1; omega)) _⟩
  have := (h4.set_ 0 (.int .u64 (s'.a : Int))).set_ 1 (.int .u64 (s'.b : Int))
  simpa using this
theorem St3.keeps {w wr w' : World} {p q c d : Nat} (h : St3 w p q c d wr) (hk : Keeps [] wr w') : St3 w p q c d w' :=
  ⟨h.1.keeps hk (by simp), h.2.1.keeps hk (by simp), h.2.2.1.keeps hk (by simp), h.2.2.2.trans hk (by simp)⟩
theorem St3.next {w wr : World} {p q c d : Nat} (h : St3 w p q c d wr) (p' q' : Nat) : St3 w p' q' c d ((wr.setCell ⟨w.heap.size, 0, none⟩ (.int .u64 (p' : Int))).setCell ⟨w.heap.size, 1, none⟩ (.int .u64 (q' : Int))) := by
  obtain ⟨h1, h2, h3, h5⟩ := h
  refine ⟨?_, (h2.far (by simp) _).far (by simp) _, (h3.far (by simp <;> omega) _).far (by simp <;> omega) _, (h5.setCell (.inr (Nat.le_refl _)) _).setCell (.inr (Nat.le_refl _)) _⟩
  have := (h1.set_ 0 (.int .u64 (p' : Int))).set_ 1 (.int .u64 (q' : Int))
  simpa using this
end Go.Proofs.YtlpgcfgnimchaaaDoor
