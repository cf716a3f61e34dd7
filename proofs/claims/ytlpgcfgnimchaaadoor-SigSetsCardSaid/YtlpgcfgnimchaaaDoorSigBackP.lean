/- There and back: the plain law. -/
import Derived.Test.YtlpgcfgnimchaaaDoorSigSoundP
import Derived.Test.YtlpgcfgnimchaaaDoorSigCount
namespace Go.Proofs.YtlpgcfgnimchaaaDoor
set_option linter.unusedVariables false
theorem Sg.has_set (s : Sg) (j k : Nat) (hj : j < 128) (hk : k < 128) : (s.set j).has k = (s.has k || decide (j = k)) := by
  unfold Sg.has Sg.set
  by_cases h1 : j < 64 <;> by_cases h2 : k < 64 <;> simp only [h1, h2, if_true, if_false]
  · rw [Nat.testBit_or, Nat.testBit_two_pow]
  · have : ¬ j = k := by omega
    simp [this]
  · have : ¬ j = k := by omega
    simp [this]
  · rw [Nat.testBit_or, Nat.testBit_two_pow]
    congr 1
    apply decide_eq_decide.2
    omega
theorem Sg.ext_has {s t : Sg} (hs : s.ok) (ht : t.ok) (h : ∀ k, k < 128 → s.has k = t.has k) : s = t := by
  obtain ⟨a, b⟩ := s
  obtain ⟨c, d⟩ := t
  have e1 : a = c := by
    apply Nat.eq_of_testBit_eq
    intro i
    by_cases hi : i < 64
    · have := h i (by omega); simpa only [Sg.has, hi, if_true] using this
    · have h1 : a.testBit i = false := by cases hb : a.testBit i; rfl; exact absurd (bit_lt hs.1 hb) hi
      have h2 : c.testBit i = false := by cases hb : c.testBit i; rfl; exact absurd (bit_lt ht.1 hb) hi
      rw [h1, h2]
  have e2 : b = d := by
    apply Nat.eq_of_testBit_eq
    intro i
    by_cases hi : i < 64
    · have := h (i + 64) (by omega)
      have hn : ¬ i + 64 < 64 := by omega
      simpa only [Sg.has, hn, if_false, Nat.add_sub_cancel] using this
    · have h1 : b.testBit i = false := by cases hb : b.testBit i; rfl; exact absurd (bit_lt hs.2 hb) hi
      have h2 : d.testBit i = false := by cases hb : d.testBit i; rfl; exact absurd (bit_lt ht.2 hb) hi
      rw [h1, h2]
  rw [e1, e2]
theorem from_has (l : List Int) (k : Nat) (hk : k < 128) : ∀ (s : Sg), l.all isBit = true → (l.foldl (fun s b => s.set b.toNat) s).has k = (s.has k || decide ((k : Int) ∈ l)) := by
  induction l with
  | nil => intro s _; simp
  | cons x l ih =>
    intro s h
    simp only [List.all_cons, Bool.and_eq_true] at h
    have hx := isBit_yes.1 h.1
    rw [List.foldl_cons, ih _ h.2, Sg.has_set s _ k (by omega) hk]
    have e : decide (x.toNat = k) = decide ((k : Int) = x) := decide_eq_decide.2 (by omega)
    rw [e, Bool.or_assoc]
    congr 1
    rw [← Bool.decide_or]
    apply decide_eq_decide.2
    rw [List.mem_cons]
theorem bits_mem (s : Sg) (hs : s.ok) (k : Nat) (hk : k < 128) : (k : Int) ∈ bitsL s ↔ s.has k = true := by
  unfold bitsL
  rw [List.mem_append, List.mem_map, List.mem_map]
  unfold Sg.has
  by_cases h : k < 64
  · simp only [h, if_true]
    rw [← bl_mem s.a hs.1]
    constructor
    · rintro (⟨j, hj, e⟩ | ⟨j, hj, e⟩)
      · have : j = k := by omega
        exact this ▸ hj
      · omega
    · exact fun hj => .inl ⟨k, hj, rfl⟩
  · simp only [h, if_false]
    rw [← bl_mem s.b hs.2]
    constructor
    · rintro (⟨j, hj, e⟩ | ⟨j, hj, e⟩)
      · have := bit_lt hs.1 ((bl_mem s.a hs.1 j).1 hj)
        omega
      · have : j = k - 64 := by omega
        exact this ▸ hj
    · exact fun hj => .inr ⟨k - 64, hj, by omega⟩
theorem bits_all (s : Sg) (hs : s.ok) : (bitsL s).all isBit = true := by
  rw [List.all_eq_true]
  intro x hx
  unfold bitsL at hx
  rw [List.mem_append, List.mem_map, List.mem_map] at hx
  rcases hx with ⟨j, hj, rfl⟩ | ⟨j, hj, rfl⟩
  · have := bit_lt hs.1 ((bl_mem s.a hs.1 j).1 hj)
    exact isBit_yes.2 ⟨by omega, by omega⟩
  · have := bit_lt hs.2 ((bl_mem s.b hs.2 j).1 hj)
    exact isBit_yes.2 ⟨by omega, by omega⟩
theorem from_bits (s : Sg) (hs : s.ok) : fromR (bitsL s) = s ∧ fromE (bitsL s) = 0 := by
  have ha := bits_all s hs
  unfold fromR fromE
  rw [ha]
  refine ⟨?_, rfl⟩
  show fromL (bitsL s) = s
  refine Sg.ext_has (fromL_ok _ ha) hs fun k hk => ?_
  unfold fromL
  rw [from_has _ k hk _ ha]
  have hz : Sg.zero.has k = false := by unfold Sg.has Sg.zero; split <;> simp
  rw [hz, Bool.false_or]
  have := bits_mem s hs k hk
  cases hh : s.has k
  · rw [hh] at this; simpa using this
  · rw [hh] at this; simpa using this
theorem countP_split {α : Type} (l : List α) (p q r : α → Bool) (h : ∀ i, p i = (q i || r i)) (h2 : ∀ i, (q i && r i) = false) : l.countP p = l.countP q + l.countP r := by
  induction l with
  | nil => rfl
  | cons x l ih =>
    have h1 := h x
    have h3 := h2 x
    rw [List.countP_cons, List.countP_cons, List.countP_cons, ih, h1]
    cases hq : q x <;> cases hr : r x <;> simp_all <;> omega
theorem pc_meet (a b : Nat) (ha : a < 18446744073709551616) (hb : b < 18446744073709551616) : pc 64 (a &&& b) + pc 64 (minusN a b) = pc 64 a := by
  unfold pc
  refine (countP_split _ _ _ _ (fun i => ?_) (fun i => ?_)).symm
  · rw [Nat.testBit_and, minusN_bit a b ha hb i]; cases a.testBit i <;> cases b.testBit i <;> rfl
  · rw [Nat.testBit_and, minusN_bit a b ha hb i]; cases a.testBit i <;> cases b.testBit i <;> rfl
theorem pc_join (a b : Nat) (ha : a < 18446744073709551616) (hb : b < 18446744073709551616) : pc 64 (a ||| b) = pc 64 (minusN a b) + pc 64 b := by
  unfold pc
  refine countP_split _ _ _ _ (fun i => ?_) (fun i => ?_)
  · rw [Nat.testBit_or, minusN_bit a b ha hb i]; cases a.testBit i <;> cases b.testBit i <;> rfl
  · rw [minusN_bit a b ha hb i]; cases a.testBit i <;> cases b.testBit i <;> rfl
theorem cnt_meet (a b : Sg) (ha : a.ok) (hb : b.ok) : cnt (a.meet b) + cnt (a.minus b) = cnt a := by
  have h1 := pc_meet a.a b.a ha.1 hb.1
  have h2 := pc_meet a.b b.b ha.2 hb.2
  unfold cnt Sg.meet Sg.minus
  simp only
  omega
theorem cnt_join (a b : Sg) (ha : a.ok) (hb : b.ok) : cnt (a.join b) = cnt (a.minus b) + cnt b := by
  have h1 := pc_join a.a b.a ha.1 hb.1
  have h2 := pc_join a.b b.b ha.2 hb.2
  unfold cnt Sg.join Sg.minus
  simp only
  omega
theorem cnt_le (s : Sg) : cnt s ≤ 128 := by
  have h1 := pc_le 64 s.a
  have h2 := pc_le 64 s.b
  unfold cnt
  omega
theorem back_law (a b : Sg) (ha : a.ok) (hb : b.ok) : (a.meet b).join (a.minus b) = a ∧ ((a.minus b).meet b).none = true ∧ ((a.meet b).minus b).none = true ∧ ((a.meet b).minus a).none = true := by
  refine ⟨?_, Sg.none_yes.2 ⟨minus_meet _ _ ha.1 hb.1, minus_meet _ _ ha.2 hb.2⟩, Sg.none_yes.2 ⟨meet_in_right _ _ ha.1 hb.1, meet_in_right _ _ ha.2 hb.2⟩, Sg.none_yes.2 ⟨meet_in_left _ _ ha.1 hb.1, meet_in_left _ _ ha.2 hb.2⟩⟩
  obtain ⟨a1, a2⟩ := a
  unfold Sg.meet Sg.minus Sg.join
  simp only
  rw [meet_minus _ _ ha.1 hb.1, meet_minus _ _ ha.2 hb.2]
end Go.Proofs.YtlpgcfgnimchaaaDoor
