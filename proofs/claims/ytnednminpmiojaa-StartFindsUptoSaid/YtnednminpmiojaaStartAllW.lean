/- StartAll: eight begins in the world. -/
import Derived.Test.YtnednminpmiojaaStartAllP
namespace Go.Proofs.Ytnednminpmiojaa
open Go.RowKit
set_option linter.unusedVariables false
namespace SA
def msum (n : Nat) (P : Nat → Pz) : Nat → Nat
  | 0 => 0
  | m + 1 => msum n P m + mu n (P m)
theorem msum_upd (n : Nat) (P : Nat → Pz) (i : Nat) (p : Pz) : ∀ m, msum n (upd P i p) m + (if i < m then mu n (P i) else 0) = msum n P m + (if i < m then mu n p else 0)
  | 0 => by simp [msum]
  | m + 1 => by
    have ih := msum_upd n P i p m
    simp only [msum]
    by_cases h : m = i
    · subst h
      simp [upd] at ih ⊢
      omega
    · have e : upd P i p m = P m := by simp [upd, h]
      rw [e]
      by_cases h2 : i < m
      · simp [h2] at ih ⊢; rw [if_pos (by omega), if_pos (by omega)]; omega
      · simp [h2] at ih ⊢; rw [if_neg (by omega), if_neg (by omega)]; omega
theorem mu_le (n : Nat) (p : Pz) : mu n p ≤ n + 4 := by cases p <;> simp [mu] <;> omega
theorem msum_start (n : Nat) : ∀ m, msum n (fun _ => .seek 0) m = m * (n + 4)
  | 0 => by simp [msum]
  | m + 1 => by simp only [msum, msum_start n m, mu]; rw [Nat.add_mul]; omega
/-- How many of the first n are marked. -/
def cnt : Nat → (Nat → Bool) → Nat
  | 0, _ => 0
  | n + 1, T => cnt n T + (if T n then 1 else 0)
theorem cnt_upd (T : Nat → Bool) (j : Nat) (hT : T j = false) : ∀ n, cnt n (fun k => if k = j then true else T k) = cnt n T + (if j < n then 1 else 0)
  | 0 => by simp [cnt]
  | n + 1 => by
    simp only [cnt, cnt_upd T j hT n]
    by_cases h : n = j
    · subst h; simp [hT]
    · have e : (if n = j then true else T n) = T n := if_neg h
      simp only [e]
      by_cases h2 : j < n
      · rw [if_pos h2, if_pos (show j < n + 1 by omega)]; omega
      · rw [if_neg h2, if_neg (show ¬ j < n + 1 by omega)]; omega
theorem cnt_zero : ∀ n, cnt n (fun _ => false) = 0
  | 0 => rfl
  | n + 1 => by simp [cnt, cnt_zero n]
theorem cnt_le (T : Nat → Bool) : ∀ n, cnt n T ≤ n
  | 0 => by simp [cnt]
  | n + 1 => by have := cnt_le T n; simp only [cnt]; split <;> omega
theorem cnt_all (T : Nat → Bool) : ∀ n, (∀ j, j < n → T j = true) → cnt n T = n
  | 0, _ => by simp [cnt]
  | n + 1, h => by simp only [cnt]; rw [cnt_all T n (fun j hj => h j (by omega)), h n (by omega)]; rfl
theorem cnt_lt (T : Nat → Bool) : ∀ n j, j < n → T j = false → cnt n T < n
  | 0, j, h, _ => absurd h (by omega)
  | n + 1, j, h, hT => by
    simp only [cnt]
    by_cases e : j = n
    · subst e; rw [hT]; have := cnt_le T j; simp; omega
    · have := cnt_lt T n j (by omega) hT; split <;> omega
theorem live_of {n : Nat} {H : List Hd} {i : Nat} {p : Pz} (h : Own n H i p) (hm : mu n p = 0) : (∃ s, p = .live s ∧ s < n ∧ H[s]? = some (alive i)) ∨ p = .lost := by
  cases p with
  | seek s => simp [mu] at hm
  | hold s c => have := h.2.1; simp [mu] at hm; omega
  | live s => exact .inl ⟨s, rfl, h⟩
  | lost => exact .inr rfl
theorem fin {n : Nat} {P : Nat → Pz} {H : List Hd} (h : Inv n P H) (hm : ∀ i, i < 8 → mu n (P i) = 0) (h8 : n ≤ 8) {T : Nat → Bool} {got : Nat} (hg : got = cnt n T)
    (hT : ∀ j, j < n → (T j = true ↔ ∃ k, k < 8 ∧ P k = .live j)) (hall : (∀ k, k < 8 → ∃ s, P k = .live s) → got = 8) : got = n := by
  by_cases hz : ∀ j, j < n → T j = true
  · rw [hg, cnt_all T n hz]
  · exfalso
    apply hz
    intro j hj
    rcases hTj : T j with _ | _
    · exfalso
      have hno : ¬ ∃ k, k < 8 ∧ P k = .live j := fun hk => by have := (hT j hj).2 hk; rw [hTj] at this; cases this
      have hlt := cnt_lt T n j hj hTj
      rcases h.each j hj with h1 | ⟨i, hi, h1⟩
      · have := hall (fun k hk => by
          rcases live_of (h.own k hk) (hm k hk) with ⟨s, h2, _⟩ | h2
          · exact ⟨s, h2⟩
          · have ho := h.own k hk
            rw [h2] at ho
            obtain ⟨x, hx, h0⟩ := ho j hj
            rw [h1] at hx
            injection hx with hx
            subst hx
            exact absurd rfl h0)
        omega
      · rcases live_of (h.own i hi) (hm i hi) with ⟨s, h2, _⟩ | h2
        · rw [h2] at h1
          simp [Has] at h1
          subst h1
          exact hno ⟨i, hi, h2⟩
        · rw [h2] at h1
          exact h1
    · rfl
end SA
open SA
/-- The eight begins and the space. -/
structure Eight (w wr : World) (z : Sb) (n : Nat) (B : Nat → Nat) (P : Nat → Pz) : Prop where
  ex : ∃ F S k, SP w wr z F S ∧ Fit k S ∧ k + msum n P 8 ≤ 96 ∧ SA.Inv n P S.H ∧ S.W = List.replicate (2 * n) 0
  at_ : ∀ i, i < 8 → StAt wr z (B i) (SA.st n i (P i)) ∧ w.heap.size ≤ B i
  dif : ∀ i j, i < 8 → j < 8 → i ≠ j → B i ≠ B j
  n8 : n ≤ 8
section
variable {w wr w' : World} {z : Sb} {n : Nat} {B : Nat → Nat} {P : Nat → Pz}
theorem Eight.calm (h : Eight w wr z n B P) (hk : Keeps [] wr w') : Eight w w' z n B P := by
  obtain ⟨⟨F, S, k, h1, h2⟩, h3, h4, h5⟩ := h
  exact ⟨⟨F, S, k, h1.calm hk, h2⟩, fun i hi => ⟨Blk.keeps (h3 i hi).1 hk (by simp), (h3 i hi).2⟩, h4, h5⟩
theorem Eight.keep (h : Eight w wr z n B P) : Keeps [] w wr := by
  obtain ⟨⟨F, S, k, h1, _⟩, _⟩ := h
  exact h1.keep
theorem Eight.own (h : Eight w wr z n B P) {i : Nat} (hi : i < 8) : ∃ H : List Hd, Own n H i (P i) := by
  obtain ⟨⟨F, S, k, _, _, _, h4, _⟩, _⟩ := h
  exact ⟨S.H, h4.own i hi⟩
/-- A step of the begin i. A block zb that is none of these is as it was. -/
theorem Eight.step (h : Eight w wr z n B P) {i : Nat} (hi : i < 8) {zb : Nat} {t : TypeId} {cs : Array Value} (hb : Blk wr zb t cs) (ht : t ∉ spT) (ht2 : t ≠ 128) :
    Calls Try.prog 27 #[PT (B i)] wr fun e w' => ∃ (a : Int) (P' : Nat → Pz), e = .returned (.int .i64 a) ∧ Eight w w' z n B P' ∧ (∀ k, k ≠ i → P' k = P k) ∧ (0 < mu n (P i) → mu n (P' i) < mu n (P i)) ∧ (mu n (P i) = 0 → mu n (P' i) = 0) ∧ Blk w' zb t cs := by
  obtain ⟨⟨F, S, k, h1, h2, h3, h4, h5⟩, h6, h7, h8⟩ := h
  obtain ⟨ha, hlo⟩ := h6 i hi
  have hown := h4.own i hi
  have hz := zero_of h4
  obtain ⟨e1, e2, e3, e4, e5⟩ := step_is hi hown h4.len h5 hz
  refine (st_step h1 h2 (by omega) ha hlo (st_ok hown h8)).mono fun e w' ⟨he, ⟨F', g1, g2, g3⟩, g4⟩ => ⟨_, upd P i (nx n S.H i (P i)).1, he, ?_, fun k hk => by simp [upd, hk], fun hm => ?_, fun hm => ?_, ?_⟩
  · refine ⟨?_, fun k hk => ?_, h7, h8⟩
    · by_cases hm : mu n (P i) = 0
      · have hS := e5 hm
        rw [hS] at g1 e2
        have hp := inv_next h4 hi
        rw [← e2] at hp
        have hmp : mu n (nx n S.H i (P i)).1 = 0 := by
          cases hp' : P i with
          | seek s => rw [hp'] at hm; simp [mu] at hm
          | hold s c => rw [hp'] at hm hown; have := hown.2.1; simp [mu] at hm; omega
          | live s => rfl
          | lost => rfl
        have hs := msum_upd n P i (nx n S.H i (P i)).1 8
        rw [if_pos hi, if_pos hi] at hs
        exact ⟨F', S, k, g1, h2, by omega, hp, h5⟩
      · have hs := msum_upd n P i (nx n S.H i (P i)).1 8
        rw [if_pos hi, if_pos hi] at hs
        have hd := mu_next (i := i) hown h4.len (by omega)
        have hp := inv_next h4 hi
        rw [← e2] at hp
        exact ⟨F', _, k + 1, g1, h2.step _, by omega, hp, by rw [e3]; exact h5⟩
    · by_cases hki : k = i
      · subst hki
        simp only [upd, if_pos]
        rw [← e1]
        exact ⟨g4, hlo⟩
      · have hk1 := (h6 k hk).1
        have hne : B k ∉ B i :: F := by
          simp only [List.mem_cons, not_or]
          exact ⟨h7 k i hk hi hki, hk1.off h1⟩
        simp only [upd, if_neg hki]
        exact ⟨Blk.keeps hk1 g2 hne, (h6 k hk).2⟩
  · simp only [upd, if_pos]; exact mu_next hown h4.len hm
  · simp only [upd, if_pos]
    cases hp' : P i with
    | seek s => rw [hp'] at hm; simp [mu] at hm
    | hold s c => rw [hp'] at hm hown; have := hown.2.1; simp [mu] at hm; omega
    | live s => rfl
    | lost => rfl
  · refine hb.keeps g2 ?_
    simp only [List.mem_cons, not_or]
    exact ⟨hb.ne_ ha ht2, h1.out hb ht⟩
theorem Eight.done (h : Eight w wr z n B P) {i : Nat} (hi : i < 8) : Calls Try.prog 28 #[PT (B i)] wr fun e w' => e = .returned (.bool (decide (mu n (P i) = 0))) ∧ wr = w' := by
  obtain ⟨⟨F, S, k, h1, h2, h3, h4, h5⟩, h6, h7, h8⟩ := h
  have hown := h4.own i hi
  have hd := st_done (h6 i hi).1
  rcases done_iff n i (P i) with h9 | ⟨s, c, h9, h10⟩
  · rw [h9] at hd; exact hd
  · rw [h9] at hown; have := hown.2.1; omega
end
end Go.Proofs.Ytnednminpmiojaa
