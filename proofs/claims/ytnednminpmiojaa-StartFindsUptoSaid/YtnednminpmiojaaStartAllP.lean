/- StartAll's plain law: eight begins over one table. No program in sight. -/
import Derived.Test.YtnednminpmiojaaStartAw
namespace Go.Proofs.Ytnednminpmiojaa
open Go.RowKit
set_option linter.unusedVariables false
/-- How far a begin is: it tries slot s; it has slot s and cleared c words; it lives in slot s; it found none. -/
inductive Pz where
  | seek (s : Nat)
  | hold (s c : Nat)
  | live (s : Nat)
  | lost
namespace SA
def st (n i : Nat) : Pz → St
  | .seek s => ⟨(i : Int) + 1, 10 + (i : Int), 0, s, 0, 0, 4⟩
  | .hold s c => ⟨(i : Int) + 1, 10 + (i : Int), if c = 2 then 2 else 1, s, 1, c, 4⟩
  | .live s => ⟨(i : Int) + 1, 10 + (i : Int), 3, s, 1, 2, 0⟩
  | .lost => ⟨(i : Int) + 1, 10 + (i : Int), 3, n, 0, 0, 6⟩
def held (i : Nat) : Hd := ⟨1, 1, 0, (i : Int) + 1, false, 0⟩
def alive (i : Nat) : Hd := ⟨1, 2, 10 + (i : Int), (i : Int) + 1, false, 0⟩
/-- A slot is taken. -/
def Tk (H : List Hd) (j : Nat) : Prop := ∃ h, H[j]? = some h ∧ h.state ≠ 0
def Own (n : Nat) (H : List Hd) (i : Nat) : Pz → Prop
  | .seek s => s < n ∧ ∀ j, j < s → Tk H j
  | .hold s c => s < n ∧ c ≤ 2 ∧ H[s]? = some (held i)
  | .live s => s < n ∧ H[s]? = some (alive i)
  | .lost => ∀ j, j < n → Tk H j
/-- It has this slot. -/
def Has (j : Nat) : Pz → Prop
  | .hold s _ => s = j
  | .live s => s = j
  | _ => False
structure Inv (n : Nat) (P : Nat → Pz) (H : List Hd) : Prop where
  len : H.length = n
  own : ∀ i, i < 8 → Own n H i (P i)
  each : ∀ j, j < n → H[j]? = some Hd.zero ∨ ∃ i, i < 8 ∧ Has j (P i)
def mu (n : Nat) : Pz → Nat
  | .seek s => n - s + 4
  | .hold _ c => 3 - c
  | .live _ => 0
  | .lost => 0
/-- The next. -/
def nx (n : Nat) (H : List Hd) (i : Nat) : Pz → Pz × List Hd
  | .seek s => match H[s]? with
    | some h => if h.state = 0 then (.hold s 0, H.set s (held i)) else if s + 1 = n then (.lost, H) else (.seek (s + 1), H)
    | none => (.seek s, H)
  | .hold s c => if c = 2 then (.live s, H.set s (alive i)) else (.hold s (c + 1), H)
  | .live s => (.live s, H)
  | .lost => (.lost, H)
def upd (P : Nat → Pz) (i : Nat) (p : Pz) : Nat → Pz := fun k => if k = i then p else P k
theorem has_head {n : Nat} {H : List Hd} {i j : Nat} {p : Pz} (h : Own n H i p) (hh : Has j p) : H[j]? = some (held i) ∨ H[j]? = some (alive i) := by
  cases p with
  | seek s => exact hh.elim
  | hold s c => simp [Has] at hh; subst hh; exact .inl h.2.2
  | live s => simp [Has] at hh; subst hh; exact .inr h.2
  | lost => exact hh.elim
theorem heads_ne {i k : Nat} {H : List Hd} {j : Nat} (h1 : H[j]? = some (held i) ∨ H[j]? = some (alive i)) (h2 : H[j]? = some (held k) ∨ H[j]? = some (alive k)) : i = k := by
  rcases h1 with h1 | h1 <;> rcases h2 with h2 | h2 <;> rw [h1] at h2 <;> simp [held, alive] at h2 <;> omega
/-- One slot of another's is written, none is freed. -/
theorem own_other {n : Nat} {H : List Hd} {k s : Nat} {y : Hd} {p : Pz} (h : Own n H k p) (hy : y.state ≠ 0) (hs : ¬ Has s p) : Own n (H.set s y) k p := by
  have tk : ∀ j, Tk H j → Tk (H.set s y) j := fun j ⟨x, hx, h0⟩ => by
    by_cases e : s = j
    · subst e
      have := (List.getElem?_eq_some_iff.1 hx).1
      exact ⟨y, by rw [List.getElem?_set_self this], hy⟩
    · exact ⟨x, by rw [List.getElem?_set_ne e]; exact hx, h0⟩
  cases p with
  | seek s' => exact ⟨h.1, fun j hj => tk j (h.2 j hj)⟩
  | hold s' c => exact ⟨h.1, h.2.1, by rw [List.getElem?_set_ne (fun e => hs e.symm)]; exact h.2.2⟩
  | live s' => exact ⟨h.1, by rw [List.getElem?_set_ne (fun e => hs e.symm)]; exact h.2⟩
  | lost => exact fun j hj => tk j (h j hj)
theorem inv_set {n : Nat} {P : Nat → Pz} {H : List Hd} (h : Inv n P H) {i s : Nat} (hi : i < 8) {y : Hd} {p : Pz} (hy : y.state ≠ 0) (hp : Own n (H.set s y) i p) (hps : Has s p)
    (ho : ∀ k, k < 8 → k ≠ i → ¬ Has s (P k)) (hmine : ∀ j, Has j (P i) → j = s) : Inv n (upd P i p) (H.set s y) := by
  refine ⟨by simpa using h.len, fun k hk => ?_, fun j hj => ?_⟩
  · by_cases e : k = i
    · subst e; simp [upd]; exact hp
    · simp [upd, e]; exact own_other (h.own k hk) hy (ho k hk e)
  · by_cases e : j = s
    · subst e; exact .inr ⟨i, hi, by simp [upd]; exact hps⟩
    · rw [List.getElem?_set_ne (Ne.symm e)]
      rcases h.each j hj with h1 | ⟨k, hk, h1⟩
      · exact .inl h1
      · refine .inr ⟨k, hk, ?_⟩
        by_cases e2 : k = i
        · subst e2; exact absurd (hmine j h1) e
        · simp [upd, e2]; exact h1
theorem inv_same {n : Nat} {P : Nat → Pz} {H : List Hd} (h : Inv n P H) {i : Nat} {p : Pz} (hp : Own n H i p) (hh : ∀ j, Has j (P i) → Has j p) : Inv n (upd P i p) H := by
  refine ⟨h.len, fun k hk => ?_, fun j hj => ?_⟩
  · by_cases e : k = i
    · subst e; simp [upd]; exact hp
    · simp [upd, e]; exact h.own k hk
  · rcases h.each j hj with h1 | ⟨k, hk, h1⟩
    · exact .inl h1
    · refine .inr ⟨k, hk, ?_⟩
      by_cases e : k = i
      · subst e; simp [upd]; exact hh j h1
      · simp [upd, e]; exact h1
theorem inv_next {n : Nat} {P : Nat → Pz} {H : List Hd} (h : Inv n P H) {i : Nat} (hi : i < 8) : Inv n (upd P i (nx n H i (P i)).1) (nx n H i (P i)).2 := by
  have ho := h.own i hi
  have hl := h.len
  cases hp : P i with
  | seek s =>
    rw [hp] at ho
    obtain ⟨hs, ht⟩ := ho
    obtain ⟨x, hx⟩ : ∃ x, H[s]? = some x := ⟨_, List.getElem?_eq_getElem (by omega)⟩
    simp only [nx, hx]
    by_cases h0 : x.state = 0
    · rw [if_pos h0]
      have hz : ∀ k, k < 8 → ¬ Has s (P k) := fun k hk hh => by
        rcases has_head (h.own k hk) hh with h1 | h1 <;> rw [hx] at h1 <;> injection h1 with h1 <;> subst h1 <;> simp [held, alive] at h0
      exact inv_set h hi (by simp [held]) ⟨hs, by omega, List.getElem?_set_self (by omega)⟩ rfl (fun k hk _ => hz k hk) (fun j hj => by rw [hp] at hj; exact hj.elim)
    · rw [if_neg h0]
      have ht' : ∀ j, j < s + 1 → Tk H j := fun j hj => by
        by_cases e : j = s
        · subst e; exact ⟨x, hx, h0⟩
        · exact ht j (by omega)
      by_cases hn : s + 1 = n
      · rw [if_pos hn]
        exact inv_same h (p := .lost) (fun j hj => ht' j (by omega)) (fun j hj => by rw [hp] at hj; exact hj.elim)
      · rw [if_neg hn]
        exact inv_same h (p := .seek (s + 1)) ⟨by omega, ht'⟩ (fun j hj => by rw [hp] at hj; exact hj.elim)
  | hold s c =>
    rw [hp] at ho
    obtain ⟨hs, hc, hx⟩ := ho
    simp only [nx]
    by_cases h2 : c = 2
    · rw [if_pos h2]
      refine inv_set h hi (by simp [alive]) ⟨hs, List.getElem?_set_self (by omega)⟩ rfl (fun k hk hki hh => hki ?_) (fun j hj => by rw [hp] at hj; exact hj.symm)
      exact (heads_ne (.inl hx) (has_head (h.own k hk) hh)).symm
    · rw [if_neg h2]
      exact inv_same h (p := .hold s (c + 1)) ⟨hs, by omega, hx⟩ (fun j hj => by rw [hp] at hj; exact hj)
  | live s => simp only [nx]; exact inv_same h (p := .live s) (by rw [hp] at ho; exact ho) (fun j hj => by rw [hp] at hj; exact hj)
  | lost => simp only [nx]; exact inv_same h (p := .lost) (by rw [hp] at ho; exact ho) (fun j hj => by rw [hp] at hj; exact hj)
theorem mu_next {n : Nat} {H : List Hd} {i : Nat} {p : Pz} (h : Own n H i p) (hl : H.length = n) (hm : 0 < mu n p) : mu n (nx n H i p).1 < mu n p := by
  cases p with
  | seek s =>
    obtain ⟨hs, _⟩ := h
    obtain ⟨x, hx⟩ : ∃ x, H[s]? = some x := ⟨_, List.getElem?_eq_getElem (by omega)⟩
    simp only [nx, hx]
    by_cases h0 : x.state = 0
    · rw [if_pos h0]; simp [mu]; try omega
    · rw [if_neg h0]
      by_cases hn : s + 1 = n
      · rw [if_pos hn]; simp [mu]
      · rw [if_neg hn]; simp [mu]; try omega
  | hold s c =>
    obtain ⟨_, hc, _⟩ := h
    simp only [nx]
    by_cases h2 : c = 2
    · rw [if_pos h2]; simp [mu]; try omega
    · rw [if_neg h2]; simp [mu]; try omega
  | live s => simp [mu] at hm
  | lost => simp [mu] at hm
theorem st_ok {n : Nat} {H : List Hd} {i : Nat} {p : Pz} (h : Own n H i p) (hn : n ≤ 8) : (st n i p).Ok := by
  cases p with
  | seek s => exact ⟨by simp [st], by have := h.1; simp [st]; omega, by simp [st], by simp [st], by simp [st], by simp [st]⟩
  | hold s c => exact ⟨by simp [st], by have := h.1; simp [st]; omega, by simp [st], by have := h.2.1; simp [st]; omega, by simp only [st]; split <;> decide, by simp only [st]; split <;> decide⟩
  | live s => exact ⟨by simp [st], by have := h.1; simp [st]; omega, by simp [st], by simp [st], by simp [st], by simp [st]⟩
  | lost => exact ⟨by simp [st], by simp [st]; omega, by simp [st], by simp [st], by simp [st], by simp [st]⟩
/-- It has ended. -/
theorem done_iff (n i : Nat) (p : Pz) : ((st n i p).state == 3) = decide (mu n p = 0) ∨ ∃ s c, p = .hold s c ∧ 2 < c := by
  cases p with
  | seek s => left; simp [st, mu]
  | hold s c =>
    by_cases hc : 2 < c
    · exact .inr ⟨s, c, rfl, hc⟩
    · left
      simp only [st, mu]
      have : ¬ 3 - c = 0 := by omega
      simp only [this, decide_false]
      split <;> rfl
  | live s => left; simp [st, mu]
  | lost => left; simp [st, mu]
theorem nth_nat {α : Type} (l : List α) (s : Nat) : nth l (s : Int) = l[s]? := by unfold nth; simp
/-- The step of the begin i, as the next of its phase. -/
theorem step_is {n : Nat} {S : Sp} {i : Nat} {p : Pz} (hi : i < 8) (h : Own n S.H i p) (hl : S.H.length = n) (hw : S.W = List.replicate (2 * n) 0) (h0 : ∀ (j : Nat) (x : Hd), S.H[j]? = some x → x.state = 0 → x = Hd.zero) :
    ((st n i p).step S).2.1 = st n i (nx n S.H i p).1 ∧ ((st n i p).step S).2.2.H = (nx n S.H i p).2 ∧ ((st n i p).step S).2.2.W = S.W ∧ ((st n i p).step S).2.2.c = S.c ∧ (mu n p = 0 → ((st n i p).step S).2.2 = S) := by
  have t1 : ¬ (((i : Int) + 1) < 1 ∨ 8 < ((i : Int) + 1)) := by omega
  have t2 : ¬ ((10 + (i : Int)) < 1) := by omega
  cases p with
  | seek s =>
    obtain ⟨hs, _⟩ := h
    obtain ⟨x, hx⟩ : ∃ x, S.H[s]? = some x := ⟨_, List.getElem?_eq_getElem (by omega)⟩
    have hmu : ¬ mu n (.seek s) = 0 := by simp [mu]
    by_cases hz : x.state = 0
    · have := h0 s x hx hz
      subst this
      have hc : S.claim (s : Int) ((i : Int) + 1) = ((1, 0), { S.acc 3 s 3 true with H := S.H.set s (held i) }) := by
        unfold Sp.claim
        rw [if_neg t1, nth_nat, hx]
        simp [Hd.zero, held]
      have e : (st n i (.seek s)).step S = (1, st n i (.hold s 0), { S.acc 3 s 3 true with H := S.H.set s (held i) }) := by
        simp only [St.step, St.claim, st, hc]
        rfl
      rw [e]
      simp only [nx, hx]
      exact ⟨rfl, rfl, rfl, rfl, fun hh => absurd hh hmu⟩
    · have hc : S.claim (s : Int) ((i : Int) + 1) = ((0, 5), S.acc 3 s 3 false) := by
        unfold Sp.claim
        rw [if_neg t1, nth_nat, hx]
        simp [hz]
      have hlen : ((S.acc 3 s 3 false).H.length : Int) = n := by show ((S.H.length : Nat) : Int) = n; omega
      by_cases hn : s + 1 = n
      · have e : (st n i (.seek s)).step S = (1, st n i .lost, S.acc 3 s 3 false) := by
          simp only [St.step, St.claim, st, hc, hlen]
          rw [if_pos trivial, if_neg (by decide), if_pos (by omega)]
          have : (s : Int) + 1 = (n : Int) := by omega
          rw [this]
        rw [e]
        simp only [nx, hx, if_neg hz, if_pos hn]
        exact ⟨trivial, rfl, rfl, rfl, fun hh => absurd hh hmu⟩
      · have e : (st n i (.seek s)).step S = (1, st n i (.seek (s + 1)), S.acc 3 s 3 false) := by
          simp only [St.step, St.claim, st, hc, hlen]
          rw [if_pos trivial, if_neg (by decide), if_neg (by omega)]
          have : ((s + 1 : Nat) : Int) = (s : Int) + 1 := by omega
          rw [this]
        rw [e]
        simp only [nx, hx, if_neg hz, if_neg hn]
        exact ⟨trivial, rfl, rfl, rfl, fun hh => absurd hh hmu⟩
  | hold s c =>
    obtain ⟨hs, hc, hx⟩ := h
    have hmu : ¬ mu n (.hold s c) = 0 := by simp [mu]; omega
    by_cases h2 : c = 2
    · subst h2
      have hr : S.ready (s : Int) 1 (10 + (i : Int)) = (0, { S.acc 3 s 3 true with H := S.H.set s (alive i) }) := by
        unfold Sp.ready
        rw [if_neg t2, nth_nat, hx]
        simp [held, alive]
      have e : (st n i (.hold s 2)).step S = (1, st n i (.live s), { S.acc 3 s 3 true with H := S.H.set s (alive i) }) := by
        simp only [St.step, st, hr]
        rfl
      rw [e]
      exact ⟨rfl, rfl, rfl, rfl, fun hh => absurd hh hmu⟩
    · have hw1 : wnth S s c = some 0 := by
        unfold wnth
        rw [if_pos ⟨⟨by omega, by omega⟩, by omega, by omega⟩, hw, List.getElem?_replicate, if_pos (by omega)]
      have hp : S.put (s : Int) (c : Int) 0 = (0, S.acc 4 (2 * (s : Int) + c) 2 true) := by
        unfold Sp.put
        rw [hw1]
        have : S.W.set (2 * (s : Int).toNat + (c : Int).toNat) 0 = S.W := by
          rw [hw]
          apply List.ext_getElem?
          intro q
          rw [List.getElem?_set]
          split
          · split
            · rw [List.getElem?_replicate, if_pos (by simp at *; omega)]
            · rw [List.getElem?_eq_none (by simp at *; omega)]
          · rfl
        simp only [this]
        rfl
      have e : (st n i (.hold s c)).step S = (1, st n i (.hold s (c + 1)), S.acc 4 (2 * (s : Int) + c) 2 true) := by
        simp only [St.step, st, if_neg h2, hp]
        rw [if_neg (by decide), if_pos trivial]
        have h3 : (c : Int) + 1 = 2 ↔ c + 1 = 2 := by omega
        have h4 : ((c + 1 : Nat) : Int) = (c : Int) + 1 := by omega
        simp only [h3, h4]
      rw [e]
      simp only [nx, if_neg h2]
      exact ⟨trivial, rfl, rfl, rfl, fun hh => absurd hh hmu⟩
  | live s =>
    have e : (st n i (.live s)).step S = (3, st n i (.live s), S) := by simp [St.step, st]
    rw [e]
    exact ⟨rfl, rfl, rfl, rfl, fun _ => rfl⟩
  | lost =>
    have e : (st n i .lost).step S = (3, st n i .lost, S) := by simp [St.step, st]
    rw [e]
    exact ⟨rfl, rfl, rfl, rfl, fun _ => rfl⟩
theorem zero_of {n : Nat} {P : Nat → Pz} {H : List Hd} (h : Inv n P H) : ∀ (j : Nat) (x : Hd), H[j]? = some x → x.state = 0 → x = Hd.zero := fun j x hx h0 => by
  have hj := (List.getElem?_eq_some_iff.1 hx).1
  rcases h.each j (by have := h.len; omega) with h1 | ⟨i, hi, h1⟩
  · rw [hx] at h1; injection h1
  · rcases has_head (h.own i hi) h1 with h2 | h2 <;> rw [hx] at h2 <;> injection h2 with h2 <;> subst h2 <;> simp [held, alive] at h0
theorem inv_start (n : Nat) (hn : 1 ≤ n) : Inv n (fun _ => .seek 0) (List.replicate n Hd.zero) :=
  ⟨by simp, fun i hi => ⟨hn, fun j hj => absurd hj (by omega)⟩, fun j hj => .inl (by rw [List.getElem?_replicate, if_pos hj])⟩
end SA
end Go.Proofs.Ytnednminpmiojaa
