/- StartFinds' plain law: one begin, others' claims and frees between its steps. No program in sight. -/
import Derived.Test.YtnednminpmiojaaStartAllW
namespace Go.Proofs.Ytnednminpmiojaa
open Go.RowKit
set_option linter.unusedVariables false
namespace SF
open SA
/-- The begin of thread 1, stamp k0, in this phase, of generation g. -/
def st (k0 : Int) (n : Nat) (g : Int) : Pz → St
  | .seek s => ⟨1, k0, 0, s, 0, 0, 4⟩
  | .hold s c => ⟨1, k0, if c = 2 then 2 else 1, s, g, c, 4⟩
  | .live s => ⟨1, k0, 3, s, g, 2, 0⟩
  | .lost => ⟨1, k0, 3, n, 0, 0, 6⟩
structure Ok (k0 : Int) (n : Nat) (g : Int) (p : Pz) (S : Sp) : Prop where
  len : S.H.length = n
  wlen : S.W.length = 2 * n
  ph : match p with
    | .seek s => s < n
    | .hold s c => s < n ∧ c ≤ 2 ∧ S.H[s]? = some ⟨g, 1, 0, 1, false, 0⟩ ∧ (1 ≤ c → S.W[2 * s]? = some 0) ∧ (2 ≤ c → S.W[2 * s + 1]? = some 0)
    | .live s => s < n ∧ S.H[s]? = some ⟨g, 2, k0, 1, false, 0⟩ ∧ S.W[2 * s]? = some 0 ∧ S.W[2 * s + 1]? = some 0
    | .lost => True
def tried (n : Nat) : Pz → Nat
  | .seek s => s
  | .hold s _ => s
  | .live s => s
  | .lost => n
def steps (n : Nat) : Pz → Nat
  | .seek s => s
  | .hold s c => s + 1 + c
  | .live s => s + 4
  | .lost => n
def own : Pz → Int
  | .seek _ => -1
  | .hold s _ => s
  | .live s => s
  | .lost => -1
/-- What the slots were that it passed by. -/
def Past (n : Nat) (al : Nat → Bool) : Pz → Prop
  | .seek s => ∀ j, j < s → al j = false
  | .lost => ∀ j, j < n → al j = false
  | _ => True
theorem st_okF {k0 : Int} {n : Nat} {g : Int} {p : Pz} {S : Sp} (h : Ok k0 n g p S) (hn : n ≤ 8) : (st k0 n g p).Ok := by
  have hp := h.ph
  cases p with
  | seek s => exact ⟨by simp [st], by simp [st]; simp at hp; omega, by simp [st], by simp [st], by simp [st], by simp [st]⟩
  | hold s c => exact ⟨by simp [st], by simp [st]; have := hp.1; omega, by simp [st], by have := hp.2.1; simp [st]; omega, by simp only [st]; split <;> decide, by simp only [st]; split <;> decide⟩
  | live s => exact ⟨by simp [st], by simp [st]; have := hp.1; omega, by simp [st], by simp [st], by simp [st], by simp [st]⟩
  | lost => exact ⟨by simp [st], by simp [st]; omega, by simp [st], by simp [st], by simp [st], by simp [st]⟩
/-- Words are laid before it begins. -/
theorem ok_put0 {k0 : Int} {n : Nat} {g : Int} {S : Sp} (h : Ok k0 n g (.seek 0) S) (i j x : Int) : Ok k0 n g (.seek 0) (S.put i j x).2 := by
  unfold Sp.put
  split
  · exact h
  · exact ⟨h.len, by simpa [Sp.acc] using h.wlen, h.ph⟩
/-- Others' claim. -/
theorem ok_claim {k0 : Int} {n : Nat} {g : Int} {p : Pz} {S : Sp} (h : Ok k0 n g p S) (i t : Int) : Ok k0 n g p (S.claim i t).2 := by
  unfold Sp.claim
  split
  · exact h
  · split
    · exact h
    · rename_i x hx
      split
      · rename_i h0
        have hn := (nth_len hx).2.2
        refine ⟨by simpa [Sp.acc] using h.len, h.wlen, ?_⟩
        have hp := h.ph
        cases p with
        | seek s => exact hp
        | hold s c =>
          refine ⟨hp.1, hp.2.1, ?_, hp.2.2.2⟩
          have e : i.toNat ≠ s := fun e => by rw [e, hp.2.2.1] at hn; injection hn with hn; subst hn; simp at h0
          show (S.H.set _ _)[s]? = _
          rw [List.getElem?_set_ne e]; exact hp.2.2.1
        | live s =>
          refine ⟨hp.1, ?_, hp.2.2⟩
          have e : i.toNat ≠ s := fun e => by rw [e, hp.2.1] at hn; injection hn with hn; subst hn; simp at h0
          show (S.H.set _ _)[s]? = _
          rw [List.getElem?_set_ne e]; exact hp.2.1
        | lost => trivial
      · exact ⟨h.len, h.wlen, h.ph⟩
/-- A slot that is not thread 1's is freed. -/
theorem ok_free {k0 : Int} {n : Nat} {g : Int} {p : Pz} {S : Sp} (h : Ok k0 n g p S) (i q : Int) (hi : ∀ x, nth S.H i = some x → x.thread ≠ 1) : Ok k0 n g p (S.free i q).2 := by
  unfold Sp.free
  split
  · exact h
  · rename_i x hx
    split
    · have hn := (nth_len hx).2.2
      have ht := hi x hx
      refine ⟨by simpa [Sp.acc] using h.len, h.wlen, ?_⟩
      have hp := h.ph
      cases p with
      | seek s => exact hp
      | hold s c =>
        refine ⟨hp.1, hp.2.1, ?_, hp.2.2.2⟩
        have e : i.toNat ≠ s := fun e => by rw [e, hp.2.2.1] at hn; injection hn with hn; subst hn; simp at ht
        show (S.H.set _ _)[s]? = _
        rw [List.getElem?_set_ne e]; exact hp.2.2.1
      | live s =>
        refine ⟨hp.1, ?_, hp.2.2⟩
        have e : i.toNat ≠ s := fun e => by rw [e, hp.2.1] at hn; injection hn with hn; subst hn; simp at ht
        show (S.H.set _ _)[s]? = _
        rw [List.getElem?_set_ne e]; exact hp.2.1
      | lost => trivial
    · exact ⟨h.len, h.wlen, h.ph⟩
/-- The begin's own step. -/
theorem step_is {k0 : Int} {n : Nat} {g : Int} {p : Pz} {S : Sp} (h : Ok k0 n g p S) (hk : 1 ≤ k0) (hm : 0 < mu n p) :
    ((st k0 n g p).step S).1 = 1 ∧ ∃ g' p', ((st k0 n g p).step S).2.1 = st k0 n g' p' ∧ Ok k0 n g' p' ((st k0 n g p).step S).2.2 ∧ mu n p' < mu n p ∧ steps n p' = steps n p + 1 ∧
      ((∃ s x, p = .seek s ∧ S.H[s]? = some x ∧ ((x.state = 0 ∧ p' = .hold s 0) ∨ (x.state ≠ 0 ∧ tried n p' = s + 1 ∧ own p' = -1 ∧ ((p' = .lost ∧ s + 1 = n) ∨ p' = .seek (s + 1))))) ∨ (∃ s c, p = .hold s c ∧ own p' = s ∧ tried n p' = s ∧ (p' = .hold s (c + 1) ∨ p' = .live s))) := by
  have t1 : ¬ ((1 : Int) < 1 ∨ (8 : Int) < 1) := by omega
  have t2 : ¬ (k0 < 1) := by omega
  have hp := h.ph
  have hl := h.len
  have hw := h.wlen
  cases p with
  | seek s =>
    have hs : s < n := hp
    obtain ⟨x, hx⟩ : ∃ x, S.H[s]? = some x := ⟨_, List.getElem?_eq_getElem (by omega)⟩
    by_cases hz : x.state = 0
    · have hc : S.claim (s : Int) 1 = ((x.gen + 1, 0), { S.acc 3 s 3 true with H := S.H.set s ⟨x.gen + 1, 1, 0, 1, false, 0⟩ }) := by
        unfold Sp.claim
        rw [if_neg t1, nth_nat, hx]
        simp [hz]
      have e : (st k0 n g (.seek s)).step S = (1, st k0 n (x.gen + 1) (.hold s 0), { S.acc 3 s 3 true with H := S.H.set s ⟨x.gen + 1, 1, 0, 1, false, 0⟩ }) := by
        simp only [St.step, St.claim, st, hc]
        rfl
      rw [e]
      refine ⟨rfl, x.gen + 1, .hold s 0, rfl, ⟨by simpa using hl, hw, ⟨hs, by omega, List.getElem?_set_self (by omega), fun hh => absurd hh (by omega), fun hh => absurd hh (by omega)⟩⟩, by simp [mu]; try omega, by simp [steps], .inl ⟨s, x, rfl, hx, .inl ⟨hz, rfl⟩⟩⟩
    · have hc : S.claim (s : Int) 1 = ((0, 5), S.acc 3 s 3 false) := by
        unfold Sp.claim
        rw [if_neg t1, nth_nat, hx]
        simp [hz]
      have hlen : ((S.acc 3 s 3 false).H.length : Int) = n := by show ((S.H.length : Nat) : Int) = n; omega
      by_cases hn : s + 1 = n
      · have e : (st k0 n g (.seek s)).step S = (1, st k0 n 0 .lost, S.acc 3 s 3 false) := by
          simp only [St.step, St.claim, st, hc, hlen]
          rw [if_pos trivial, if_neg (by decide), if_pos (by omega)]
          have : (s : Int) + 1 = (n : Int) := by omega
          rw [this]
        rw [e]
        exact ⟨rfl, 0, .lost, rfl, ⟨hl, hw, trivial⟩, by simp [mu], by simp [steps]; try omega, .inl ⟨s, x, rfl, hx, .inr ⟨hz, by simp [tried]; try omega, rfl, .inl ⟨rfl, hn⟩⟩⟩⟩
      · have e : (st k0 n g (.seek s)).step S = (1, st k0 n 0 (.seek (s + 1)), S.acc 3 s 3 false) := by
          simp only [St.step, St.claim, st, hc, hlen]
          rw [if_pos trivial, if_neg (by decide), if_neg (by omega)]
          have : ((s + 1 : Nat) : Int) = (s : Int) + 1 := by omega
          rw [this]
        rw [e]
        exact ⟨rfl, 0, .seek (s + 1), rfl, ⟨hl, hw, show s + 1 < n by omega⟩, by simp [mu]; try omega, by simp [steps], .inl ⟨s, x, rfl, hx, .inr ⟨hz, by simp [tried], rfl, .inr rfl⟩⟩⟩
  | hold s c =>
    obtain ⟨hs, hc, hx, hw0, hw1⟩ := hp
    by_cases h2 : c = 2
    · subst h2
      have hr : S.ready (s : Int) g k0 = (0, { S.acc 3 s 3 true with H := S.H.set s ⟨g, 2, k0, 1, false, 0⟩ }) := by
        unfold Sp.ready
        rw [if_neg t2, nth_nat, hx]
        simp
      have e : (st k0 n g (.hold s 2)).step S = (1, st k0 n g (.live s), { S.acc 3 s 3 true with H := S.H.set s ⟨g, 2, k0, 1, false, 0⟩ }) := by
        simp only [St.step, st, hr]
        rfl
      rw [e]
      exact ⟨rfl, g, .live s, rfl, ⟨by simpa using hl, hw, ⟨hs, List.getElem?_set_self (by omega), hw0 (by omega), hw1 (by omega)⟩⟩, by simp [mu], by simp [steps], .inr ⟨s, 2, rfl, rfl, rfl, .inr rfl⟩⟩
    · obtain ⟨v, hv⟩ : ∃ v, S.W[2 * s + c]? = some v := ⟨_, List.getElem?_eq_getElem (by omega)⟩
      have hwn : wnth S s c = some v := by
        unfold wnth
        rw [if_pos ⟨⟨by omega, by omega⟩, by omega, by omega⟩]
        simpa using hv
      have hp : S.put (s : Int) (c : Int) 0 = (0, { S.acc 4 (2 * (s : Int) + c) 2 true with W := S.W.set (2 * s + c) 0 }) := by
        unfold Sp.put
        rw [hwn]
        simp
      have e : (st k0 n g (.hold s c)).step S = (1, st k0 n g (.hold s (c + 1)), { S.acc 4 (2 * (s : Int) + c) 2 true with W := S.W.set (2 * s + c) 0 }) := by
        simp only [St.step, st, if_neg h2, hp]
        rw [if_neg (by decide), if_pos trivial]
        have h3 : (c : Int) + 1 = 2 ↔ c + 1 = 2 := by omega
        have h4 : ((c + 1 : Nat) : Int) = (c : Int) + 1 := by omega
        simp only [h3, h4]
      rw [e]
      refine ⟨rfl, g, .hold s (c + 1), rfl, ⟨hl, by simpa using hw, ⟨hs, by omega, hx, fun _ => ?_, fun hh => ?_⟩⟩, by simp [mu]; try omega, by simp [steps]; try omega, .inr ⟨s, c, rfl, rfl, rfl, .inl rfl⟩⟩
      · show (S.W.set (2 * s + c) 0)[2 * s]? = some 0
        by_cases h0 : c = 0
        · subst h0; exact List.getElem?_set_self (by omega)
        · rw [List.getElem?_set_ne (by omega)]; exact hw0 (by omega)
      · have : c = 1 := by omega
        subst this
        exact List.getElem?_set_self (by omega)
  | live s => simp [mu] at hm
  | lost => simp [mu] at hm
theorem done_is {k0 : Int} {n : Nat} {g : Int} {p : Pz} {S : Sp} (h : Ok k0 n g p S) : ((st k0 n g p).state == 3) = decide (mu n p = 0) := by
  have hp := h.ph
  cases p with
  | seek s => simp [st, mu]
  | hold s c =>
    have := hp.2.1
    simp only [st, mu]
    have : ¬ 3 - c = 0 := by omega
    simp only [this, decide_false]
    split <;> rfl
  | live s => simp [st, mu]
  | lost => simp [st, mu]
end SF
end Go.Proofs.Ytnednminpmiojaa
