/- The longest run of a log: the plain law for MemCounts; one row, call by call. -/
import Derived.Test.YtlpgcfgnimchaaaMemSt
import Derived.Test.YtlpgcfgnimchaaaMeters
namespace Go.Proofs.Ytlpgcfgnimchaaa
open Go.RowKit
set_option linter.unusedVariables false

/-- The run that a list ends with, and the longest one. -/
structure Runs where
  last : Option Int
  cur : Int
  best : Int
def Runs.step (r : Runs) (x : Int) : Runs := if r.last = some x then ⟨some x, r.cur + 1, imax r.best (r.cur + 1)⟩ else ⟨some x, 1, imax r.best 1⟩
def Runs.zero : Runs := ⟨none, 0, 0⟩
def runs (l : List Int) : Runs := l.foldl Runs.step Runs.zero
theorem runs_snoc (l : List Int) (x : Int) : runs (l ++ [x]) = (runs l).step x := by simp [runs]
theorem runs_last (l : List Int) : (runs l).last = l.getLast? := by
  rcases List.eq_nil_or_concat l with rfl | ⟨l', x, rfl⟩
  · rfl
  · rw [List.concat_eq_append, runs_snoc]
    unfold Runs.step
    split <;> simp
theorem runs_take {l : List Int} {k : Nat} {x : Int} (h : l[k]? = some x) : runs (l.take (k + 1)) = (runs (l.take k)).step x := by rw [List.take_add_one, h]; exact runs_snoc _ _
/-- The steps of a log. -/
def stepsOf (l : List Acc) : List Int := l.map Acc.step
/-- What a meter keeps true, since it was new, in k calls. -/
structure Inv (s : MS) (k : Nat) : Prop where
  le : ∀ x, x ∈ stepsOf s.log → x ≤ s.steps
  best : (runs (stepsOf s.log)).best = s.most
  cur : (runs (stepsOf s.log)).last = some s.steps → (runs (stepsOf s.log)).cur = s.done
  done : (runs (stepsOf s.log)).last ≠ some s.steps → s.done = 0
  s0 : 0 ≤ s.steps
  s1 : s.steps ≤ k
  d0 : 0 ≤ s.done
  d1 : s.done ≤ k
  len : s.log.length ≤ k
theorem Inv.zero : Inv MS.zero 0 := ⟨fun x hx => by simp [stepsOf, MS.zero] at hx, rfl, fun h => by simp [stepsOf, MS.zero, runs, Runs.zero] at h, fun _ => rfl, by decide, by decide, by decide, by decide, by decide⟩
theorem Inv.mono {s : MS} {k m : Nat} (h : Inv s k) (hm : k ≤ m) : Inv s m := ⟨h.le, h.best, h.cur, h.done, h.s0, by have := h.s1; omega, h.d0, by have := h.d1; omega, by have := h.len; omega⟩
theorem wrap64_id {x : Int} (h0 : 0 ≤ x) (h1 : x < 9223372036854775808) : wrap64 x = x := by unfold wrap64; omega
theorem Inv.begin {s : MS} {k : Nat} (h : Inv s k) (hk : k < 2199023255552) (t : Int) : Inv (s.begin t) (k + 1) := by
  have hw : wrap64 (s.steps + 1) = s.steps + 1 := wrap64_id (by have := h.s0; omega) (by have := h.s1; omega)
  have hnl : (runs (stepsOf s.log)).last ≠ some (s.steps + 1) := by
    rw [runs_last]
    intro hx
    have := h.le _ (List.mem_of_getLast? hx)
    omega
  refine ⟨?_, h.best, ?_, fun _ => rfl, ?_, ?_, by show (0 : Int) ≤ 0; omega, by show (0 : Int) ≤ _; omega, by have := h.len; show s.log.length ≤ _; omega⟩
  · intro x hx
    have := h.le x hx
    show x ≤ wrap64 (s.steps + 1)
    omega
  · intro hx
    exact absurd (by rw [← hw]; exact hx) hnl
  · show 0 ≤ wrap64 (s.steps + 1)
    have := h.s0
    omega
  · show wrap64 (s.steps + 1) ≤ _
    have := h.s1
    omega
theorem Inv.note {s : MS} {k : Nat} (h : Inv s k) (hk : k < 2199023255552) (a p o : Int) (b : Bool) : Inv (s.note a p o b) (k + 1) := by
  have hw : wrap64 (s.done + 1) = s.done + 1 := wrap64_id (by have := h.d0; omega) (by have := h.d1; omega)
  have e : stepsOf (s.note a p o b).log = stepsOf s.log ++ [s.steps] := by simp [stepsOf, MS.note]
  have hr : runs (stepsOf (s.note a p o b).log) = ⟨some s.steps, s.done + 1, imax s.most (s.done + 1)⟩ := by
    rw [e, runs_snoc]
    unfold Runs.step
    by_cases hl : (runs (stepsOf s.log)).last = some s.steps
    · rw [if_pos hl, h.cur hl, h.best]
    · rw [if_neg hl, h.done hl, h.best]; rfl
  refine ⟨?_, ?_, ?_, ?_, h.s0, by have := h.s1; show s.steps ≤ _; omega, ?_, ?_, ?_⟩
  · intro x hx
    rw [e, List.mem_append, List.mem_singleton] at hx
    rcases hx with hx | hx
    · exact h.le x hx
    · rw [hx]; exact Int.le_refl _
  · rw [hr]; show imax _ _ = imax _ (wrap64 _); rw [hw]
  · intro _; rw [hr]; show s.done + 1 = wrap64 (s.done + 1); rw [hw]
  · intro hx; rw [hr] at hx; exact absurd rfl hx
  · show 0 ≤ wrap64 (s.done + 1); have := h.d0; omega
  · show wrap64 (s.done + 1) ≤ _; have := h.d1; omega
  · have := h.len
    show (s.log ++ [_]).length ≤ _
    simp only [List.length_append, List.length_cons, List.length_nil]
    omega

/-- One meter, its row, and the count of calls that were not refused. -/
def CInv (w0 w : World) (g r b : Nat) (k : Nat) (calls : Nat) : Prop := ∃ l s, St w0 w g r b 4 l s ∧ Inv s k ∧ s.log.length = calls ∧ k < 2199023255552
theorem CInv.keeps {w0 w w' : World} {g r b k c : Nat} (h : CInv w0 w g r b k c) (hk : Keeps [] w w') : CInv w0 w' g r b k c := by
  obtain ⟨l, s, h1, h2⟩ := h
  exact ⟨l, s, h1.keeps hk, h2⟩
theorem CInv.drew {w0 w : World} {g r b k c : Nat} (h : CInv w0 w g r b k c) : CInv w0 w.drew g r b k c := h.keeps (Keeps.refl _ _).drew
theorem CInv.skip {w0 w : World} {g r b k c : Nat} (h : CInv w0 w g r b k c) (hk : k + 1 < 2199023255552) : CInv w0 w g r b (k + 1) c := by
  obtain ⟨l, s, h1, h2, h3, _⟩ := h
  exact ⟨l, s, h1, h2.mono (by omega), h3, hk⟩
theorem CInv.kept {w0 w : World} {g r b k c : Nat} (h : CInv w0 w g r b k c) : Keeps [] w0 w := by obtain ⟨l, s, h1, _⟩ := h; exact h1.2.2.1
theorem CInv.begin {w0 w : World} {g r b k c : Nat} (h : CInv w0 w g r b k c) (hk : k + 1 < 2199023255552) (t : Int) :
    Calls Try.prog 17 #[.pointer (some ⟨g, 0, none⟩), .int .i64 t] w fun e w' => e = .returned (.tuple #[]) ∧ CInv w0 w' g r b (k + 1) c := by
  obtain ⟨l, s, h1, h2, h3, h4⟩ := h
  exact (h1.begin t).mono fun e w' ⟨he, q⟩ => ⟨he, l, _, q, h2.begin (by omega) t, h3, hk⟩
theorem note_len {s : MS} {c : Nat} (h : s.log.length = c) (a p o : Int) (b : Bool) : (s.note a p o b).log.length = c + 1 := by
  show (s.log ++ [_]).length = _
  simp [h]
section
variable {w0 w : World} {g r b k c : Nat} (h : CInv w0 w g r b k c) (hk : k + 1 < 2199023255552)
include h hk
theorem CInv.load (i : Int) :
    Calls Try.prog 18 #[.pointer (some ⟨r, 0, none⟩), .int .i64 i] w fun e w' => ∃ v f, e = .returned (.tuple #[.int .i64 v, .int .i64 f]) ∧ ((f = 0 ∧ CInv w0 w' g r b (k + 1) (c + 1)) ∨ (f = 2 ∧ CInv w0 w' g r b (k + 1) c)) := by
  obtain ⟨l, s, h1, h2, h3, h4⟩ := h
  by_cases hi : i < 0 ∨ (l.length : Int) ≤ i
  · exact (RowI.load_no w r b 4 (some g) l h1.1 i hi).mono fun e w' ⟨he, hw⟩ => ⟨_, _, he, .inr ⟨rfl, by subst hw; exact CInv.skip ⟨l, s, h1, h2, h3, h4⟩ hk⟩⟩
  · obtain ⟨j, rfl⟩ : ∃ j : Nat, i = j := ⟨i.toNat, by omega⟩
    have hj : j < l.length := by omega
    exact (h1.load (by have := h2.len; omega) j _ (List.getElem?_eq_getElem hj)).mono fun e w' ⟨he, q⟩ => ⟨_, _, he, .inl ⟨rfl, l, _, q, h2.note (by omega) _ _ _ _, note_len h3 _ _ _ _, hk⟩⟩
theorem CInv.store (i x : Int) :
    Calls Try.prog 19 #[.pointer (some ⟨r, 0, none⟩), .int .i64 i, .int .i64 x] w fun e w' => ∃ f, e = .returned (.int .i64 f) ∧ ((f = 0 ∧ CInv w0 w' g r b (k + 1) (c + 1)) ∨ (f = 2 ∧ CInv w0 w' g r b (k + 1) c)) := by
  obtain ⟨l, s, h1, h2, h3, h4⟩ := h
  by_cases hi : i < 0 ∨ (l.length : Int) ≤ i
  · exact (RowI.store_no w r b 4 (some g) l h1.1 i x hi).mono fun e w' ⟨he, hw⟩ => ⟨_, he, .inr ⟨rfl, by subst hw; exact CInv.skip ⟨l, s, h1, h2, h3, h4⟩ hk⟩⟩
  · obtain ⟨j, rfl⟩ : ∃ j : Nat, i = j := ⟨i.toNat, by omega⟩
    have hj : j < l.length := by omega
    exact (h1.store (by have := h2.len; omega) j x hj).mono fun e w' ⟨he, q⟩ => ⟨_, he, .inl ⟨rfl, _, _, q, h2.note (by omega) _ _ _ _, note_len h3 _ _ _ _, hk⟩⟩
theorem CInv.trade (i x y : Int) :
    Calls Try.prog 20 #[.pointer (some ⟨r, 0, none⟩), .int .i64 i, .int .i64 x, .int .i64 y] w fun e w' => ∃ v d f, e = .returned (.tuple #[.int .i64 v, .bool d, .int .i64 f]) ∧ ((f = 0 ∧ CInv w0 w' g r b (k + 1) (c + 1)) ∨ (f = 2 ∧ CInv w0 w' g r b (k + 1) c)) := by
  obtain ⟨l, s, h1, h2, h3, h4⟩ := h
  by_cases hi : i < 0 ∨ (l.length : Int) ≤ i
  · exact (RowI.trade_no w r b 4 (some g) l h1.1 i x y hi).mono fun e w' ⟨he, hw⟩ => ⟨_, _, _, he, .inr ⟨rfl, by subst hw; exact CInv.skip ⟨l, s, h1, h2, h3, h4⟩ hk⟩⟩
  · obtain ⟨j, rfl⟩ : ∃ j : Nat, i = j := ⟨i.toNat, by omega⟩
    have hj : j < l.length := by omega
    have hx := List.getElem?_eq_getElem hj
    cases hc : (l[j] == x)
    · exact (h1.trade_not (by have := h2.len; omega) j _ x y hx hc).mono fun e w' ⟨he, q⟩ => ⟨_, _, _, he, .inl ⟨rfl, _, _, q, h2.note (by omega) _ _ _ _, note_len h3 _ _ _ _, hk⟩⟩
    · have e : l[j] = x := by simpa using hc
      rw [e] at hx
      exact (h1.trade_yes (by have := h2.len; omega) j x y hx).mono fun e w' ⟨he, q⟩ => ⟨_, _, _, he, .inl ⟨rfl, _, _, q, h2.note (by omega) _ _ _ _, note_len h3 _ _ _ _, hk⟩⟩
end

/-- Where the outer loop stands: a run begins at i. -/
structure AtRun (l : List Int) (i : Nat) (most : Int) : Prop where
  le : i ≤ l.length
  best : (runs (l.take i)).best = most
  new : ∀ x, l[i]? = some x → (runs (l.take i)).last ≠ some x
/-- Where the inner loop stands. -/
structure InRun (l : List Int) (i k : Nat) (x : Int) (most : Int) : Prop where
  ik : i ≤ k
  le : k ≤ l.length
  at_ : l[i]? = some x
  most_ : (runs (l.take i)).best = most
  new : (runs (l.take i)).last ≠ some x
  last : i < k → (runs (l.take k)).last = some x ∧ (runs (l.take k)).cur = (k : Int) - i ∧ (runs (l.take k)).best = imax most ((k : Int) - i)
theorem AtRun.zero (l : List Int) : AtRun l 0 0 := ⟨Nat.zero_le _, by simp [runs, Runs.zero], fun x _ => by simp [runs, Runs.zero]⟩
theorem AtRun.enter {l : List Int} {i : Nat} {most x : Int} (h : AtRun l i most) (hx : l[i]? = some x) : InRun l i i x most := ⟨Nat.le_refl _, h.le, hx, h.best, h.new x hx, fun h => by omega⟩
theorem InRun.next {l : List Int} {i k : Nat} {x most : Int} (h : InRun l i k x most) (hx : l[k]? = some x) : InRun l i (k + 1) x most := by
  have hk : k < l.length := (List.getElem?_eq_some_iff.1 hx).1
  refine ⟨by have := h.ik; omega, by omega, h.at_, h.most_, h.new, fun _ => ?_⟩
  rw [runs_take hx]
  unfold Runs.step
  rcases Nat.lt_or_ge i k with hik | hik
  · obtain ⟨h1, h2, h3⟩ := h.last hik
    rw [if_pos h1]
    refine ⟨rfl, by rw [h2]; simp only; omega, ?_⟩
    show imax _ _ = _
    rw [h3, h2]
    unfold imax
    have e : ((k + 1 : Nat) : Int) - (i : Int) = (k : Int) - i + 1 := by omega
    rw [e]
    repeat' split
    all_goals omega
  · have e : k = i := by have := h.ik; omega
    subst e
    rw [if_neg h.new]
    refine ⟨rfl, by simp only; omega, ?_⟩
    show imax _ _ = _
    rw [h.most_]
    congr 1
    omega
theorem InRun.leave {l : List Int} {i k : Nat} {x most : Int} (h : InRun l i k x most) (hik : i < k) (hn : ∀ y, l[k]? = some y → y ≠ x) : AtRun l k (imax most ((k : Int) - i)) := by
  obtain ⟨h1, h2, h3⟩ := h.last hik
  refine ⟨h.le, h3, fun y hy => ?_⟩
  rw [h1]
  intro e
  injection e with e
  exact hn y hy e.symm
end Go.Proofs.Ytlpgcfgnimchaaa
