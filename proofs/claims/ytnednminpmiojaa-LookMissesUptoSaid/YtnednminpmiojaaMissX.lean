/- LookMisses: the law's own stores, how it begins, which slots have no victim yet. -/
import Derived.Test.YtnednminpmiojaaFindP
import Derived.Test.YtnednminpmiojaaVcSame
import Derived.Laws.OwnMore
import Derived.Test.YtnednminpmiojaaElMove
namespace Go.Proofs.Ytnednminpmiojaa.fm
open Go.RowKit fd
set_option linter.unusedVariables false
set_option linter.unusedSimpArgs false
def sel (s : Sg) (k : Nat) : Nat := if k = 0 then s.a else s.b
/-- Has the word k of the slot t a bit of s? -/
def Has (W : List Int) (s : Sg) (t : Int) (k : Nat) : Prop := (wd W t k).toNat &&& sel s k ≠ 0
/-- The slots from p on. -/
def ups (p : Nat) : List Int := (List.range (8 - p)).map fun i => ((p + i : Nat) : Int)
theorem ups_one : turnsTo 0 8 = ups 1 := rfl
theorem ups_cons {p : Nat} (h : p < 8) : ups p = (p : Int) :: ups (p + 1) := by
  unfold ups
  have e : 8 - p = (8 - (p + 1)) + 1 := by omega
  rw [e, List.range_succ_eq_map, List.map_cons, List.map_map]
  simp only [Nat.add_zero]
  congr 1
  apply List.map_congr_left
  intro i _
  simp only [Function.comp]
  omega
theorem ups_end {p : Nat} (h : ups p = []) : 8 ≤ p := by
  unfold ups at h
  simp at h
  omega
theorem ups_len (p : Nat) : (ups p).length = 8 - p := by simp [ups]
/-- What holds of the space. -/
structure SI (H0 : List Hd) (W0 : List Int) (s : Sg) (stays lived : Int → Bool) (S : Sp) : Prop where
  hl : S.H.length = 8
  hw : S.W.length = 16
  gens : ∀ t : Int, 0 ≤ t → t < 8 → 0 ≤ (hd S.H t).gen ∧ ((hd S.H t).state ≠ 0 → 1 ≤ (hd S.H t).gen)
  lv : ∀ t : Int, 1 ≤ t → t < 8 → (hd S.H t).state = 2 → lived t = true
  st : ∀ t : Int, 1 ≤ t → t < 8 → stays t = true → (hd S.H t).state = 2 ∧ (hd S.H t).doomed = false ∧ (hd S.H t).gen = (hd H0 t).gen ∧ (∀ k, k < 2 → Has W0 s t k → Has S.W s t k) ∧ (Has W0 s t 0 ∨ Has W0 s t 1)
/-- What holds of the look, at the slot p. -/
structure XI (H0 : List Hd) (W0 : List Int) (s : Sg) (stays lived : Int → Bool) (x : Lk) (p : Nat) : Prop where
  p1 : 1 ≤ p
  p8 : p ≤ 8
  sg : x.writes = s
  turns : x.turns = ups p
  pair : x.victims.Pairwise (fun a b => a.slot < b.slot)
  vs : ∀ v, v ∈ x.victims → 1 ≤ v.slot ∧ v.slot < p ∧ lived v.slot = true ∧ 1 ≤ v.gen ∧ (stays v.slot = true → v.gen = (hd H0 v.slot).gen)
  all : ∀ t : Int, 1 ≤ t → t < p → stays t = true → ∃ v, v ∈ x.victims ∧ v.slot = t
  ph : (x.looked = false ∧ x.words = []) ∨ (x.looked = true ∧ p < 8 ∧ lived p = true ∧ 1 ≤ x.head.gen ∧ (stays p = true → x.head.gen = (hd H0 p).gen) ∧ (x.words = [] ∨ ∃ v, x.words = [v] ∧ (stays p = true → Has W0 s p 0 → v.toNat &&& s.a ≠ 0)))
/-- How many steps are left at most. -/
def rem (x : Lk) : Nat := if x.looked = true then 3 * x.turns.length - 1 - x.words.length else 3 * x.turns.length
section
variable {H0 : List Hd} {W0 : List Int} {s : Sg} {stays lived : Int → Bool} {x : Lk} {S : Sp} {p : Nat}
theorem SI.look (h : SI H0 W0 s stays lived S) (i : Int) : SI H0 W0 s stays lived (S.look i).2 := by
  have e : (S.look i).2.H = S.H ∧ (S.look i).2.W = S.W := by unfold Sp.look; split <;> exact ⟨rfl, rfl⟩
  exact ⟨by rw [e.1]; exact h.hl, by rw [e.2]; exact h.hw, by rw [e.1]; exact h.gens, by rw [e.1]; exact h.lv, by rw [e.1, e.2]; exact h.st⟩
theorem SI.word (h : SI H0 W0 s stays lived S) (i j : Int) : SI H0 W0 s stays lived (S.word i j).2 := by
  have e : (S.word i j).2.H = S.H ∧ (S.word i j).2.W = S.W := by unfold Sp.word; split <;> exact ⟨rfl, rfl⟩
  exact ⟨by rw [e.1]; exact h.hl, by rw [e.2]; exact h.hw, by rw [e.1]; exact h.gens, by rw [e.1]; exact h.lv, by rw [e.1, e.2]; exact h.st⟩
theorem XI.turn_ (h : XI H0 W0 s stays lived x p) (hp : p < 8) (y : Lk) (hy : y.turns = ups p) (hs : y.writes = s) (hv : y.victims.Pairwise (fun a b => a.slot < b.slot))
    (hvs : ∀ v, v ∈ y.victims → 1 ≤ v.slot ∧ v.slot < (p + 1 : Nat) ∧ lived v.slot = true ∧ 1 ≤ v.gen ∧ (stays v.slot = true → v.gen = (hd H0 v.slot).gen))
    (hall : ∀ t : Int, 1 ≤ t → t < (p + 1 : Nat) → stays t = true → ∃ v, v ∈ y.victims ∧ v.slot = t) : XI H0 W0 s stays lived y.turn (p + 1) :=
  ⟨by omega, by omega, hs, by show y.turns.tail = _; rw [hy, ups_cons hp]; rfl, hv, hvs, hall, .inl ⟨rfl, rfl⟩⟩
/-- A step of the look. -/
theorem XI.step (h : XI H0 W0 s stays lived x p) (hS : SI H0 W0 s stays lived S) (hne : x.turns ≠ []) :
    (∃ q, XI H0 W0 s stays lived (x.step S).2.1 q) ∧ SI H0 W0 s stays lived (x.step S).2.2 ∧ rem (x.step S).2.1 < rem x := by
  have hp : p < 8 := by
    rcases Nat.lt_or_ge p 8 with h1 | h1
    · exact h1
    · exfalso; apply hne; rw [h.turns]; unfold ups; rw [show 8 - p = 0 from by omega]; rfl
  have ht := h.turns
  rw [ups_cons hp] at ht
  have hp1 := h.p1
  obtain ⟨l1, l2, l3⟩ := look_at (S := S) (H := S.H) rfl hS.hl (t := (p : Int)) (by omega) (by omega)
  unfold Lk.step
  rw [ht]
  simp only
  rcases h.ph with ⟨hlo, hw⟩ | ⟨hlo, _, hlv, hg, hgs, hw⟩
  · rw [if_pos hlo, l1]
    refine ⟨?_, hS.look _, ?_⟩
    · by_cases hc : (hd S.H p).state ≠ 2 ∨ (hd S.H p).doomed = true
      · rw [if_pos hc]
        refine ⟨p + 1, h.turn_ hp _ h.turns h.sg h.pair (fun v hv => ?_) (fun t t1 t2 hst => ?_)⟩
        · obtain ⟨a, b, c⟩ := h.vs v hv
          exact ⟨a, by omega, c⟩
        · by_cases hlt : t < p
          · exact h.all t t1 hlt hst
          · have e : t = p := by omega
            subst e
            obtain ⟨q1, q2, _⟩ := hS.st _ t1 (by omega) hst
            rcases hc with hc | hc
            · exact absurd q1 hc
            · rw [q2] at hc; cases hc
      · rw [if_neg hc]
        have h2 : (hd S.H p).state = 2 := by by_cases e : (hd S.H p).state = 2; exact e; exact absurd (.inl e) hc
        exact ⟨p, ⟨hp1, h.p8, h.sg, h.turns, h.pair, h.vs, h.all, .inr ⟨rfl, hp, hS.lv p (by omega) (by omega) h2, (hS.gens p (by omega) (by omega)).2 (by rw [h2]; decide), fun hst => (hS.st p (by omega) (by omega) hst).2.2.1, .inl hw⟩⟩⟩
    · have e1 : rem x = 3 * (8 - p) := by unfold rem; rw [if_neg (by rw [hlo]; decide), h.turns, ups_len]
      rw [e1]
      split
      · show 3 * x.turns.tail.length < _
        rw [ht]
        simp [ups_len]
        omega
      · show 3 * x.turns.length - 1 - x.words.length < _
        rw [ht, hw]
        simp [ups_len]
        omega
  · rw [if_neg (by rw [hlo]; decide)]
    have e1 : rem x = 3 * (8 - p) - 1 - x.words.length := by unfold rem; rw [if_pos hlo, h.turns, ups_len]
    refine ⟨?_, hS.word _ _, ?_⟩
    · rcases hw with hw | ⟨v0, hw, hv0⟩
      · rw [hw]
        obtain ⟨w1, w2, w3⟩ := word_at (S := S) (H := S.H) (W := S.W) rfl rfl hS.hl hS.hw (t := (p : Int)) (by omega) (by omega) 0 (by decide)
        rw [if_pos (by decide)]
        refine ⟨p, ⟨hp1, h.p8, h.sg, h.turns, h.pair, h.vs, h.all, .inr ⟨hlo, hp, hlv, hg, hgs, .inr ⟨wd S.W p 0, ?_, fun hst hh => ?_⟩⟩⟩⟩
        · show x.words ++ [_] = _
          rw [hw]
          exact congrArg (fun q => [q]) w1
        · have := (hS.st p (by omega) (by omega) hst).2.2.2.1 0 (by decide) hh
          exact this
      · rw [hw]
        obtain ⟨w1, w2, w3⟩ := word_at (S := S) (H := S.H) (W := S.W) rfl rfl hS.hl hS.hw (t := (p : Int)) (by omega) (by omega) 1 (by decide)
        rw [if_neg (by simp)]
        have hm : (x.word (S.word (p : Int) (([v0] : List Int).length : Nat)).1.1).met = !(((v0.toNat &&& s.a : Nat) : Int) == 0 && (((wd S.W p 1).toNat &&& s.b : Nat) : Int) == 0) := by
          have e : (S.word (p : Int) (([v0] : List Int).length : Nat)).1.1 = wd S.W p 1 := w1
          rw [e]
          unfold Lk.met Lk.word sgOf Sg.meet Sg.none
          simp only [hw, h.sg]
          rfl
        have hmet : stays p = true → (x.word (S.word (p : Int) (([v0] : List Int).length : Nat)).1.1).met = true := fun hst => by
          rw [hm]
          obtain ⟨_, _, _, q4, q5⟩ := hS.st p (by omega) (by omega) hst
          rcases q5 with q5 | q5
          · have := hv0 hst q5
            have e : (((v0.toNat &&& s.a : Nat) : Int) == 0) = false := by simpa using this
            rw [e]; rfl
          · have := q4 1 (by decide) q5
            have e : ((((wd S.W p 1).toNat &&& s.b : Nat) : Int) == 0) = false := by
              have h2 : (wd S.W p 1).toNat &&& s.b ≠ 0 := this
              simpa using h2
            rw [e]; simp
        split
        · refine ⟨p + 1, h.turn_ hp _ h.turns h.sg ?_ (fun v hv => ?_) (fun t t1 t2 hst => ?_)⟩
          · refine List.pairwise_append.2 ⟨h.pair, by simp, fun a ha b hb => ?_⟩
            simp at hb
            subst hb
            exact (h.vs a ha).2.1
          · simp only [Lk.meets, Lk.word, List.mem_append, List.mem_singleton] at hv
            rcases hv with hv | hv
            · obtain ⟨a, b, c⟩ := h.vs v hv
              exact ⟨a, by omega, c⟩
            · subst hv
              exact ⟨by simp; omega, by simp; omega, hlv, hg, hgs⟩
          · by_cases hlt : t < p
            · obtain ⟨v, hv, hvt⟩ := h.all t t1 hlt hst
              exact ⟨v, by simp [Lk.meets, Lk.word, hv], hvt⟩
            · have e : t = p := by omega
              exact ⟨⟨p, x.head.gen, x.head.stamp, x.head.thread⟩, by simp [Lk.meets, Lk.word], e.symm⟩
        · rename_i hnm
          refine ⟨p + 1, h.turn_ hp _ h.turns h.sg h.pair (fun v hv => ?_) (fun t t1 t2 hst => ?_)⟩
          · obtain ⟨a, b, c⟩ := h.vs v hv
            exact ⟨a, by omega, c⟩
          · by_cases hlt : t < p
            · exact h.all t t1 hlt hst
            · have e : t = p := by omega
              subst e
              exact absurd (hmet hst) hnm
    · rw [e1]
      rcases hw with hw | ⟨v0, hw, _⟩
      · rw [hw]
        rw [if_pos (by decide)]
        unfold rem
        rw [if_pos (by exact hlo)]
        show 3 * x.turns.length - 1 - (x.words ++ [_]).length < _
        rw [ht, hw]
        simp [ups_len]
        omega
      · rw [hw]
        rw [if_neg (by simp)]
        split
        · show 3 * x.turns.tail.length < _
          rw [ht]
          simp [ups_len]
          omega
        · show 3 * x.turns.tail.length < _
          rw [ht]
          simp [ups_len]
          omega
/-- One slot taken out, put in. -/
def off (f : Int → Bool) (t : Int) : Int → Bool := fun q => if q = t then false else f q
def on (f : Int → Bool) (t : Int) : Int → Bool := fun q => if q = t then true else f q
theorem off_le {f : Int → Bool} {t q : Int} (h : off f t q = true) : f q = true := by unfold off at h; split at h; cases h; exact h
theorem on_ge {f : Int → Bool} {t q : Int} (h : f q = true) : on f t q = true := by unfold on; split; rfl; exact h
theorem XI.mono {stays' lived' : Int → Bool} (h : XI H0 W0 s stays lived x p) (h1 : ∀ t, stays' t = true → stays t = true) (h2 : ∀ t, lived t = true → lived' t = true) : XI H0 W0 s stays' lived' x p := by
  refine ⟨h.p1, h.p8, h.sg, h.turns, h.pair, fun v hv => ?_, fun t a b c => h.all t a b (h1 t c), ?_⟩
  · obtain ⟨a, b, c, d, e⟩ := h.vs v hv
    exact ⟨a, b, h2 _ c, d, fun q => e (h1 _ q)⟩
  · rcases h.ph with a | ⟨a, b, c, d, e, f⟩
    · exact .inl a
    · refine .inr ⟨a, b, h2 _ c, d, fun q => e (h1 _ q), ?_⟩
      rcases f with f | ⟨v, f, g⟩
      · exact .inl f
      · exact .inr ⟨v, f, fun q => g (h1 _ q)⟩
theorem XI.fin (h : XI H0 W0 s stays lived x p) (ht : x.turns = []) : (∀ v, v ∈ x.victims → 1 ≤ v.slot ∧ v.slot < 8 ∧ lived v.slot = true ∧ 1 ≤ v.gen ∧ (stays v.slot = true → v.gen = (hd H0 v.slot).gen)) ∧ ∀ t : Int, 1 ≤ t → t < 8 → stays t = true → ∃ v, v ∈ x.victims ∧ v.slot = t := by
  have hp : p = 8 := by have := h.turns; rw [ht] at this; have h1 := ups_end this.symm; have := h.p8; omega
  subst hp
  exact ⟨h.vs, h.all⟩
theorem hd_set {H : List Hd} {i : Nat} {y : Hd} (hi : i < H.length) (t : Int) (h0 : 0 ≤ t) : hd (H.set i y) t = if t = (i : Int) then y else hd H t := by
  unfold hd
  rw [List.getElem?_set]
  by_cases e : t = (i : Int)
  · rw [if_pos (by omega), if_pos hi, if_pos e]; rfl
  · rw [if_neg (by omega), if_neg e]
theorem wd_set {W : List Int} {i k : Nat} {y : Int} (hk : k < 2) (hi : 2 * i + k < W.length) (t : Int) (h0 : 0 ≤ t) (j : Nat) (hj : j < 2) : wd (W.set (2 * i + k) y) t j = if t = (i : Int) ∧ j = k then y else wd W t j := by
  unfold wd
  rw [List.getElem?_set]
  by_cases e : t = (i : Int) ∧ j = k
  · obtain ⟨rfl, rfl⟩ := e
    rw [if_pos (by simp), if_pos hi, if_pos ⟨rfl, rfl⟩]; rfl
  · rw [if_neg (by omega), if_neg e]
theorem nth_hd {S : Sp} (hl : S.H.length = 8) {i : Int} (h0 : 0 ≤ i) (h8 : i < 8) : nth S.H i = some (hd S.H i) := by
  unfold nth
  rw [if_pos h0]
  unfold hd
  rw [List.getElem?_eq_getElem (by omega)]
  rfl
/-- A head is set. -/
theorem SI.set {stays' lived' : Int → Bool} (h : SI H0 W0 s stays lived S) {i : Nat} (hi : i < 8) (y : Hd) (hy : 0 ≤ y.gen ∧ (y.state ≠ 0 → 1 ≤ y.gen)) (hl : y.state = 2 → lived' i = true) (h1 : ∀ t, stays' t = true → stays t = true) (h2 : ∀ t, lived t = true → lived' t = true) (h3 : stays' i = false) {S' : Sp} (eH : S'.H = S.H.set i y) (eW : S'.W = S.W) : SI H0 W0 s stays' lived' S' := by
  have hlen := h.hl
  have hs : ∀ t : Int, 0 ≤ t → hd S'.H t = if t = (i : Int) then y else hd S.H t := fun t t0 => by rw [eH]; exact hd_set (by omega) t t0
  refine ⟨by rw [eH]; simpa using hlen, by rw [eW]; exact h.hw, fun t a b => ?_, fun t a b c => ?_, fun t a b c => ?_⟩
  · rw [hs t a]
    split
    · exact hy
    · exact h.gens t a b
  · rw [hs t (by omega)] at c
    split at c
    · rename_i e; rw [e]; exact hl c
    · exact h2 _ (h.lv t a b c)
  · have hne : t ≠ (i : Int) := fun e => by rw [e, h3] at c; cases c
    rw [hs t (by omega), if_neg hne, eW]
    exact h.st t a b (h1 t c)
/-- Nothing but the meter moves. -/
theorem SI.same {stays' lived' : Int → Bool} (h : SI H0 W0 s stays lived S) (h1 : ∀ t, stays' t = true → stays t = true) (h2 : ∀ t, lived t = true → lived' t = true) {S' : Sp} (eH : S'.H = S.H) (eW : S'.W = S.W) : SI H0 W0 s stays' lived' S' :=
  ⟨by rw [eH]; exact h.hl, by rw [eW]; exact h.hw, by rw [eH]; exact h.gens, fun t a b c => h2 _ (h.lv t a b (by rw [eH] at c; exact c)), fun t a b c => by rw [eH, eW]; exact h.st t a b (h1 t c)⟩
theorem SI.free (h : SI H0 W0 s stays lived S) {i : Nat} (hi : i < 8) (g : Int) : SI H0 W0 s (off stays i) lived (S.free i g).2 := by
  unfold Sp.free
  rw [nth_hd h.hl (by omega) (by omega)]
  simp only
  split
  · exact h.set hi ⟨(hd S.H i).gen, 0, 0, 0, false, 0⟩ ⟨(h.gens i (by omega) (by omega)).1, fun e => absurd rfl e⟩ (fun e => absurd (show (0 : Int) = 2 from e) (by decide)) (fun t => off_le) (fun t q => q) (by simp [off]) (by simp only [Int.toNat_natCast]) rfl
  · exact h.same (fun t => off_le) (fun t q => q) rfl rfl
theorem SI.claim (h : SI H0 W0 s stays lived S) {i : Nat} (h1 : 1 ≤ i) (hi : i < 8) (t : Int) : SI H0 W0 s stays lived (S.claim i t).2 := by
  unfold Sp.claim
  split
  · exact h
  · rw [nth_hd h.hl (by omega) (by omega)]
    simp only
    split
    · rename_i h0
      have hg := (h.gens i (by omega) (by omega)).1
      refine h.set hi ⟨(hd S.H i).gen + 1, 1, 0, t, false, 0⟩ ⟨by show 0 ≤ (hd S.H i).gen + 1; omega, fun _ => by show 1 ≤ (hd S.H i).gen + 1; omega⟩ (fun e => absurd (show (1 : Int) = 2 from e) (by decide)) (fun t q => q) (fun t q => q) ?_ (by simp only [Int.toNat_natCast]) rfl
      cases e : stays i with
      | false => rfl
      | true =>
        have := (h.st i (by omega) (by omega) e).1
        rw [h0] at this
        cases this
    · exact h.same (fun t q => q) (fun t q => q) rfl rfl
theorem SI.ready (h : SI H0 W0 s stays lived S) {i : Nat} (h1 : 1 ≤ i) (hi : i < 8) (g st : Int) : SI H0 W0 s stays (on lived i) (S.ready i g st).2 := by
  unfold Sp.ready
  split
  · exact h.same (fun t q => q) (fun t => on_ge) rfl rfl
  · rw [nth_hd h.hl (by omega) (by omega)]
    simp only
    split
    · rename_i h0
      have hg := h.gens i (by omega) (by omega)
      refine h.set hi ⟨(hd S.H i).gen, 2, st, (hd S.H i).thread, (hd S.H i).doomed, (hd S.H i).who⟩ ⟨hg.1, fun _ => hg.2 (by rw [h0.1]; decide)⟩ (fun _ => by simp [on]) (fun t q => q) (fun t => on_ge) ?_ (by simp only [Int.toNat_natCast]) rfl
      cases e : stays i with
      | false => rfl
      | true =>
        have := (h.st i (by omega) (by omega) e).1
        rw [h0.1] at this
        cases this
    · exact h.same (fun t q => q) (fun t => on_ge) rfl rfl
theorem or_and_ne {a b m : Nat} (h : a &&& m ≠ 0) : (a ||| b) &&& m ≠ 0 := fun e => h (by
  apply Nat.eq_of_testBit_eq
  intro i
  have h1 := congrArg (fun q => Nat.testBit q i) e
  simp only [Nat.testBit_and, Nat.testBit_or, Nat.zero_testBit] at h1 ⊢
  cases ha : a.testBit i <;> cases hm : m.testBit i <;> simp_all)
theorem SI.put (h : SI H0 W0 s stays lived S) {i k : Nat} (hi : i < 8) (hk : k < 2) {m X : Nat} (hm : wd S.W i k = m) : SI H0 W0 s stays lived (S.put i k ((m ||| X : Nat) : Int)).2 := by
  have hw := h.hw
  have hl := h.hl
  have hx : wnth S i k = some (wd S.W i k) := by
    unfold wnth
    rw [if_pos ⟨⟨by omega, by omega⟩, by omega, by omega⟩]
    unfold wd
    simp only [Int.toNat_natCast]
    rw [List.getElem?_eq_getElem (by omega)]
    rfl
  unfold Sp.put
  rw [hx]
  simp only [Int.toNat_natCast]
  refine ⟨hl, by simpa [Sp.acc] using hw, h.gens, h.lv, fun t a b c => ?_⟩
  obtain ⟨q1, q2, q3, q4, q5⟩ := h.st t a b c
  refine ⟨q1, q2, q3, fun j hj hh => ?_, q5⟩
  have h5 := q4 j hj hh
  unfold Has at h5 ⊢
  show (wd (S.W.set (2 * i + k) _) t j).toNat &&& sel s j ≠ 0
  rw [wd_set hk (by omega) t (by omega) j hj]
  split
  · rename_i e
    obtain ⟨rfl, rfl⟩ := e
    rw [hm] at h5
    simp only [Int.toNat_natCast] at h5 ⊢
    exact or_and_ne h5
  · exact h5
/-- As it begins. -/
theorem SI.new (hl : S.H.length = 8) (hw : S.W.length = 16) (hg : ∀ t : Int, 0 ≤ t → t < 8 → 0 ≤ (hd S.H t).gen ∧ ((hd S.H t).state ≠ 0 → 1 ≤ (hd S.H t).gen)) (hs : ∀ t : Int, 1 ≤ t → t < 8 → stays t = true → (hd S.H t).state = 2 ∧ (hd S.H t).doomed = false ∧ (Has S.W s t 0 ∨ Has S.W s t 1)) (hv : ∀ t : Int, 1 ≤ t → t < 8 → (hd S.H t).state = 2 → lived t = true) : SI S.H S.W s stays lived S :=
  ⟨hl, hw, hg, hv, fun t a b c => by obtain ⟨q1, q2, q3⟩ := hs t a b c; exact ⟨q1, q2, rfl, fun _ _ h => h, q3⟩⟩
theorem XI.new (s : Sg) : XI H0 W0 s stays lived (Lk.new 8 0 s) 1 :=
  ⟨Nat.le_refl _, by decide, rfl, ups_one, List.Pairwise.nil, fun v hv => by simp [Lk.new] at hv, fun t a b => by omega, .inl ⟨rfl, rfl⟩⟩
end
end Go.Proofs.Ytnednminpmiojaa.fm

namespace Go.Proofs.Ytnednminpmiojaa.fm
open Go.RowKit
set_option linter.unusedVariables false
set_option linter.unusedSimpArgs false
open fd
theorem fld (x0 x1 x2 x3 : Value) (w : World) : (Instr.field 41 (.agg #[x0, x1, x2, x3]) 2).run Try.prog w = .ok x3 w := by kernel_rfl
theorem lst_keeps {w w' : World} {A : Option Addr} {n cap : Nat} {l : List ElSeat} (h : LstSeat w A n cap l) (hk : Keeps [] w w') : LstSeat w' A n cap l := by
  obtain ⟨h1, h2, h3, h4⟩ := h
  refine ⟨h1, h2, h3, fun hn => ?_⟩
  obtain ⟨b, off, hA, hb, hc⟩ := h4 hn
  exact ⟨b, off, hA, Nat.lt_of_lt_of_le hb hk.size, fun i p hp => (hc i p hp).keeps hb hk⟩
/-- A row of the call's own, beside the blocks X. -/
structure RO (w : World) (X : List Nat) (t : TypeId) (size : Nat) (v : Value) (n : Nat) (xs : List Value) : Prop where
  own : w.ownsRow 0 t size v n xs
  off : ∀ q, q ∈ vblk v → q ∉ X
theorem RO.step {w w' : World} {X X' : List Nat} {t : TypeId} {size n : Nat} {v : Value} {xs : List Value} (h : RO w X t size v n xs) (hk : Keeps X w w') (hg : ∀ q, q ∈ X' → q ∈ X ∨ w.heap.size ≤ q) : RO w' X' t size v n xs :=
  ⟨own_keeps h.own hk (fun q hq => h.off q (by simp [vblk, hq])), fun q hq hx => by
    have := own_lt h.own (k := q) (by simpa [vblk] using hq)
    rcases hg q hx with h1 | h1
    · exact h.off q hq h1
    · omega⟩
theorem RO.calm {w w' : World} {X : List Nat} {t : TypeId} {size n : Nat} {v : Value} {xs : List Value} (h : RO w X t size v n xs) (hk : Keeps [] w w') : RO w' X t size v n xs :=
  ⟨own_keeps h.own hk (by simp), h.off⟩
theorem RO.mk_ {w w1 : World} {X : List Nat} {t : TypeId} {size n : Nat} {v : Value} {xs : List Value} (h : w1.ownsRow w.heap.size t size v n xs) (hX : ∀ q, q ∈ X → q < w.heap.size) : RO w1 X t size v n xs :=
  ⟨own_base h (fun _ _ => Nat.zero_le _), fun q hq hx => by
    have h1 := (h.lt q (by simpa [vblk] using hq)).1
    have h2 := hX q hx
    omega⟩
/-- Another block's writes. -/
theorem RO.far {w w' : World} {X Y : List Nat} {t : TypeId} {size n : Nat} {v : Value} {xs : List Value} (h : RO w X t size v n xs) (hk : Keeps Y w w') (hY : ∀ q, q ∈ vblk v → q ∉ Y) : RO w' X t size v n xs :=
  ⟨own_keeps h.own hk (fun q hq => hY q (by simp [vblk, hq])), h.off⟩
theorem want_grow {w5 wr W w1 : World} {wt v1 : Value} {fs : List Vc} (v : Vc) (how : wr.ownsRow w5.heap.size 101 4 wt fs.length (vcCells fs)) (hk : Keeps [] w5 wr) (hkW : Keeps [] wr W) (hown : w1.ownsRow 0 101 4 v1 (fs.length + 1) (vcCells fs ++ v.cells)) (hg : W.grownBy w1 wt.ownBlock) (hat : v1.ownBlock = wt.ownBlock ∨ v1.ownBlock = some W.heap.size) :
    w1.ownsRow w5.heap.size 101 4 v1 (fs ++ [v]).length (vcCells (fs ++ [v])) ∧ Keeps [] w5 w1 := by
  have hz := (hk.trans hkW (by simp)).size
  refine ⟨?_, (hk.trans hkW (by simp)).grown hg (fun q hq => .inr (how.lt q hq).1)⟩
  rw [vcCells_snoc, show (fs ++ [v]).length = fs.length + 1 from by simp]
  refine own_base hown (fun q hq => ?_)
  rcases hat with e | e
  · exact (how.lt q (e ▸ hq)).1
  · rw [e] at hq; injection hq with hq; omega
theorem turns_ne {own : Int} {j : Nat} (h : (j : Int) ≠ own) (H : List Hd) (W : List Int) (sg : Sg) : costs H (turnsTo own (j + 1)) = costs H (turnsTo own j) + cost H j ∧ futs H W sg (turnsTo own (j + 1)) = futs H W sg (turnsTo own j) ++ fut H W sg j := by
  have e : turnsTo own (j + 1) = turnsTo own j ++ [(j : Int)] := by simp [turnsTo, h]
  rw [e, costs_app]
  exact ⟨by simp [costs], by simp [futs]⟩
theorem wd_u {W : List Int} (h : ∀ v, v ∈ W → isU v) (t : Int) (j : Nat) : ∃ m : Nat, wd W t j = m ∧ m < 18446744073709551616 := by
  have hu : isU (wd W t j) := by
    unfold wd
    cases e : W[2 * t.toNat + j]? with
    | none => exact ⟨by simp, by simp⟩
    | some x => exact h x (List.mem_of_getElem? e)
  unfold isU at hu
  exact ⟨(wd W t j).toNat, by omega, by omega⟩
theorem RO.swap {w6 w8 : World} {G4 G7 F : List Nat} {t : TypeId} {size n : Nat} {v : Value} {xs : List Value} (h : RO w6 (G4 ++ F) t size v n xs) (hk : Keeps [] w6 w8) (hG : ∀ q, q ∈ G7 → w6.heap.size ≤ q) : RO w8 (G7 ++ F) t size v n xs :=
  ⟨own_keeps h.own hk (by simp), fun q hq hx => by
    rw [List.mem_append] at hx
    rcases hx with hx | hx
    · have h1 := own_lt h.own (k := q) (by simpa [vblk] using hq)
      have h2 := hG q hx
      omega
    · exact h.off q hq (by simp [hx])⟩

def bools (f : Int → Bool) : Array Value := #[.bool (f 0), .bool (f 1), .bool (f 2), .bool (f 3), .bool (f 4), .bool (f 5), .bool (f 6), .bool (f 7)]
/-- All of it; sa, la: what the two arrays hold; R: how many steps are left at most. -/
def Miss (wb : World) (z : Sb) (b : Nat) (H0 : List Hd) (W0 : List Int) (s : Sg) (sb lb a2 c2 : Nat) (stays lived sa la : Int → Bool) (R k : Nat) (wr : World) : Prop :=
  ∃ F G S x p, SP wb wr z F S ∧ Fit k S ∧ S.wu ∧ LK wb wr z F b G x ∧ x.Ok k ∧ XI H0 W0 s stays lived x p ∧ SI H0 W0 s stays lived S ∧ rem x = R ∧
    Loc wr (G ++ F) sb 73 (bools sa) ∧ Loc wr (G ++ F) lb 73 (bools la) ∧ RO wr (G ++ F) 59 8 (.slice (some ⟨a2, 0, none⟩) 8 c2) 8 (slC H0 W0)
section
variable {wb wr w' : World} {z : Sb} {b : Nat} {H0 : List Hd} {W0 : List Int} {s : Sg} {sb lb a2 c2 : Nat} {stays lived sa la : Int → Bool} {R k : Nat}
theorem rem_zero {x : Lk} {p : Nat} (h : XI H0 W0 s stays lived x p) : x.turns.isEmpty = (rem x == 0) := by
  have hw : x.looked = true → x.words.length ≤ 1 ∧ p < 8 := fun hl => by
    rcases h.ph with ⟨a, _⟩ | ⟨_, b, _, _, _, c⟩
    · rw [hl] at a; cases a
    · rcases c with c | ⟨v, c, _⟩
      · exact ⟨by rw [c]; decide, b⟩
      · exact ⟨by rw [c]; simp, b⟩
  cases ht : x.turns with
  | nil =>
    have : x.looked = false := by
      cases hl : x.looked with
      | false => rfl
      | true =>
        have h1 := (hw hl).2
        have h2 := ups_end (h.turns.symm.trans ht)
        omega
    unfold rem
    rw [this, ht]
    rfl
  | cons t l =>
    have h0 : rem x ≠ 0 := by
      unfold rem
      rw [ht]
      split
      · rename_i hl
        have := (hw hl).1
        simp
        omega
      · simp
    simp [h0]
theorem Miss.done_ (h : Miss wb z b H0 W0 s sb lb a2 c2 stays lived sa la R k wr) : Calls Try.prog 43 #[PT b] wr fun e w' => e = .returned (.bool (R == 0)) ∧ wr = w' := by
  obtain ⟨F, G, S, x, p, h1, h2, h3, h4, h5, h6, h7, rfl, _⟩ := h
  obtain ⟨tv, wv, vv, ha, _⟩ := h4.ex
  have hd := lk_done ha
  rw [rem_zero h6] at hd
  exact hd
theorem Miss.calm (h : Miss wb z b H0 W0 s sb lb a2 c2 stays lived sa la R k wr) (hk : Keeps [] wr w') : Miss wb z b H0 W0 s sb lb a2 c2 stays lived sa la R k w' := by
  obtain ⟨F, G, S, x, p, h1, h2, h3, h4, h5, h6, h7, h8, h9, h10, h11⟩ := h
  exact ⟨F, G, S, x, p, h1.calm hk, h2, h3, h4.calm hk, h5, h6, h7, h8, h9.calm hk, h10.calm hk, h11.calm hk⟩
theorem Miss.keep (h : Miss wb z b H0 W0 s sb lb a2 c2 stays lived sa la R k wr) : Keeps [] wb wr := by
  obtain ⟨F, G, S, x, p, h1, _⟩ := h
  exact h1.keep
theorem Miss.step (h : Miss wb z b H0 W0 s sb lb a2 c2 stays lived sa la R k wr) (hR : R ≠ 0) (hk : k ≤ 1099511627776) : Calls Try.prog 44 #[PT b] wr fun e w' => ∃ (a : Int) (R' : Nat), e = .returned (.int .i64 a) ∧ R' < R ∧ Miss wb z b H0 W0 s sb lb a2 c2 stays lived sa la R' (k + 1) w' := by
  obtain ⟨F, G, S, x, p, h1, h2, h3, h4, h5, h6, h7, h8, h9, h10, h11⟩ := h
  have hne : x.turns ≠ [] := fun e => by
    have := rem_zero h6
    rw [e, h8] at this
    simp at this
    exact hR this
  obtain ⟨⟨q, g1⟩, g2, g3⟩ := h6.step h7 hne
  refine (lk_step h1 h2 hk h4 h3 h5 hk).mono fun e w' ⟨he, F', G', k1, k2, k3, k4, k5⟩ => ?_
  have hg : ∀ q, q ∈ G' ++ F' → q ∈ G ++ F ∨ wr.heap.size ≤ q := fun q hq => by
    rw [List.mem_append] at hq ⊢
    rcases hq with hq | hq
    · rcases k5 q hq with h | h
      · exact .inl (.inl h)
      · exact .inr h
    · rcases k4 q hq with h | h
      · exact .inl (.inr h)
      · exact .inr h
  exact ⟨_, _, he, by rw [← h8]; exact g3, F', G', _, _, q, k1, h2.lkstep x, h3.lkstep x, k2, h5.step h3, g1, g2, rfl, h9.step k3 hg, h10.step k3 hg, h11.step k3 hg⟩
/-- A call of the space's. -/
theorem Miss.by_ {F G : List Nat} {S S' : Sp} {x : Lk} {p : Nat} {stays' lived' : Int → Bool} (h1 : SP wb wr z F S) (h4 : LK wb wr z F b G x) (h5 : x.Ok k) (h6 : XI H0 W0 s stays lived x p) (h8 : rem x = R) (h9 : Loc wr (G ++ F) sb 73 (bools sa)) (h10 : Loc wr (G ++ F) lb 73 (bools la)) (h11 : RO wr (G ++ F) 59 8 (.slice (some ⟨a2, 0, none⟩) 8 c2) 8 (slC H0 W0))
    (hw : Went wb wr w' z F S') (hf : Fit (k + 1) S') (hu : S'.wu) (hi : SI H0 W0 s stays' lived' S') (m1 : ∀ t, stays' t = true → stays t = true) (m2 : ∀ t, lived t = true → lived' t = true) : Miss wb z b H0 W0 s sb lb a2 c2 stays' lived' sa la R (k + 1) w' := by
  obtain ⟨F', k1, k2, k3⟩ := hw
  have hk : Keeps (G ++ F) wr w' := k2.mono (fun q hq => .inl (by simp [hq]))
  have hg : ∀ q, q ∈ G ++ F' → q ∈ G ++ F ∨ wr.heap.size ≤ q := fun q hq => by
    rw [List.mem_append] at hq ⊢
    rcases hq with hq | hq
    · exact .inl (.inl hq)
    · rcases k3 q hq with h | h
      · exact .inl (.inr h)
      · exact .inr h
  exact ⟨F', G, S', x, p, k1, hf, hu, h4.step k2 k3, h5.wide (Nat.le_succ k), h6.mono m1 m2, hi, h8, h9.step hk hg, h10.step hk hg, h11.step hk hg⟩
theorem Miss.slots (h : Miss wb z b H0 W0 s sb lb a2 c2 stays lived sa la R k wr) : Calls Try.prog 32 #[PT z.p] wr fun e w' => e = .returned (PT z.t.q) ∧ wr = w' := by
  obtain ⟨F, G, S, x, p, h1, _⟩ := h
  exact sp_slots h1
theorem Miss.free (h : Miss wb z b H0 W0 s sb lb a2 c2 stays lived sa la R k wr) (hk : k ≤ 1099511627776) {i : Nat} (hi : i < 8) (g : Int) : Calls Try.prog 35 #[PT z.t.q, .int .i64 i, .int .i64 g] wr fun e w' => ∃ a : Int, e = .returned (.int .i64 a) ∧ Miss wb z b H0 W0 s sb lb a2 c2 (off stays i) lived sa la R (k + 1) w' := by
  obtain ⟨F, G, S, x, p, h1, h2, h3, h4, h5, h6, h7, h8, h9, h10, h11⟩ := h
  exact (sp_free h1 h2 hk i g).mono fun e w' ⟨he, hw⟩ => ⟨_, he, Miss.by_ h1 h4 h5 h6 h8 h9 h10 h11 hw (h2.free _ _) (Sp.wu_of h3 (S.free_W _ _).1) (h7.free hi g) (fun t => off_le) (fun t q => q)⟩
theorem Miss.claim (h : Miss wb z b H0 W0 s sb lb a2 c2 stays lived sa la R k wr) (hk : k ≤ 1099511627776) {i : Nat} (h1i : 1 ≤ i) (hi : i < 8) (t : Int) : Calls Try.prog 36 #[PT z.t.q, .int .i64 i, .int .i64 t] wr fun e w' => ∃ a c : Int, e = .returned (.tuple #[.int .i64 a, .int .i64 c]) ∧ Miss wb z b H0 W0 s sb lb a2 c2 stays lived sa la R (k + 1) w' := by
  obtain ⟨F, G, S, x, p, h1, h2, h3, h4, h5, h6, h7, h8, h9, h10, h11⟩ := h
  exact (sp_claim h1 h2 hk i t).mono fun e w' ⟨he, hw⟩ => ⟨_, _, he, Miss.by_ h1 h4 h5 h6 h8 h9 h10 h11 hw (h2.claim _ _) (Sp.wu_of h3 (S.claim_W _ _).1) (h7.claim h1i hi t) (fun t q => q) (fun t q => q)⟩
theorem Miss.ready (h : Miss wb z b H0 W0 s sb lb a2 c2 stays lived sa la R k wr) (hk : k ≤ 1099511627776) {i : Nat} (h1i : 1 ≤ i) (hi : i < 8) (g t : Int) : Calls Try.prog 51 #[PT z.t.q, .int .i64 i, .int .i64 g, .int .i64 t] wr fun e w' => ∃ a : Int, e = .returned (.int .i64 a) ∧ Miss wb z b H0 W0 s sb lb a2 c2 stays (on lived i) sa la R (k + 1) w' := by
  obtain ⟨F, G, S, x, p, h1, h2, h3, h4, h5, h6, h7, h8, h9, h10, h11⟩ := h
  exact (sp_ready h1 h2 hk i g t).mono fun e w' ⟨he, hw⟩ => ⟨_, he, Miss.by_ h1 h4 h5 h6 h8 h9 h10 h11 hw (h2.ready _ _ _) (Sp.wu_of h3 (S.ready_W _ _ _).1) (h7.ready h1i hi g t) (fun t q => q) (fun t => on_ge)⟩
/-- A word is loaded; a word with these bits and more may be put behind it. -/
theorem Miss.word (h : Miss wb z b H0 W0 s sb lb a2 c2 stays lived sa la R k wr) (hk : k ≤ 1099511627776) {i j : Nat} (hi : i < 8) (hj : j < 2) : Calls Try.prog 38 #[PT z.t.q, .int .i64 i, .int .i64 j] wr fun e w' => ∃ m : Nat, e = .returned (.tuple #[.int .u64 (m : Int), .int .i64 0]) ∧ m < 18446744073709551616 ∧ ∃ F G S x p, SP wb w' z F S ∧ Fit (k + 1) S ∧ S.wu ∧ LK wb w' z F b G x ∧ x.Ok (k + 1) ∧ XI H0 W0 s stays lived x p ∧ SI H0 W0 s stays lived S ∧ rem x = R ∧ Loc w' (G ++ F) sb 73 (bools sa) ∧ Loc w' (G ++ F) lb 73 (bools la) ∧ RO w' (G ++ F) 59 8 (.slice (some ⟨a2, 0, none⟩) 8 c2) 8 (slC H0 W0) ∧ wd S.W i j = m := by
  obtain ⟨F, G, S, x, p, h1, h2, h3, h4, h5, h6, h7, h8, h9, h10, h11⟩ := h
  obtain ⟨m, hm, hm8⟩ := wd_u h3 i j
  have hx : wnth S i j = some (wd S.W i j) := by
    have hl := h7.hl
    have hw := h7.hw
    unfold wnth
    rw [if_pos ⟨⟨by omega, by omega⟩, by omega, by omega⟩]
    unfold wd
    simp only [Int.toNat_natCast]
    rw [List.getElem?_eq_getElem (by omega)]
    rfl
  have e : S.word i j = ((wd S.W i j, 0), S.acc 4 (2 * i + j) 1 true) := by unfold Sp.word; rw [hx]
  have hc := sp_word h1 h2 hk i j
  rw [e] at hc
  refine hc.mono fun e w' ⟨he, hw⟩ => ?_
  rw [hm] at he
  obtain ⟨F', k1, k2, k3⟩ := hw
  have hkk : Keeps (G ++ F) wr w' := k2.mono (fun q hq => .inl (by simp [hq]))
  have hg : ∀ q, q ∈ G ++ F' → q ∈ G ++ F ∨ wr.heap.size ≤ q := fun q hq => by
    rw [List.mem_append] at hq ⊢
    rcases hq with hq | hq
    · exact .inl (.inl hq)
    · rcases k3 q hq with h | h
      · exact .inl (.inr h)
      · exact .inr h
  exact ⟨m, he, hm8, F', G, _, x, p, k1, h2.acc _ _ _ _, h3, h4.step k2 k3, h5.wide (Nat.le_succ k), h6, h7.same (fun t q => q) (fun t q => q) rfl rfl, h8, h9.step hkk hg, h10.step hkk hg, h11.step hkk hg, hm⟩
/-- Behind a load of a word. -/
def MissWd (wb : World) (z : Sb) (b : Nat) (H0 : List Hd) (W0 : List Int) (s : Sg) (sb lb a2 c2 : Nat) (stays lived sa la : Int → Bool) (R k i j m : Nat) (wr : World) : Prop :=
  ∃ F G S x p, SP wb wr z F S ∧ Fit k S ∧ S.wu ∧ LK wb wr z F b G x ∧ x.Ok k ∧ XI H0 W0 s stays lived x p ∧ SI H0 W0 s stays lived S ∧ rem x = R ∧ Loc wr (G ++ F) sb 73 (bools sa) ∧ Loc wr (G ++ F) lb 73 (bools la) ∧ RO wr (G ++ F) 59 8 (.slice (some ⟨a2, 0, none⟩) 8 c2) 8 (slC H0 W0) ∧ wd S.W i j = m
theorem MissWd.calm {i j m : Nat} (h : MissWd wb z b H0 W0 s sb lb a2 c2 stays lived sa la R k i j m wr) (hk : Keeps [] wr w') : MissWd wb z b H0 W0 s sb lb a2 c2 stays lived sa la R k i j m w' := by
  obtain ⟨F, G, S, x, p, h1, h2, h3, h4, h5, h6, h7, h8, h9, h10, h11, h12⟩ := h
  exact ⟨F, G, S, x, p, h1.calm hk, h2, h3, h4.calm hk, h5, h6, h7, h8, h9.calm hk, h10.calm hk, h11.calm hk, h12⟩
theorem MissWd.keep {i j m : Nat} (h : MissWd wb z b H0 W0 s sb lb a2 c2 stays lived sa la R k i j m wr) : Keeps [] wb wr := by
  obtain ⟨F, G, S, x, p, h1, _⟩ := h
  exact h1.keep
theorem MissWd.put {i j m : Nat} (h : MissWd wb z b H0 W0 s sb lb a2 c2 stays lived sa la R k i j m wr) (hk : k ≤ 1099511627776) (hi : i < 8) (hj : j < 2) {X : Nat} (hm : m < 18446744073709551616) (hX : X < 18446744073709551616) : Calls Try.prog 33 #[PT z.t.q, .int .i64 i, .int .i64 j, .int .u64 ((m ||| X : Nat) : Int)] wr fun e w' => ∃ a : Int, e = .returned (.int .i64 a) ∧ Miss wb z b H0 W0 s sb lb a2 c2 stays lived sa la R (k + 1) w' := by
  obtain ⟨F, G, S, x, p, h1, h2, h3, h4, h5, h6, h7, h8, h9, h10, h11, h12⟩ := h
  have hu : isU ((m ||| X : Nat) : Int) := ⟨Int.natCast_nonneg _, by have := or_lt m X hm hX; omega⟩
  exact (sp_put h1 h2 hk i j _).mono fun e w' ⟨he, hw⟩ => ⟨_, he, Miss.by_ h1 h4 h5 h6 h8 h9 h10 h11 hw (h2.put _ _ _) (Sp.put_wu h3 _ _ _ hu).1 (h7.put hi hj h12) (fun t q => q) (fun t q => q)⟩
theorem Miss.now (h : Miss wb z b H0 W0 s sb lb a2 c2 stays lived sa la R k wr) : Calls Try.prog 34 #[PT z.t.q] wr fun e w' => ∃ (a c : Nat) (H : List Hd) (W : List Int), e = .returned (.slice (some ⟨a, 0, none⟩) 8 c) ∧ w'.ownsRow 0 59 8 (.slice (some ⟨a, 0, none⟩) 8 c) 8 (slC H W) ∧ H.length = 8 ∧ W.length = 16 ∧ Keeps [] wr w' := by
  obtain ⟨F, G, S, x, p, h1, h2, h3, h4, h5, h6, h7, _⟩ := h
  refine (tab_now h1 h2).mono fun e w' ⟨a, c, he, ho, hl, hk⟩ => ?_
  rw [h7.hl] at he ho
  exact ⟨a, c, S.H, S.W, he, ho, h7.hl, h7.hw, hk⟩
/-- Who lives, is not doomed and has a bit of s; who lives. -/
def st0 (H : List Hd) (W : List Int) (s : Sg) (t : Int) : Bool := decide (1 ≤ t) && (live (hd H t) && mt W s t)
def lv0 (H : List Hd) (t : Int) : Bool := decide (1 ≤ t) && ((hd H t).state == 2)
theorem SI.start {S : Sp} (s : Sg) (hl : S.H.length = 8) (hw : S.W.length = 16) (hg : GenOk S) : SI S.H S.W s (st0 S.H S.W s) (lv0 S.H) S := by
  refine SI.new hl hw (fun t a b => ?_) (fun t a b c => ?_) (fun t a b c => ?_)
  · exact hg.at_ (nth_hd hl a b)
  · unfold st0 at c
    simp only [Bool.and_eq_true, decide_eq_true_eq] at c
    obtain ⟨_, c1, c2⟩ := c
    unfold live at c1
    simp only [Bool.and_eq_true, beq_iff_eq, Bool.not_eq_true'] at c1
    refine ⟨c1.1, c1.2, ?_⟩
    unfold fd.mt sgOf Sg.meet Sg.none at c2
    simp only [List.getD_cons_zero, List.getD_cons_succ, Bool.not_eq_true', Bool.and_eq_false_iff, beq_eq_false_iff_ne] at c2
    unfold Has sel
    rcases c2 with c2 | c2
    · exact .inl (fun e => c2 (by rw [if_pos rfl] at e; rw [e]; rfl))
    · exact .inr (fun e => c2 (by rw [if_neg (by decide)] at e; rw [e]; rfl))
  · unfold lv0
    rw [c]
    simpa using a
theorem Miss.new {F G : List Nat} {S : Sp} (h1 : SP wb wr z F S) (h2 : Fit k S) (h3 : S.wu) (hg : GenOk S) (hl : S.H.length = 8) (hw : S.W.length = 16) (hs : s.ok) (h4 : LK wb wr z F b G (Lk.new 8 0 s)) (h9 : Loc wr (G ++ F) sb 73 (bools sa)) (h10 : Loc wr (G ++ F) lb 73 (bools la)) (h11 : RO wr (G ++ F) 59 8 (.slice (some ⟨a2, 0, none⟩) 8 c2) 8 (slC S.H S.W)) :
    Miss wb z b S.H S.W s sb lb a2 c2 (st0 S.H S.W s) (lv0 S.H) sa la 21 k wr :=
  ⟨F, G, S, _, 1, h1, h2, h3, h4, (Lk.new_ok (by decide) 0 hs).wide (Nat.zero_le k), XI.new s, SI.start s hl hw hg, rfl, h9, h10, h11⟩
end
end Go.Proofs.Ytnednminpmiojaa.fm

namespace Go.Proofs.Ytnednminpmiojaa.fm
open Go.RowKit fd
set_option linter.unusedVariables false
set_option linter.unusedSimpArgs false
theorem move_keeps {w w' : World} {A : Option Addr} {n cap : Nat} {l : List ElMove} (h : LstMove w A n cap l) (hk : Keeps [] w w') : LstMove w' A n cap l := by
  obtain ⟨h1, h2, h3, h5, h4⟩ := h
  refine ⟨h1, h2, h3, h5, fun hn => ?_⟩
  obtain ⟨b, off, hA, hb, hc⟩ := h4 hn
  exact ⟨b, off, hA, Nat.lt_of_lt_of_le hb hk.size, fun i p hp => (hc i p hp).keeps hb hk⟩
theorem bools_set (f : Int → Bool) (j : Nat) (hj : j < 8) (v : Bool) : (bools f).setIfInBounds j (.bool v) = bools (fun t => if t = (j : Int) then v else f t) := by
  obtain rfl | rfl | rfl | rfl | rfl | rfl | rfl | rfl : j = 0 ∨ j = 1 ∨ j = 2 ∨ j = 3 ∨ j = 4 ∨ j = 5 ∨ j = 6 ∨ j = 7 := by omega
  all_goals simp [bools]
theorem bools_get (f : Int → Bool) (j : Nat) (hj : j < 8) : (bools f)[j]? = some (.bool (f j)) := by
  obtain rfl | rfl | rfl | rfl | rfl | rfl | rfl | rfl : j = 0 ∨ j = 1 ∨ j = 2 ∨ j = 3 ∨ j = 4 ∨ j = 5 ∨ j = 6 ∨ j = 7 := by omega
  all_goals rfl
theorem bools_congr {f g : Int → Bool} (h : ∀ j : Nat, j < 8 → f j = g j) : bools f = bools g := by
  have h0 := h 0 (by decide)
  have h1 := h 1 (by decide)
  have h2 := h 2 (by decide)
  have h3 := h 3 (by decide)
  have h4 := h 4 (by decide)
  have h5 := h 5 (by decide)
  have h6 := h 6 (by decide)
  have h7 := h 7 (by decide)
  simp at h0 h1 h2 h3 h4 h5 h6 h7
  simp [bools, h0, h1, h2, h3, h4, h5, h6, h7]
/-- So far as told. -/
def upto (j : Nat) (f : Int → Bool) : Int → Bool := fun t => decide (t < (j : Int)) && f t
theorem upto_set (f : Int → Bool) (j : Nat) (hj : j < 8) : (bools (upto j f)).setIfInBounds j (.bool (f j)) = bools (upto (j + 1) f) := by
  rw [bools_set _ j hj]
  refine bools_congr fun i hi => ?_
  unfold upto
  by_cases e : (i : Int) = (j : Int)
  · rw [if_pos e, e]
    have : decide ((j : Int) < ((j + 1 : Nat) : Int)) = true := by simp; omega
    rw [this, Bool.true_and]
  · rw [if_neg e]
    have : decide ((i : Int) < (j : Int)) = decide ((i : Int) < ((j + 1 : Nat) : Int)) := by apply decide_eq_decide.2; omega
    rw [this]
theorem upto_all (f : Int → Bool) : bools (upto 8 f) = bools f := bools_congr fun j hj => by
  unfold upto
  have : decide ((j : Int) < ((8 : Nat) : Int)) = true := by simp; omega
  rw [this, Bool.true_and]
section
variable {wb wr w' : World} {z : Sb} {b : Nat} {H0 : List Hd} {W0 : List Int} {s : Sg} {sb lb a2 c2 : Nat} {stays lived sa la : Int → Bool} {R k : Nat}
/-- A store to the first array. -/
theorem Miss.put_s (h : Miss wb z b H0 W0 s sb lb a2 c2 stays lived sa la R k wr) (hlo : wb.heap.size ≤ sb) (hne : sb ≠ lb) (j : Nat) (hj : j < 8) (v : Bool) : Miss wb z b H0 W0 s sb lb a2 c2 stays lived (fun t => if t = (j : Int) then v else sa t) la R k (wr.setCell ⟨sb, j, none⟩ (.bool v)) := by
  obtain ⟨F, G, S, x, p, h1, h2, h3, h4, h5, h6, h7, h8, h9, h10, h11⟩ := h
  have hk : Keeps [sb] wr (wr.setCell ⟨sb, j, none⟩ (.bool v)) := (Keeps.refl [sb] wr).setCell (.inl (by simp)) _
  have hoff := h9.off
  simp only [List.mem_append, not_or] at hoff
  refine ⟨F, G, S, x, p, h1.away hk (fun q hq => ?_), h2, h3, h4.keeps hk (fun q hq hx => ?_) (fun q hq => .inl hq), h5, h6, h7, h8, ⟨?_, h9.off⟩, h10.far hk (by simpa using fun e => hne e.symm), h11.far hk (fun q hq hx => ?_)⟩
  · simp at hq; subst hq
    exact ⟨hlo, hoff.2, fun t ht => by rw [h9.blk.tyOf] at ht; injection ht with ht; subst ht; decide⟩
  · simp at hx; subst hx; exact hoff.1 hq
  · rw [← bools_set _ _ hj]; exact h9.blk.set_ j (.bool v)
  · simp at hx; subst hx
    have e := own_tyOf h11.own (k := q) (by simpa [vblk] using hq)
    rw [h9.blk.tyOf] at e
    revert e; decide
/-- A store to the second. -/
theorem Miss.put_l (h : Miss wb z b H0 W0 s sb lb a2 c2 stays lived sa la R k wr) (hlo : wb.heap.size ≤ lb) (hne : sb ≠ lb) (j : Nat) (hj : j < 8) (v : Bool) : Miss wb z b H0 W0 s sb lb a2 c2 stays lived sa (fun t => if t = (j : Int) then v else la t) R k (wr.setCell ⟨lb, j, none⟩ (.bool v)) := by
  obtain ⟨F, G, S, x, p, h1, h2, h3, h4, h5, h6, h7, h8, h9, h10, h11⟩ := h
  have hk : Keeps [lb] wr (wr.setCell ⟨lb, j, none⟩ (.bool v)) := (Keeps.refl [lb] wr).setCell (.inl (by simp)) _
  have hoff := h10.off
  simp only [List.mem_append, not_or] at hoff
  refine ⟨F, G, S, x, p, h1.away hk (fun q hq => ?_), h2, h3, h4.keeps hk (fun q hq hx => ?_) (fun q hq => .inl hq), h5, h6, h7, h8, h9.far hk (by simpa using hne), ⟨?_, h10.off⟩, h11.far hk (fun q hq hx => ?_)⟩
  · simp at hq; subst hq
    exact ⟨hlo, hoff.2, fun t ht => by rw [h10.blk.tyOf] at ht; injection ht with ht; subst ht; decide⟩
  · simp at hx; subst hx; exact hoff.1 hq
  · rw [← bools_set _ _ hj]; exact h10.blk.set_ j (.bool v)
  · simp at hx; subst hx
    have e := own_tyOf h11.own (k := q) (by simpa [vblk] using hq)
    rw [h10.blk.tyOf] at e
    revert e; decide
/-- As the second loop begins. -/
theorem Miss.start {w5 w7 : World} {F G : List Nat} {S : Sp} {u1 u2 : Array Value} (h1 : SP wb w5 z F S) (h2 : Fit k S) (h3 : S.wu) (hg : GenOk S) (hl : S.H.length = 8) (hw : S.W.length = 16) (hs : s.ok) (h4 : LK wb w5 z F b G (Lk.new 8 0 s)) (hro : RO w5 (G ++ F) 59 8 (.slice (some ⟨a2, 0, none⟩) 8 c2) 8 (slC S.H S.W))
    (hk5 : Keeps [] w5 w7) (hsb : w5.heap.size = sb) (ht1 : Blk w7 sb 73 u1) (ht2 : Blk w7 (sb + 1) 73 u2) (hk : Keeps [sb, sb + 1] w7 wr) (hb1 : Blk wr sb 73 (bools sa)) (hb2 : Blk wr (sb + 1) 73 (bools la)) :
    Miss wb z b S.H S.W s sb (sb + 1) a2 c2 (st0 S.H S.W s) (lv0 S.H) sa la 21 k wr := by
  have hF : ∀ q, q ∈ G ++ F → q < sb := fun q hq => by
    rw [List.mem_append] at hq
    rcases hq with hq | hq
    · have := h4.apt.lt q hq; omega
    · have := h1.lt q hq; omega
  have hlo := h1.keep.size
  refine Miss.new ((h1.calm hk5).away hk (fun q hq => ?_)) h2 h3 hg hl hw hs ((h4.calm hk5).keeps hk (fun q hq hx => ?_) (fun q hq => .inl hq)) ⟨hb1, fun hx => by have := hF _ hx; omega⟩ ⟨hb2, fun hx => by have := hF _ hx; omega⟩ ((hro.calm hk5).far hk (fun q hq hx => ?_))
  · simp only [List.mem_cons, List.not_mem_nil, or_false] at hq
    rcases hq with rfl | rfl
    · exact ⟨by omega, fun hx => by have := hF q (by simp [hx]); omega, fun t ht => by rw [ht1.tyOf] at ht; injection ht with ht; subst ht; decide⟩
    · exact ⟨by omega, fun hx => by have := hF (sb + 1) (by simp [hx]); omega, fun t ht => by rw [ht2.tyOf] at ht; injection ht with ht; subst ht; decide⟩
  · have := hF q (by simp [hq])
    simp only [List.mem_cons, List.not_mem_nil, or_false] at hx
    omega
  · have h5 := own_lt hro.own (k := q) (by simpa [vblk] using hq)
    simp only [List.mem_cons, List.not_mem_nil, or_false] at hx
    omega
end
/-- Who stays and has no victim among the first i. -/
def rest (st : Int → Bool) (vs : List Vc) (i : Nat) : Int → Bool := fun t => st t && !((vs.take i).any fun v => v.slot == t)
theorem rest_zero (st : Int → Bool) (vs : List Vc) : rest st vs 0 = st := by
  funext t
  simp [rest]
theorem rest_next {st : Int → Bool} {vs : List Vc} {i : Nat} {v : Vc} (hv : vs[i]? = some v) : rest st vs (i + 1) = fun t => if t = v.slot then false else rest st vs i t := by
  funext t
  unfold rest
  rw [List.take_add_one, hv]
  simp only [Option.toList_some, List.any_append, List.any_cons, List.any_nil, Bool.or_false]
  by_cases e : t = v.slot
  · rw [if_pos e]
    have : (v.slot == t) = true := by simp [e]
    rw [this]
    simp
  · rw [if_neg e]
    have : (v.slot == t) = false := by simp; exact fun h => e h.symm
    rw [this, Bool.or_false]
theorem rest_all {st : Int → Bool} {vs : List Vc} {t : Int} (h : st t = true → ∃ v, v ∈ vs ∧ v.slot = t) : rest st vs vs.length t = false := by
  unfold rest
  rw [List.take_length]
  cases e : st t with
  | false => rfl
  | true =>
    obtain ⟨v, hv, hs⟩ := h e
    have : (vs.any fun v => v.slot == t) = true := List.any_eq_true.2 ⟨v, hv, by simp [hs]⟩
    rw [this]
    rfl
/-- The slot of the one ahead. -/
def last (vs : List Vc) (i : Nat) : Int := match i with
  | 0 => 0
  | j + 1 => ((vs[j]?).map (·.slot)).getD 0
theorem last_lt {vs : List Vc} {i : Nat} {v : Vc} (hp : vs.Pairwise (fun a b => a.slot < b.slot)) (hv : vs[i]? = some v) (h1 : 1 ≤ v.slot) : last vs i < v.slot := by
  cases i with
  | zero => show (0 : Int) < _; omega
  | succ j =>
    obtain ⟨hi, rfl⟩ := List.getElem?_eq_some_iff.1 hv
    show ((vs[j]?).map (·.slot)).getD 0 < _
    rw [List.getElem?_eq_getElem (by omega)]
    exact List.pairwise_iff_getElem.1 hp j (j + 1) (by omega) hi (by omega)
theorem last_next {vs : List Vc} {i : Nat} {v : Vc} (hv : vs[i]? = some v) : last vs (i + 1) = v.slot := by
  show ((vs[i]?).map (·.slot)).getD 0 = _
  rw [hv]
  rfl
end Go.Proofs.Ytnednminpmiojaa.fm
