/- Layer 11: a read with nobody else at work, plain. -/
import Derived.Test.YtdhgiohjdhcedaaGreatReadH
import Derived.Test.YtdhgiohjdhcedaaGreatSigTouched
namespace Go.Proofs.YtdhgiohjdhcedaaGreat
open Go.RowKit
set_option linter.unusedVariables false
set_option linter.unusedSimpArgs false
section
variable {x : Rd} {S : Sp}
/-- What holds of a read, whatever others do. -/
structure RI (x : Rd) : Prop where
  ok : x.Ok
  p0 : (0 : Int) ∈ x.words ∨ x.f.sig.a = x.both.a
  p1 : (1 : Int) ∈ x.words ∨ x.f.sig.b = x.both.b
  nil : x.next ≠ 0 → x.words = []
  ov : x.over = true → x.next = 3
theorem RI.full (h : RI x) (hn : x.words = []) : x.f.sig = x.both := by
  have h0 := h.p0
  have h1 := h.p1
  rw [hn] at h0 h1
  simp at h0 h1
  cases hx : x.f.sig
  cases hy : x.both
  rw [hx, hy] at h0 h1
  simp at h0 h1
  rw [h0, h1]
theorem Rd.step_fin (h : x.over = true) : x.step S = (3, x, S) := by unfold Rd.step; rw [if_pos h]
theorem Rd.step_pub (h : x.over = false) (hn : x.next = 0) {w : Int} {l : List Int} (hw : x.words = w :: l) : x.step S = (1, x.publish w l, (S.put x.f.slot w (x.both.wd w : Nat)).2) := by unfold Rd.step; rw [if_neg (by rw [h]; decide)]; simp only [hn, hw]
theorem Rd.step_load (h : x.over = false) (hn : x.next = 1) : x.step S = (1, x.loaded (S.load x.cell).1.1, (S.load x.cell).2) := by unfold Rd.step; rw [if_neg (by rw [h]; decide)]; simp only [hn]
theorem Rd.step_gate (h : x.over = false) (hn : x.next = 2) : x.step S = (if S.gate.number % 2 = 1 then 2 else 1, x.gate S.gate.number, S.glook.2) := by unfold Rd.step; rw [if_neg (by rw [h]; decide)]; simp only [hn]; rfl
theorem Rd.step_head (h : x.over = false) (hn : x.next = 3) : x.step S = (1, x.head (S.look x.f.slot).1.1, (S.look x.f.slot).2) := by unfold Rd.step; rw [if_neg (by rw [h]; decide)]; simp only [hn]
/-- Which way a step goes. -/
theorem RI.ways (h : RI x) (ho : x.over = false) : (x.next = 0 ∧ ∃ w l, x.words = w :: l) ∨ (x.next = 1 ∧ x.words = []) ∨ (x.next = 2 ∧ x.words = []) ∨ (x.next = 3 ∧ x.words = []) := by
  have h3 := h.ok.next
  have h0 := h.ok.pub
  have hn := h.nil
  rcases (by omega : x.next = 0 ∨ x.next = 1 ∨ x.next = 2 ∨ x.next = 3) with e | e | e | e
  · refine .inl ⟨e, ?_⟩
    cases hw : x.words with
    | nil => exact absurd hw (h0 e)
    | cons w l => exact ⟨w, l, rfl⟩
  · exact .inr (.inl ⟨e, hn (by omega)⟩)
  · exact .inr (.inr (.inl ⟨e, hn (by omega)⟩))
  · exact .inr (.inr (.inr ⟨e, hn (by omega)⟩))
theorem RI.publish (h : RI x) (ho : x.over = false) {w : Int} {l : List Int} (hw : x.words = w :: l) : RI (x.publish w l) := by
  have hm := h.ok.words
  have h0 := h.p0
  have h1 := h.p1
  rw [hw] at hm h0 h1
  have hw01 := hm w (by simp)
  refine ⟨⟨Sg.with_ok h.ok.sg _ (Sg.wd_ok h.ok.both _), h.ok.both, ?_, fun v hv => hm v (by simp at hv ⊢; exact .inr hv), ?_, ?_, h.ok.done⟩, ?_, ?_, ?_, fun e => by rw [show (x.publish w l).over = x.over from rfl, ho] at e; cases e⟩
  · show (if l.length = 0 then 1 else 0) ≤ 3
    split <;> omega
  · intro e hl
    have e1 : (if l.length = 0 then 1 else 0) = 0 := e
    have e2 : l = [] := hl
    rw [e2] at e1
    simp at e1
  · have := h.ok.few
    rw [hw] at this
    simp at this
    show l.length ≤ 2
    omega
  · show (0 : Int) ∈ l ∨ (x.f.sig.with_ w (x.both.wd w)).a = x.both.a
    unfold Sg.with_ Sg.wd
    by_cases e : w = 0
    · rw [if_pos e, if_pos e]; exact .inr rfl
    · rw [if_neg e]
      rcases h0 with h0 | h0
      · simp at h0
        rcases h0 with h0 | h0
        · exact absurd h0.symm e
        · exact .inl h0
      · exact .inr h0
  · show (1 : Int) ∈ l ∨ (x.f.sig.with_ w (x.both.wd w)).b = x.both.b
    unfold Sg.with_ Sg.wd
    by_cases e : w = 0
    · rw [if_pos e]
      rcases h1 with h1 | h1
      · simp at h1
        rcases h1 with h1 | h1
        · rw [e] at h1; cases h1
        · exact .inl h1
      · exact .inr h1
    · rw [if_neg e, if_neg e]
      exact .inr rfl
  · intro e
    show l = []
    have e1 : (if l.length = 0 then 1 else 0) ≠ 0 := e
    cases l with
    | nil => rfl
    | cons a t => simp at e1
theorem RI.loaded (h : RI x) (ho : x.over = false) (hn : x.next = 1) (v : Int) : RI (x.loaded v) :=
  ⟨⟨h.ok.sg, h.ok.both, by show 2 ≤ 3; decide, h.ok.words, fun e => absurd (show (2 : Nat) = 0 from e) (by decide), h.ok.few, h.ok.done⟩, h.p0, h.p1, fun _ => h.nil (by omega), fun e => by rw [show (x.loaded v).over = x.over from rfl, ho] at e; cases e⟩
theorem RI.gate (h : RI x) (ho : x.over = false) (hn : x.next = 2) (n : Int) : RI (x.gate n) := by
  unfold Rd.gate
  split
  · exact h
  · split
    · exact ⟨⟨h.ok.sg, h.ok.both, by show 3 ≤ 3; decide, h.ok.words, fun e => absurd (show (3 : Nat) = 0 from e) (by decide), h.ok.few, h.ok.done⟩, h.p0, h.p1, fun _ => h.nil (by omega), fun e => rfl⟩
    · exact ⟨⟨h.ok.sg, h.ok.both, by show 1 ≤ 3; decide, h.ok.words, fun e => absurd (show (1 : Nat) = 0 from e) (by decide), h.ok.few, h.ok.done⟩, h.p0, h.p1, fun _ => h.nil (by omega), fun e => by rw [show x.over = false from ho] at e; cases e⟩
theorem RI.head (h : RI x) (hn : x.next = 3) (y : Hd) : RI (x.head y) := by
  unfold Rd.head
  split
  · exact ⟨⟨h.ok.sg, h.ok.both, h.ok.next, h.ok.words, h.ok.pub, h.ok.few, fun e => by cases e⟩, h.p0, h.p1, h.nil, fun _ => hn⟩
  · exact ⟨⟨h.ok.sg, h.ok.both, h.ok.next, h.ok.words, h.ok.pub, h.ok.few, fun e => by cases e⟩, h.p0, h.p1, h.nil, fun _ => hn⟩
theorem RI.step (h : RI x) (S : Sp) : RI (x.step S).2.1 := by
  cases ho : x.over with
  | true => rw [Rd.step_fin ho]; exact h
  | false =>
    rcases h.ways ho with ⟨hn, w, l, hw⟩ | ⟨hn, hw⟩ | ⟨hn, hw⟩ | ⟨hn, hw⟩
    · rw [Rd.step_pub ho hn hw]; exact h.publish ho hw
    · rw [Rd.step_load ho hn]; exact h.loaded ho hn _
    · rw [Rd.step_gate ho hn]; exact h.gate ho hn _
    · rw [Rd.step_head ho hn]; exact h.head hn _
/-- What a step leaves of the space but words and accesses. -/
theorem RI.sp (h : RI x) (S : Sp) : (x.step S).2.2.c = S.c ∧ (x.step S).2.2.gate = S.gate ∧ (x.step S).2.2.cells = S.cells ∧ (x.step S).2.2.H = S.H := by
  cases ho : x.over with
  | true => rw [Rd.step_fin ho]; exact ⟨rfl, rfl, rfl, rfl⟩
  | false =>
    rcases h.ways ho with ⟨hn, w, l, hw⟩ | ⟨hn, hw⟩ | ⟨hn, hw⟩ | ⟨hn, hw⟩
    · rw [Rd.step_pub ho hn hw]; unfold Sp.put; simp only; split <;> exact ⟨rfl, rfl, rfl, rfl⟩
    · rw [Rd.step_load ho hn]; unfold Sp.load; simp only; split <;> exact ⟨rfl, rfl, rfl, rfl⟩
    · rw [Rd.step_gate ho hn]; exact ⟨rfl, rfl, rfl, rfl⟩
    · rw [Rd.step_head ho hn]; unfold Sp.look; simp only; split <;> exact ⟨rfl, rfl, rfl, rfl⟩
/-- What a step leaves of the read. -/
theorem RI.same (h : RI x) (S : Sp) : (x.step S).2.1.cell = x.cell ∧ (x.step S).2.1.f.slot = x.f.slot ∧ (x.step S).2.1.f.gen = x.f.gen ∧ (x.step S).2.1.both = x.both := by
  cases ho : x.over with
  | true => rw [Rd.step_fin ho]; exact ⟨rfl, rfl, rfl, rfl⟩
  | false =>
    rcases h.ways ho with ⟨hn, w, l, hw⟩ | ⟨hn, hw⟩ | ⟨hn, hw⟩ | ⟨hn, hw⟩
    · rw [Rd.step_pub ho hn hw]; exact ⟨rfl, rfl, rfl, rfl⟩
    · rw [Rd.step_load ho hn]; exact ⟨rfl, rfl, rfl, rfl⟩
    · rw [Rd.step_gate ho hn]; unfold Rd.gate; simp only; split; exact ⟨rfl, rfl, rfl, rfl⟩; split <;> exact ⟨rfl, rfl, rfl, rfl⟩
    · rw [Rd.step_head ho hn]; unfold Rd.head; simp only; split <;> exact ⟨rfl, rfl, rfl, rfl⟩
/-- How many steps are left while the gate stands at g. -/
def Rd.rem (x : Rd) (g : Int) : Nat := if x.over = true then 0 else if x.next = 0 then x.words.length + (if x.f.seen = g then 3 else 5) else if x.next = 1 then (if x.f.seen = g then 3 else 5) else if x.next = 2 then (if x.f.seen = g then 2 else 4) else 1
theorem RI.alone (h : RI x) (ho : x.over = false) (hg : S.gate.number % 2 = 0) : (x.step S).1 = 1 ∧ (x.step S).2.1.rem S.gate.number + 1 = x.rem S.gate.number := by
  rcases h.ways ho with ⟨hn, w, l, hw⟩ | ⟨hn, hw⟩ | ⟨hn, hw⟩ | ⟨hn, hw⟩
  · rw [Rd.step_pub ho hn hw]
    refine ⟨rfl, ?_⟩
    unfold Rd.rem Rd.publish
    simp only [ho, hn, hw]
    cases l <;> simp <;> split <;> omega
  · rw [Rd.step_load ho hn]
    refine ⟨rfl, ?_⟩
    unfold Rd.rem Rd.loaded
    simp only [ho, hn]
    simp
    split <;> omega
  · rw [Rd.step_gate ho hn]
    refine ⟨by simp only; rw [if_neg (by omega)], ?_⟩
    unfold Rd.gate
    simp only
    rw [if_neg (by omega)]
    by_cases e : S.gate.number = x.f.seen
    · rw [if_pos e]
      unfold Rd.rem
      simp [ho, hn, e]
    · rw [if_neg e]
      unfold Rd.rem
      simp [ho, hn]
      exact fun q => e q.symm
  · rw [Rd.step_head ho hn]
    refine ⟨rfl, ?_⟩
    unfold Rd.rem Rd.head
    split <;> simp [ho, hn]
theorem RI.rem_pos (h : RI x) (g : Int) : x.over = (x.rem g == 0) := by
  unfold Rd.rem
  cases ho : x.over with
  | true => simp
  | false =>
    rcases h.ways ho with ⟨hn, w, l, hw⟩ | ⟨hn, hw⟩ | ⟨hn, hw⟩ | ⟨hn, hw⟩
    · simp [hn, hw]
    · simp [hn]; split <;> simp
    · simp [hn]; split <;> simp
    · simp [hn]
/-- What has been loaded. -/
theorem RI.value (h : RI x) {v : Int} (hv : (S.load x.cell).1.1 = v) (hx : 2 ≤ x.next → x.over = false → x.x = v) : 2 ≤ (x.step S).2.1.next → (x.step S).2.1.over = false → (x.step S).2.1.x = v := by
  cases ho : x.over with
  | true => rw [Rd.step_fin ho]; intro _ e; rw [ho] at e; cases e
  | false =>
    rcases h.ways ho with ⟨hn, w, l, hw⟩ | ⟨hn, hw⟩ | ⟨hn, hw⟩ | ⟨hn, hw⟩
    · rw [Rd.step_pub ho hn hw]
      intro e
      have e1 : 2 ≤ (if l.length = 0 then 1 else 0) := e
      split at e1 <;> omega
    · rw [Rd.step_load ho hn]; intro _ _; exact hv
    · rw [Rd.step_gate ho hn]
      have hx' := hx (by omega) ho
      unfold Rd.gate
      simp only
      split
      · intro _ _; exact hx'
      · split
        · intro _ _; exact hx'
        · intro e; exact absurd e (by simp)
    · rw [Rd.step_head ho hn]
      unfold Rd.head
      simp only
      split <;> (intro _ e; cases e)
/-- How it ends. -/
theorem RI.last (h : RI x) (ho : x.over = false) (hs : (x.step S).2.1.over = true) : x.next = 3 ∧ x.step S = (1, x.head (S.look x.f.slot).1.1, (S.look x.f.slot).2) := by
  rcases h.ways ho with ⟨hn, w, l, hw⟩ | ⟨hn, hw⟩ | ⟨hn, hw⟩ | ⟨hn, hw⟩
  · rw [Rd.step_pub ho hn hw] at hs
    have : x.over = true := hs
    rw [ho] at this; cases this
  · rw [Rd.step_load ho hn] at hs
    have : x.over = true := hs
    rw [ho] at this; cases this
  · rw [Rd.step_gate ho hn] at hs
    have : (x.gate S.gate.number).over = true := hs
    have e : (x.gate S.gate.number).over = x.over := by unfold Rd.gate; split; rfl; split <;> rfl
    rw [e, ho] at this; cases this
  · exact ⟨hn, Rd.step_head ho hn⟩
/-- A new one. -/
theorem RI.new (n : Int) (f : Fr) (cell : Int) (hs : f.sig.ok) (ho : (ownSg n cell).ok) : RI (Rd.new n f cell) := by
  have hj : (f.sig.join (ownSg n cell)).ok := ⟨or_lt _ _ hs.1 ho.1, or_lt _ _ hs.2 ho.2⟩
  have z0 := minusN_zero f.sig.a (ownSg n cell).a hs.1 ho.1
  have z1 := minusN_zero f.sig.b (ownSg n cell).b hs.2 ho.2
  refine ⟨⟨hs, hj, ?_, fun w hw => wordsL_mem hw, ?_, wordsL_len _, fun _ => rfl⟩, ?_, ?_, ?_, fun e => by cases e⟩
  · show (if (wordsL ((ownSg n cell).minus f.sig)).length = 0 then 1 else 0) ≤ 3
    split <;> omega
  · intro e hl
    have e1 : (if (wordsL ((ownSg n cell).minus f.sig)).length = 0 then 1 else 0) = 0 := e
    have e2 : wordsL ((ownSg n cell).minus f.sig) = [] := hl
    rw [e2] at e1
    simp at e1
  · show (0 : Int) ∈ wordsL ((ownSg n cell).minus f.sig) ∨ f.sig.a = (f.sig.join (ownSg n cell)).a
    by_cases e : minusN (ownSg n cell).a f.sig.a = 0
    · exact .inr (z0.1 e).symm
    · refine .inl ?_
      unfold wordsL P2 P1 P0 Sg.minus
      simp [e]
  · show (1 : Int) ∈ wordsL ((ownSg n cell).minus f.sig) ∨ f.sig.b = (f.sig.join (ownSg n cell)).b
    by_cases e : minusN (ownSg n cell).b f.sig.b = 0
    · exact .inr (z1.1 e).symm
    · refine .inl ?_
      unfold wordsL P2 P1 P0 Sg.minus
      simp [e]
  · intro e
    show wordsL ((ownSg n cell).minus f.sig) = []
    have e1 : (if (wordsL ((ownSg n cell).minus f.sig)).length = 0 then 1 else 0) ≠ 0 := e
    cases hq : wordsL ((ownSg n cell).minus f.sig) with
    | nil => rfl
    | cons a t => rw [hq] at e1; simp at e1
end
end Go.Proofs.YtdhgiohjdhcedaaGreat

namespace Go.Proofs.YtdhgiohjdhcedaaGreat
open Go.RowKit
set_option linter.unusedVariables false
set_option linter.unusedSimpArgs false
/-- Does an attempt of generation 1 live? -/
def good (h : Hd) : Bool := h.state == 2 && h.gen == 1 && !h.doomed
structure AS (c : Cf) (L : List Int) (h : Hd) (v cell : Int) (both : Sg) (S : Sp) (x : Rd) (R : Nat) : Prop where
  i : RI x
  hc : S.c = c
  g : S.gate.number = 0
  cells : S.cells = L
  H : S.H = [h]
  W : S.W = [(x.f.sig.a : Int), (x.f.sig.b : Int)]
  slot : x.f.slot = 0
  gen : x.f.gen = 1
  ce : x.cell = cell
  bo : x.both = both
  rem : x.rem 0 = R
  val : 2 ≤ x.next → x.over = false → x.x = v
  ld : ((nth L cell).getD 0) = v
  seen : x.next = 3 → x.f.seen = 0
  fin : x.over = true → x.e = (if good h = true then 0 else 7) ∧ x.x = (if good h = true then v else 0)
theorem load_val (S : Sp) (i : Int) : (S.load i).1.1 = (nth S.cells i).getD 0 := by
  unfold Sp.load
  split
  · rename_i x hx; rw [hx]; rfl
  · rename_i hx; rw [hx]; rfl
theorem look_one {S : Sp} {h : Hd} (hH : S.H = [h]) : (S.look 0).1.1 = h := by
  have : nth S.H 0 = some h := by rw [hH]; rfl
  unfold Sp.look
  rw [this]
theorem head_good {x : Rd} {h : Hd} (hg : x.f.gen = 1) : (x.head h).e = (if good h = true then 0 else 7) ∧ (x.head h).x = (if good h = true then x.x else 0) := by
  unfold Rd.head
  rw [hg]
  by_cases hc : h.state ≠ 2 ∨ h.gen ≠ 1 ∨ h.doomed = true
  · rw [if_pos hc]
    have : good h = false := by
      unfold good
      rcases hc with hc | hc | hc
      · simp [hc]
      · simp [hc]
      · simp [hc]
    rw [this]
    exact ⟨rfl, rfl⟩
  · rw [if_neg hc]
    have : good h = true := by
      unfold good
      simp only [not_or, Decidable.not_not] at hc
      obtain ⟨h1, h2, h3⟩ := hc
      simp only [Bool.not_eq_true] at h3
      simp [h1, h2, h3]
    rw [this]
    exact ⟨rfl, rfl⟩
section
variable {c : Cf} {L : List Int} {h : Hd} {v cell : Int} {both : Sg} {S : Sp} {x : Rd} {R : Nat}
theorem AS.over (a : AS c L h v cell both S x R) : x.over = (R == 0) := by rw [a.i.rem_pos 0, a.rem]
theorem AS.put_W (a : AS c L h v cell both S x R) {w : Int} (hw : w = 0 ∨ w = 1) (u : Nat) : (S.put 0 w u).2.W = [((x.f.sig.with_ w u).a : Int), ((x.f.sig.with_ w u).b : Int)] := by
  rcases hw with rfl | rfl
  · have : wnth S 0 0 = some (x.f.sig.a : Int) := by unfold wnth; rw [a.H, a.W]; rfl
    unfold Sp.put
    rw [this]
    simp [a.W, Sg.with_, Sp.acc]
  · have : wnth S 0 1 = some (x.f.sig.b : Int) := by unfold wnth; rw [a.H, a.W]; rfl
    unfold Sp.put
    rw [this]
    simp [a.W, Sg.with_, Sp.acc]
theorem AS.step (a : AS c L h v cell both S x R) (hR : R ≠ 0) : (x.step S).1 = 1 ∧ AS c L h v cell both (x.step S).2.2 (x.step S).2.1 (R - 1) := by
  have ho : x.over = false := by rw [a.over]; simpa using hR
  obtain ⟨e1, e2⟩ := a.i.alone (S := S) ho (by rw [a.g]; rfl)
  rw [a.g] at e2
  obtain ⟨s1, s2, s3, s4⟩ := a.i.sp S
  obtain ⟨r1, r2, r3, r4⟩ := a.i.same S
  have hv : (S.load x.cell).1.1 = v := by rw [load_val, a.cells, a.ce]; exact a.ld
  refine ⟨e1, ⟨a.i.step S, s1.trans a.hc, by rw [s2]; exact a.g, s3.trans a.cells, s4.trans a.H, ?_, r2.trans a.slot, r3.trans a.gen, r1.trans a.ce, r4.trans a.bo, by have := a.rem; omega, a.i.value hv a.val, a.ld, ?_, ?_⟩⟩
  · rcases a.i.ways ho with ⟨hn, w, l, hw⟩ | ⟨hn, hw⟩ | ⟨hn, hw⟩ | ⟨hn, hw⟩
    · rw [Rd.step_pub ho hn hw, a.slot]
      exact a.put_W (a.i.ok.words w (by rw [hw]; simp)) _
    · rw [Rd.step_load ho hn]
      have : (S.load x.cell).2.W = S.W := by unfold Sp.load; split <;> rfl
      exact this.trans a.W
    · rw [Rd.step_gate ho hn]
      have e : (x.gate S.gate.number).f.sig = x.f.sig := by unfold Rd.gate; split; rfl; split <;> rfl
      simp only [e]
      exact a.W
    · rw [Rd.step_head ho hn]
      have e : (x.head (S.look x.f.slot).1.1).f.sig = x.f.sig := by unfold Rd.head; split <;> rfl
      have : (S.look x.f.slot).2.W = S.W := by unfold Sp.look; split <;> rfl
      simp only [e]
      exact this.trans a.W
  · rcases a.i.ways ho with ⟨hn, w, l, hw⟩ | ⟨hn, hw⟩ | ⟨hn, hw⟩ | ⟨hn, hw⟩
    · rw [Rd.step_pub ho hn hw]
      intro e
      have e1 : (if l.length = 0 then 1 else 0) = 3 := e
      split at e1 <;> omega
    · rw [Rd.step_load ho hn]; intro e; exact absurd (show (2 : Nat) = 3 from e) (by decide)
    · rw [Rd.step_gate ho hn, a.g]
      show (x.gate 0).next = 3 → (x.gate 0).f.seen = 0
      have hg : x.gate 0 = if (0 : Int) = x.f.seen then { x with next := 3 } else { x with f := { x.f with seen := 0 }, next := 1 } := by unfold Rd.gate; rw [if_neg (by decide)]
      rw [hg]
      split
      · rename_i e; intro _; exact e.symm
      · intro e; exact absurd (show (1 : Nat) = 3 from e) (by decide)
    · rw [Rd.step_head ho hn]
      intro _
      have : (x.head (S.look x.f.slot).1.1).f.seen = x.f.seen := by unfold Rd.head; split <;> rfl
      exact this.trans (a.seen hn)
  · intro hs
    obtain ⟨hn, e⟩ := a.i.last ho hs
    rw [e, a.slot, look_one a.H]
    obtain ⟨q1, q2⟩ := head_good (x := x) (h := h) a.gen
    refine ⟨q1, q2.trans ?_⟩
    rw [a.val (by omega) ho]
theorem AS.ended (a : AS c L h v cell both S x 0) : x.over = true ∧ x.e = (if good h = true then 0 else 7) ∧ (if x.e = 0 then x.x else 0) = (if good h = true then v else 0) ∧ x.f = ⟨0, 1, 0, both⟩ := by
  have ho : x.over = true := by rw [a.over]; rfl
  obtain ⟨e1, e2⟩ := a.fin ho
  refine ⟨ho, e1, ?_, ?_⟩
  · rw [e1, e2]
    cases good h <;> simp
  · have hn := a.i.ov ho
    have hs := a.i.full (a.i.nil (by omega))
    have h1 := a.slot
    have h2 := a.gen
    have h3 := a.seen hn
    have h4 := a.bo
    cases hf : x.f
    rw [hf] at h1 h2 h3 hs
    simp only at h1 h2 h3 hs
    rw [h1, h2, h3, hs, h4]
/-- Another head. -/
theorem AS.headed (a : AS c L h v cell both S x R) (hR : R ≠ 0) {S' : Sp} {h' : Hd} (e1 : S'.c = S.c) (e2 : S'.gate = S.gate) (e3 : S'.cells = S.cells) (e4 : S'.H = [h']) (e5 : S'.W = S.W) : AS c L h' v cell both S' x R := by
  have ho : x.over = false := by rw [a.over]; simpa using hR
  exact ⟨a.i, e1.trans a.hc, by rw [e2]; exact a.g, e3.trans a.cells, e4, e5.trans a.W, a.slot, a.gen, a.ce, a.bo, a.rem, a.val, a.ld, a.seen, fun e => by rw [ho] at e; cases e⟩
/-- As it begins. -/
theorem AS.new {f : Fr} {own : Sg} (hown : ownSg c.bits cell = own) (hc : S.c = c) (hg : S.gate.number = 0) (hL : S.cells = L) (hH : S.H = [h]) (hW : S.W = [(f.sig.a : Int), (f.sig.b : Int)]) (h1 : f.slot = 0) (h2 : f.gen = 1) (hs : f.sig.ok) (ho : own.ok) (hv : (nth L cell).getD 0 = v) :
    AS c L h v cell (f.sig.join own) S (Rd.new S.c.bits f cell) ((wordsL (own.minus f.sig)).length + (if f.seen = 0 then 3 else 5)) := by
  subst hown
  have hi := RI.new S.c.bits f cell hs (by rw [hc]; exact ho)
  rw [hc] at hi ⊢
  refine ⟨hi, hc, hg, hL, hH, hW, h1, h2, rfl, rfl, ?_, ?_, hv, ?_, fun e => by cases e⟩
  · unfold Rd.rem Rd.new
    simp only
    cases wordsL ((ownSg c.bits cell).minus f.sig) <;> simp
  · intro e
    have e1 : 2 ≤ (if (wordsL ((ownSg c.bits cell).minus f.sig)).length = 0 then 1 else 0) := e
    split at e1 <;> omega
  · intro e
    have e1 : (if (wordsL ((ownSg c.bits cell).minus f.sig)).length = 0 then 1 else 0) = 3 := e
    split at e1 <;> omega
theorem RI.fit {k : Nat} (hi : RI x) (hf : Fit k S) : Fit (k + 1) (x.step S).2.2 := by
  cases ho : x.over with
  | true => rw [Rd.step_fin ho]; exact hf.succ
  | false =>
    rcases hi.ways ho with ⟨hn, w, l, hw⟩ | ⟨hn, hw⟩ | ⟨hn, hw⟩ | ⟨hn, hw⟩
    · rw [Rd.step_pub ho hn hw]; exact hf.put _ _ _
    · rw [Rd.step_load ho hn]; exact hf.load _
    · rw [Rd.step_gate ho hn]; exact hf.glook
    · rw [Rd.step_head ho hn]; exact hf.look _
end
end Go.Proofs.YtdhgiohjdhcedaaGreat
