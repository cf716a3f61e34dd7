/- ReadPublishes: which bits are published. Plain Lean. -/
import Derived.Test.YtelljfhhjapgnaaWaitsP
namespace Go.Proofs.Ytelljfhhjapgnaa
open Go.RowKit
set_option linter.unusedVariables false
set_option linter.unusedSimpArgs false
/-- Has b all bits of a? -/
def Sub (a b : Sg) : Prop := b.a ||| a.a = b.a ∧ b.b ||| a.b = b.b
theorem orsub_trans {a b c : Nat} (h1 : b ||| a = b) (h2 : c ||| b = c) : c ||| a = c := by
  rw [← h2, Nat.or_assoc, h1]
theorem orsub_mono {s t : Nat} (p : Nat) (h : t ||| s = t) : (t ||| p) ||| (s ||| p) = t ||| p := by
  rw [show (t ||| p) ||| (s ||| p) = (t ||| s) ||| (p ||| p) by ac_rfl, h, Nat.or_self]
theorem orsub_left (s p : Nat) : (s ||| p) ||| s = s ||| p := by
  rw [show (s ||| p) ||| s = (s ||| s) ||| p by ac_rfl, Nat.or_self]
theorem Sub.refl (a : Sg) : Sub a a := ⟨Nat.or_self _, Nat.or_self _⟩
theorem Sub.trans {a b c : Sg} (h1 : Sub a b) (h2 : Sub b c) : Sub a c := ⟨orsub_trans h1.1 h2.1, orsub_trans h1.2 h2.2⟩
theorem Sub.zero (a : Sg) : Sub ⟨0, 0⟩ a := ⟨Nat.or_zero _, Nat.or_zero _⟩
theorem Sub.left (a b : Sg) : Sub a (a.join b) := ⟨orsub_left _ _, orsub_left _ _⟩
theorem Sub.right (a b : Sg) : Sub b (a.join b) := by
  refine ⟨?_, ?_⟩
  · show (a.a ||| b.a) ||| b.a = a.a ||| b.a
    rw [Nat.or_assoc, Nat.or_self]
  · show (a.b ||| b.b) ||| b.b = a.b ||| b.b
    rw [Nat.or_assoc, Nat.or_self]
theorem Sub.join {a b c : Sg} (h1 : Sub a c) (h2 : Sub b c) : Sub (a.join b) c := by
  refine ⟨?_, ?_⟩
  · show c.a ||| (a.a ||| b.a) = c.a
    rw [← Nat.or_assoc, h1.1, h2.1]
  · show c.b ||| (a.b ||| b.b) = c.b
    rw [← Nat.or_assoc, h1.2, h2.2]
theorem Sub.none {a b : Sg} (ha : a.ok) (hb : b.ok) (h : Sub a b) : (a.minus b).none = true := by
  have h1 := (minusN_zero b.a a.a hb.1 ha.1).2 h.1
  have h2 := (minusN_zero b.b a.b hb.2 ha.2).2 h.2
  unfold Sg.none Sg.minus
  simp only [h1, h2]
  decide
theorem Sub.set (s : Sg) (k : Nat) : Sub s (s.set k) := by
  unfold Sg.set
  split
  · exact ⟨orsub_left _ _, Nat.or_self _⟩
  · exact ⟨Nat.or_self _, orsub_left _ _⟩
theorem Sub.sets {s t : Sg} (h : Sub s t) (k : Nat) : Sub (s.set k) (t.set k) := by
  unfold Sg.set
  split
  · exact ⟨orsub_mono _ h.1, h.2⟩
  · exact ⟨h.1, orsub_mono _ h.2⟩
theorem Sub.of (n : Int) (B : List Int) (c : Int) : Sub (ofL n B) (ofL n (B ++ [c])) := by
  rw [ofL_snoc]
  exact (Sub.set _ _).trans (Sub.set _ _)
theorem Sub.own (n : Int) (B : List Int) (c : Int) : Sub (ownSg n c) (ofL n (B ++ [c])) := by
  rw [ofL_snoc]
  exact ((Sub.zero (ofL n B)).sets _).sets _
/-- A reader of one slot that has begun B. -/
structure PS (n : Int) (B : List Int) (S : Sp) (x : Rd) : Prop where
  i : RI x
  H : ∃ h, S.H = [h]
  W : S.W = [(x.f.sig.a : Int), (x.f.sig.b : Int)]
  slot : x.f.slot = 0
  c0 : 0 ≤ x.cell
  c1 : x.cell < S.cells.length
  own : Sub (ownSg n x.cell) x.both
  all : Sub x.both (ofL n B)
  pub : Sub x.f.sig (ofL n B)
section
variable {n : Int} {B : List Int} {S : Sp} {x : Rd}
theorem PS.put_W (a : PS n B S x) {w : Int} (hw : w = 0 ∨ w = 1) (u : Nat) : (S.put 0 w u).2.W = [((x.f.sig.with_ w u).a : Int), ((x.f.sig.with_ w u).b : Int)] := by
  obtain ⟨h, hH⟩ := a.H
  rcases hw with rfl | rfl
  · have : wnth S 0 0 = some (x.f.sig.a : Int) := by unfold wnth; rw [hH, a.W]; rfl
    unfold Sp.put
    rw [this]
    simp [a.W, Sg.with_, Sp.acc]
  · have : wnth S 0 1 = some (x.f.sig.b : Int) := by unfold wnth; rw [hH, a.W]; rfl
    unfold Sp.put
    rw [this]
    simp [a.W, Sg.with_, Sp.acc]
theorem with_sub {s b : Sg} {t : Sg} (h1 : Sub s t) (h2 : Sub b t) (w : Int) : Sub (s.with_ w (b.wd w)) t := by
  unfold Sg.with_ Sg.wd
  split
  · exact ⟨h2.1, h1.2⟩
  · exact ⟨h1.1, h2.2⟩
theorem PS.ws (a : PS n B S x) : WS S x := by
  obtain ⟨h, hH⟩ := a.H
  exact ⟨a.i, by rw [hH]; rfl, by rw [a.W]; rfl, a.slot, a.c0, a.c1⟩
theorem PS.step (a : PS n B S x) : PS n B (x.step S).2.2 (x.step S).2.1 := by
  obtain ⟨s1, s2, s3, s4⟩ := a.i.sp S
  obtain ⟨r1, r2, r3, r4⟩ := a.i.same S
  have key : (x.step S).2.2.W = [((x.step S).2.1.f.sig.a : Int), ((x.step S).2.1.f.sig.b : Int)] ∧ Sub (x.step S).2.1.f.sig (ofL n B) := by
    cases ho : x.over with
    | true => rw [Rd.step_fin ho]; exact ⟨a.W, a.pub⟩
    | false =>
      rcases a.i.ways ho with ⟨hn, w, l, hw⟩ | ⟨hn, hw⟩ | ⟨hn, hw⟩ | ⟨hn, hw⟩
      · rw [Rd.step_pub ho hn hw, a.slot]
        exact ⟨a.put_W (a.i.ok.words w (by rw [hw]; simp)) _, with_sub a.pub a.all _⟩
      · rw [Rd.step_load ho hn]
        have : (S.load x.cell).2.W = S.W := by unfold Sp.load; split <;> rfl
        exact ⟨this.trans a.W, a.pub⟩
      · rw [Rd.step_gate ho hn]
        have e : (x.gate S.gate.number).f.sig = x.f.sig := by unfold Rd.gate; split; rfl; split <;> rfl
        simp only [e]
        exact ⟨a.W, a.pub⟩
      · rw [Rd.step_head ho hn]
        have e : (x.head (S.look x.f.slot).1.1).f.sig = x.f.sig := by unfold Rd.head; split <;> rfl
        have : (S.look x.f.slot).2.W = S.W := by unfold Sp.look; split <;> rfl
        simp only [e]
        exact ⟨this.trans a.W, a.pub⟩
  exact ⟨a.i.step S, by rw [s4]; exact a.H, key.1, r2.trans a.slot, by rw [r1]; exact a.c0, by rw [r1, s3]; exact a.c1, by rw [r1, r4]; exact a.own, by rw [r4]; exact a.all, key.2⟩
/-- One access; a load's own bits are published. -/
theorem PS.one (a : PS n B S x) (ho : x.over = false) : ∃ kd p o b, (x.step S).2.2.met = S.met.note kd p o b ∧ (kd = 1 → Sub (ownSg n x.cell) (x.step S).2.1.f.sig) := by
  obtain ⟨kd, p, o, b, h1, _⟩ := a.ws.one ho
  refine ⟨kd, p, o, b, h1, fun hk => ?_⟩
  subst hk
  rcases a.i.ways ho with ⟨hn, w, l, hw⟩ | ⟨hn, hw⟩ | ⟨hn, hw⟩ | ⟨hn, hw⟩
  · exfalso
    rw [Rd.step_pub ho hn hw, a.slot] at h1
    have hw01 := a.i.ok.words w (by rw [hw]; simp)
    obtain ⟨h, hH⟩ := a.H
    obtain ⟨y, hy⟩ : ∃ y, wnth S 0 w = some y := by
      rcases hw01 with rfl | rfl
      · exact ⟨x.f.sig.a, by unfold wnth; rw [hH, a.W]; rfl⟩
      · exact ⟨x.f.sig.b, by unfold wnth; rw [hH, a.W]; rfl⟩
    have h2 : (S.put 0 w (x.both.wd w : Nat)).2.met = S.met.note 4 (2 * 0 + w) 2 true := by unfold Sp.put; rw [hy]; rfl
    have h3 := h2.symm.trans h1
    have h4 := congrArg MS.log h3
    unfold MS.note at h4
    simp at h4
  · rw [Rd.step_load ho hn]
    show Sub _ x.f.sig
    rw [a.i.full hw]
    exact a.own
  · exfalso
    rw [Rd.step_gate ho hn] at h1
    have h2 : S.glook.2.met = S.met.note 2 0 1 true := rfl
    have h3 := h2.symm.trans h1
    have h4 := congrArg MS.log h3
    unfold MS.note at h4
    simp at h4
  · exfalso
    rw [Rd.step_head ho hn, a.slot] at h1
    obtain ⟨h, hH⟩ := a.H
    have hy : nth S.H 0 = some h := by rw [hH]; rfl
    have h2 : (S.look 0).2.met = S.met.note 3 0 1 true := by unfold Sp.look; rw [hy]; rfl
    have h3 := h2.symm.trans h1
    have h4 := congrArg MS.log h3
    unfold MS.note at h4
    simp at h4
/-- The gate moves, the meter turns. -/
theorem PS.same (h : PS n B S x) {S' : Sp} (e1 : S'.H = S.H) (e2 : S'.W = S.W) (e3 : S'.cells = S.cells) : PS n B S' x := ⟨h.i, by rw [e1]; exact h.H, e2.trans h.W, h.slot, h.c0, by rw [e3]; exact h.c1, h.own, h.all, h.pub⟩
/-- As it begins. -/
theorem PS.new {f : Fr} {cell : Int} (hH : ∃ h, S.H = [h]) (hW : S.W = [(f.sig.a : Int), (f.sig.b : Int)]) (hf : f.slot = 0) (hs : f.sig.ok) (ho : (ownSg n cell).ok) (c0 : 0 ≤ cell) (c1 : cell < S.cells.length) (hb : Sub f.sig (ofL n B)) : PS n (B ++ [cell]) S (Rd.new n f cell) :=
  ⟨RI.new n f cell hs ho, hH, hW, hf, c0, c1, Sub.right _ _, (hb.trans (Sub.of n B cell)).join (Sub.own n B cell), hb.trans (Sub.of n B cell)⟩
end
end Go.Proofs.Ytelljfhhjapgnaa
