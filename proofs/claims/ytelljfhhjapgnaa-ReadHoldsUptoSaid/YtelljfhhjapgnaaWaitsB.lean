/- ReadWaits: a reader, its space and its meter through a round. -/
import Derived.Test.YtelljfhhjapgnaaRdAl
import Derived.Test.YtelljfhhjapgnaaAlOps
import Derived.Test.YtelljfhhjapgnaaElOp11
namespace Go.Proofs.Ytelljfhhjapgnaa
open Go.RowKit
set_option linter.unusedVariables false
set_option linter.unusedSimpArgs false
/-- One reader of one slot. -/
structure WS (S : Sp) (x : Rd) : Prop where
  i : RI x
  h1 : S.H.length = 1
  w2 : S.W.length = 2
  slot : x.f.slot = 0
  c0 : 0 ≤ x.cell
  c1 : x.cell < S.cells.length
section
variable {S : Sp} {x : Rd}
theorem nth_in {α : Type} {l : List α} {i : Int} (h0 : 0 ≤ i) (h1 : i < l.length) : ∃ y, nth l i = some y := by
  unfold nth
  rw [if_pos h0]
  exact ⟨_, List.getElem?_eq_getElem (by omega)⟩
theorem WS.one (h : WS S x) (ho : x.over = false) : ∃ kd p o b, (x.step S).2.2.met = S.met.note kd p o b ∧ ((x.step S).1 = 2 ∧ kd = 2 ∧ S.gate.number % 2 = 1 ∨ (x.step S).1 = 1 ∧ (kd ≠ 2 ∨ S.gate.number % 2 = 0)) := by
  rcases h.i.ways ho with ⟨hn, w, l, hw⟩ | ⟨hn, hw⟩ | ⟨hn, hw⟩ | ⟨hn, hw⟩
  · rw [Rd.step_pub ho hn hw, h.slot]
    have hw01 := h.i.ok.words w (by rw [hw]; simp)
    obtain ⟨y, hy⟩ : ∃ y, wnth S 0 w = some y := by
      unfold wnth
      have := h.h1
      have := h.w2
      rw [if_pos ⟨⟨by decide, by omega⟩, by omega, by omega⟩]
      exact ⟨_, List.getElem?_eq_getElem (by omega)⟩
    refine ⟨4, 2 * 0 + w, 2, true, ?_, .inr ⟨rfl, .inl (by decide)⟩⟩
    unfold Sp.put
    rw [hy]
    rfl
  · rw [Rd.step_load ho hn]
    obtain ⟨y, hy⟩ := nth_in h.c0 h.c1
    refine ⟨1, x.cell, 1, true, ?_, .inr ⟨rfl, .inl (by decide)⟩⟩
    unfold Sp.load
    rw [hy]
    rfl
  · rw [Rd.step_gate ho hn]
    refine ⟨2, 0, 1, true, rfl, ?_⟩
    by_cases e : S.gate.number % 2 = 1
    · exact .inl ⟨if_pos e, rfl, e⟩
    · exact .inr ⟨if_neg e, .inr (by omega)⟩
  · rw [Rd.step_head ho hn, h.slot]
    obtain ⟨y, hy⟩ : ∃ y, nth S.H 0 = some y := nth_in (by decide) (by have := h.h1; omega)
    refine ⟨3, 0, 1, true, ?_, .inr ⟨rfl, .inl (by decide)⟩⟩
    unfold Sp.look
    rw [hy]
    rfl
theorem put_len (S : Sp) (i j x : Int) : (S.put i j x).2.W.length = S.W.length := by unfold Sp.put; split <;> simp
theorem WS.step (h : WS S x) : WS (x.step S).2.2 (x.step S).2.1 := by
  obtain ⟨s1, s2, s3, s4⟩ := h.i.sp S
  obtain ⟨r1, r2, r3, r4⟩ := h.i.same S
  refine ⟨h.i.step S, by rw [s4]; exact h.h1, ?_, r2.trans h.slot, by rw [r1]; exact h.c0, by rw [r1, s3]; exact h.c1⟩
  cases ho : x.over with
  | true => rw [Rd.step_fin ho]; exact h.w2
  | false =>
    rcases h.i.ways ho with ⟨hn, w, l, hw⟩ | ⟨hn, hw⟩ | ⟨hn, hw⟩ | ⟨hn, hw⟩
    · rw [Rd.step_pub ho hn hw]; exact (put_len S _ _ _).trans h.w2
    · rw [Rd.step_load ho hn]
      have : (S.load x.cell).2.W = S.W := by unfold Sp.load; split <;> rfl
      show (S.load x.cell).2.W.length = 2
      rw [this]; exact h.w2
    · rw [Rd.step_gate ho hn]; exact h.w2
    · rw [Rd.step_head ho hn]
      have : (S.look x.f.slot).2.W = S.W := by unfold Sp.look; split <;> rfl
      show (S.look x.f.slot).2.W.length = 2
      rw [this]; exact h.w2
/-- The gate moves, the meter turns. -/
theorem WS.same (h : WS S x) {S' : Sp} (e1 : S'.H = S.H) (e2 : S'.W = S.W) (e3 : S'.cells = S.cells) : WS S' x := ⟨h.i, by rw [e1]; exact h.h1, by rw [e2]; exact h.w2, h.slot, h.c0, by rw [e3]; exact h.c1⟩
theorem take_same (S : Sp) (t : Int) : (S.take t).2.H = S.H ∧ (S.take t).2.W = S.W ∧ (S.take t).2.cells = S.cells := by unfold Sp.take; split; exact ⟨rfl, rfl, rfl⟩; split <;> exact ⟨rfl, rfl, rfl⟩
theorem give_same (S : Sp) (t : Int) : (S.give t).2.H = S.H ∧ (S.give t).2.W = S.W ∧ (S.give t).2.cells = S.cells := by unfold Sp.give; split; exact ⟨rfl, rfl, rfl⟩; split <;> exact ⟨rfl, rfl, rfl⟩
end
end Go.Proofs.Ytelljfhhjapgnaa

namespace Go.Proofs.Ytelljfhhjapgnaa
open Go.RowKit
set_option linter.unusedVariables false
set_option linter.unusedSimpArgs false
/-- A reader; behind its turn; behind its step. -/
def Wt (wb : World) (z : Sb) (b : Nat) (over : Bool) (k : Nat) (wr : World) : Prop := ∃ F G S x, SP wb wr z F S ∧ Fit k S ∧ RD wb wr z F b G x ∧ WS S x ∧ x.over = over
def Wu (wb : World) (z : Sb) (b : Nat) (g : Int) (k : Nat) (wr : World) : Prop := ∃ F G S x, SP wb wr z F S ∧ Fit k S ∧ RD wb wr z F b G x ∧ WS S x ∧ x.over = false ∧ S.met.done = 0 ∧ S.gate.number = g
def Wv (wb : World) (z : Sb) (b : Nat) (kd : Int) (over : Bool) (k : Nat) (wr : World) : Prop := ∃ F G S x, SP wb wr z F S ∧ Fit k S ∧ RD wb wr z F b G x ∧ WS S x ∧ x.over = over ∧ S.met.done = 1 ∧ ∃ l0 s t p o q, S.met.log = l0 ++ [⟨s, t, kd, p, o, q⟩]
section
variable {wb wr w' : World} {z : Sb} {b : Nat} {over : Bool} {g kd : Int} {k : Nat}
theorem Wt.calm (h : Wt wb z b over k wr) (hk : Keeps [] wr w') : Wt wb z b over k w' := by
  obtain ⟨F, G, S, x, h1, h2, h3, h4⟩ := h
  exact ⟨F, G, S, x, h1.calm hk, h2, h3.calm hk, h4⟩
theorem Wu.calm (h : Wu wb z b g k wr) (hk : Keeps [] wr w') : Wu wb z b g k w' := by
  obtain ⟨F, G, S, x, h1, h2, h3, h4⟩ := h
  exact ⟨F, G, S, x, h1.calm hk, h2, h3.calm hk, h4⟩
theorem Wv.calm (h : Wv wb z b kd over k wr) (hk : Keeps [] wr w') : Wv wb z b kd over k w' := by
  obtain ⟨F, G, S, x, h1, h2, h3, h4⟩ := h
  exact ⟨F, G, S, x, h1.calm hk, h2, h3.calm hk, h4⟩
theorem Wt.keep (h : Wt wb z b over k wr) : Keeps [] wb wr := by
  obtain ⟨F, G, S, x, h1, _⟩ := h
  exact h1.keep
theorem Wt.wide (h : Wt wb z b over k wr) {j : Nat} (hj : k ≤ j) : Wt wb z b over j wr := by
  obtain ⟨F, G, S, x, h1, h2, h3, h4⟩ := h
  exact ⟨F, G, S, x, h1, h2.wide hj, h3, h4⟩
theorem Wv.wt (h : Wv wb z b kd over k wr) : Wt wb z b over k wr := by
  obtain ⟨F, G, S, x, h1, h2, h3, h4, h5, _⟩ := h
  exact ⟨F, G, S, x, h1, h2, h3, h4, h5⟩
theorem Wt.done_ (h : Wt wb z b over k wr) : Calls Try.prog 14 #[PT b] wr fun e w' => e = .returned (.bool over) ∧ wr = w' := by
  obtain ⟨F, G, S, x, h1, h2, ⟨⟨wv, ha, _⟩, _, _⟩, h4, h5⟩ := h
  have := rd_done ha
  rw [h5] at this
  exact this
theorem Wt.gate (h : Wt wb z b over k wr) : Calls Try.prog 25 #[PT z.p] wr fun e w' => e = .returned (PT z.q) ∧ wr = w' := by
  obtain ⟨F, G, S, x, h1, _⟩ := h
  exact sp_gate h1
theorem Wu.gate (h : Wu wb z b g k wr) : Calls Try.prog 25 #[PT z.p] wr fun e w' => e = .returned (PT z.q) ∧ wr = w' := by
  obtain ⟨F, G, S, x, h1, _⟩ := h
  exact sp_gate h1
theorem Wt.take (h : Wt wb z b over k wr) (hk : k ≤ 1099511627776) (t : Int) : Calls Try.prog 26 #[PT z.q, .int .i64 t] wr fun e w' => (∃ a c : Int, e = .returned (.tuple #[.int .i64 a, .int .i64 c])) ∧ Wt wb z b over (k + 1) w' := by
  obtain ⟨F, G, S, x, h1, h2, h3, h4, h5⟩ := h
  obtain ⟨e1, e2, e3⟩ := take_same S t
  exact (sp_take h1 h2 hk t).mono fun e w' ⟨he, F', k1, k2, k3⟩ => ⟨⟨_, _, he⟩, F', G, _, x, k1, h2.take t, h3.step k2 k3, h4.same e1 e2 e3, h5⟩
theorem Wt.give (h : Wt wb z b over k wr) (hk : k ≤ 1099511627776) (t : Int) : Calls Try.prog 27 #[PT z.q, .int .i64 t] wr fun e w' => (∃ a : Int, e = .returned (.int .i64 a)) ∧ Wt wb z b over (k + 1) w' := by
  obtain ⟨F, G, S, x, h1, h2, h3, h4, h5⟩ := h
  obtain ⟨e1, e2, e3⟩ := give_same S t
  exact (sp_give h1 h2 hk t).mono fun e w' ⟨he, F', k1, k2, k3⟩ => ⟨⟨_, he⟩, F', G, _, x, k1, h2.give t, h3.step k2 k3, h4.same e1 e2 e3, h5⟩
theorem Wt.turn (h : Wt wb z b false k wr) (t : Int) : Calls Try.prog 28 #[PT z.p, .int .i64 t] wr fun e w' => e = .returned (.tuple #[]) ∧ ∃ g, 0 ≤ g ∧ Wu wb z b g k w' := by
  obtain ⟨F, G, S, x, h1, h2, h3, h4, h5⟩ := h
  exact (sp_turn h1 t).mono fun e w' ⟨he, F', k1, k2, k3⟩ => ⟨he, S.gate.number, h2.g0, F', G, _, x, k1, h2.begin t, h3.step k2 k3, h4.same rfl rfl rfl, h5, rfl, rfl⟩
theorem Wu.now (h : Wu wb z b g k wr) : Calls Try.prog 29 #[PT z.q] wr fun e w' => ∃ o : Int, e = .returned (.agg #[.int .i64 g, .int .i64 o]) ∧ Keeps [] wr w' := by
  obtain ⟨F, G, S, x, h1, h2, h3, h4, h5, h6, rfl⟩ := h
  exact (g_now h1).mono fun e w' ⟨he, hk⟩ => ⟨_, he, hk⟩
theorem Wu.step (h : Wu wb z b g k wr) (hk : k ≤ 1099511627776) : Calls Try.prog 15 #[PT b] wr fun e w' => ∃ (a kd : Int) (over : Bool), e = .returned (.int .i64 a) ∧ (a = 2 ∧ kd = 2 ∧ g % 2 = 1 ∨ a = 1 ∧ (kd ≠ 2 ∨ g % 2 = 0)) ∧ Wv wb z b kd over (k + 1) w' := by
  obtain ⟨F, G, S, x, h1, h2, h3, h4, h5, h6, rfl⟩ := h
  obtain ⟨kd, p, o, q, e1, e2⟩ := h4.one h5
  refine (rd_step h1 h2 hk h3 h4.i).mono fun e w' ⟨he, F', G', k1, k2, _⟩ => ?_
  refine ⟨_, kd, _, he, e2, F', G', _, _, k1, h4.i.fit h2, k2, h4.step, rfl, ?_, S.met.log, S.met.steps, S.met.thread, p, o, q, ?_⟩
  · rw [e1]
    show wrap64 (S.met.done + 1) = 1
    rw [h6]
    unfold wrap64
    decide
  · rw [e1]
    rfl
theorem Wv.meter (h : Wv wb z b kd over k wr) : wr.cell? ⟨z.p, 0, none⟩ = some (PT z.m) := by
  obtain ⟨F, G, S, x, h1, _⟩ := h
  exact h1.cells.1
theorem Wv.mdone (h : Wv wb z b kd over k wr) : Calls Try.prog 31 #[PT z.m] wr fun e w' => e = .returned (.int .i64 1) ∧ wr = w' := by
  obtain ⟨F, G, S, x, h1, h2, h3, h4, h5, h6, _⟩ := h
  have := sp_done h1
  rw [h6] at this
  exact this
theorem logCells_last (l0 : List Acc) (a : Acc) : (logCells (l0 ++ [a]))[l0.length * 6 + 2]? = some (.int .i64 a.kind) := by
  rw [logCells_snoc]
  have hl := logCells_length l0
  rw [List.getElem?_append_right (by omega)]
  have : l0.length * 6 + 2 - (logCells l0).length = 2 := by omega
  rw [this]
  rfl
theorem Wv.log (h : Wv wb z b kd over k wr) (hk : k ≤ 1099511627776) : Calls Try.prog 30 #[PT z.m] wr fun e w' => ∃ g c m : Nat, e = .returned (.slice (some ⟨g, 0, none⟩) (m + 1) c) ∧ m ≤ 1099511627776 ∧ w'.cell? ⟨g, m * 6 + 2, none⟩ = some (.int .i64 kd) ∧ Keeps [] wr w' := by
  obtain ⟨F, G, S, x, h1, h2, h3, h4, h5, h6, l0, s, t, p, o, q, hl⟩ := h
  have hlg := h2.log
  refine (sp_log h1 (by omega)).mono fun e w' ⟨v, he, ho, hkp⟩ => ?_
  have hlen : S.met.log.length = l0.length + 1 := by rw [hl]; simp
  obtain ⟨g, c, rfl, _, _⟩ := World.ownsRow.form ho (by omega)
  refine ⟨g, c, l0.length, by rw [he, hlen], by omega, ?_, hkp⟩
  have hc := World.ownsRow.cells ho (g := g) rfl (l0.length * 6 + 2) (.int .i64 kd) (by rw [hl]; exact logCells_last l0 _)
  have e : (⟨g, 0, none⟩ : Addr).add (l0.length * 6 + 2) = ⟨g, l0.length * 6 + 2, none⟩ := by unfold Addr.add; split <;> simp_all
  rwa [e] at hc
end
end Go.Proofs.Ytelljfhhjapgnaa
