/- Layer 13, plain: a commit with nobody else at work. No program in sight. -/
import Derived.Test.YtcoekpomiljofaaGreatLkAt
import Derived.Test.YtcoekpomiljofaaGreatSlotsRaw
import Derived.Test.YtcoekpomiljofaaGreatCmAt
namespace Go.Proofs.YtcoekpomiljofaaGreat.fd
open Go.RowKit
set_option linter.unusedVariables false
set_option linter.unusedSimpArgs false
def hd (H : List Hd) (t : Int) : Hd := (H[t.toNat]?).getD Hd.zero
def wd (W : List Int) (t : Int) (j : Nat) : Int := (W[2 * t.toNat + j]?).getD 0
def live (h : Hd) : Bool := h.state == 2 && !h.doomed
def mt (W : List Int) (s : Sg) (t : Int) : Bool := !((sgOf [wd W t 0, wd W t 1]).meet s).none
def vic (H : List Hd) (t : Int) : Vc := ⟨t, (hd H t).gen, (hd H t).stamp, (hd H t).thread⟩
def cost (H : List Hd) (t : Int) : Nat := if live (hd H t) then 3 else 1
def fut (H : List Hd) (W : List Int) (s : Sg) (t : Int) : List Vc := if live (hd H t) && mt W s t then [vic H t] else []
def costs (H : List Hd) : List Int → Nat
  | [] => 0
  | t :: l => cost H t + costs H l
def futs (H : List Hd) (W : List Int) (s : Sg) (l : List Int) : List Vc := l.flatMap (fut H W s)
theorem costs_app (H : List Hd) (a b : List Int) : costs H (a ++ b) = costs H a + costs H b := by
  induction a with
  | nil => simp [costs]
  | cons x l ih => simp [costs, ih]; omega
theorem costs_le (H : List Hd) (l : List Int) : costs H l ≤ 3 * l.length := by
  induction l with
  | nil => simp [costs]
  | cons x l ih => simp only [costs, cost, List.length_cons]; split <;> omega
theorem costs_zero {H : List Hd} {l : List Int} (h : costs H l = 0) : l = [] := by
  cases l with
  | nil => rfl
  | cons x l => simp only [costs, cost] at h; split at h <;> omega
/-- Where a look stands: so many steps are left, and these will be its victims. -/
structure Rel (H : List Hd) (W : List Int) (s : Sg) (want : List Vc) (x : Lk) (S : Sp) (c : Nat) : Prop where
  hH : S.H = H
  hW : S.W = W
  sg : x.writes = s
  rng : ∀ t, t ∈ x.turns → 0 ≤ t ∧ t < 8
  st : (x.looked = false ∧ x.words = [] ∧ c = costs H x.turns ∧ want = x.victims ++ futs H W s x.turns) ∨
    (∃ t tl, x.turns = t :: tl ∧ x.looked = true ∧ x.head = hd H t ∧ live (hd H t) = true ∧ x.words = [] ∧ c = 2 + costs H tl ∧ want = x.victims ++ (if mt W s t then [vic H t] else []) ++ futs H W s tl) ∨
    (∃ t tl, x.turns = t :: tl ∧ x.looked = true ∧ x.head = hd H t ∧ live (hd H t) = true ∧ x.words = [wd W t 0] ∧ c = 1 + costs H tl ∧ want = x.victims ++ (if mt W s t then [vic H t] else []) ++ futs H W s tl)
theorem Rel.new {H : List Hd} {W : List Int} {S : Sp} (hH : S.H = H) (hW : S.W = W) (slot : Int) (s : Sg) : Rel H W s (futs H W s (turnsTo slot 8)) (Lk.new 8 slot s) S (costs H (turnsTo slot 8)) :=
  ⟨hH, hW, rfl, fun t ht => by have := turnsTo_rng slot 8 t ht; omega, .inl ⟨rfl, rfl, rfl, by simp [Lk.new]⟩⟩
theorem Rel.fin {H : List Hd} {W : List Int} {s : Sg} {want : List Vc} {x : Lk} {S : Sp} (h : Rel H W s want x S 0) : x.turns = [] ∧ x.victims = want := by
  rcases h.st with ⟨_, _, h3, h4⟩ | ⟨t, tl, _, _, _, _, _, h3, _⟩ | ⟨t, tl, _, _, _, _, _, h3, _⟩
  · have := costs_zero h3.symm
    rw [this] at h4
    exact ⟨this, by simpa [futs] using h4.symm⟩
  · omega
  · omega
theorem look_at {S : Sp} {H : List Hd} (hH : S.H = H) (hl : H.length = 8) {t : Int} (h0 : 0 ≤ t) (h8 : t < 8) : (S.look t).1.1 = hd H t ∧ (S.look t).2.H = H ∧ (S.look t).2.W = S.W := by
  have hx : nth S.H t = some (hd H t) := by
    unfold nth
    rw [if_pos h0, hH]
    unfold hd
    rw [List.getElem?_eq_getElem (by omega)]
    rfl
  unfold Sp.look
  rw [hx]
  exact ⟨rfl, hH, rfl⟩
theorem word_at {S : Sp} {H : List Hd} {W : List Int} (hH : S.H = H) (hW : S.W = W) (hl : H.length = 8) (hw : W.length = 16) {t : Int} (h0 : 0 ≤ t) (h8 : t < 8) (j : Nat) (hj : j < 2) : (S.word t j).1.1 = wd W t j ∧ (S.word t j).2.H = H ∧ (S.word t j).2.W = W := by
  have hx : wnth S t j = some (wd W t j) := by
    unfold wnth
    rw [if_pos ⟨⟨h0, by rw [hH]; omega⟩, by omega, by omega⟩, hW]
    unfold wd
    rw [Int.toNat_natCast, List.getElem?_eq_getElem (by omega)]
    rfl
  unfold Sp.word
  rw [hx]
  exact ⟨rfl, hH, hW⟩
theorem Rel.step {H : List Hd} {W : List Int} {s : Sg} {want : List Vc} {x : Lk} {S : Sp} {c : Nat} (hl : H.length = 8) (hw : W.length = 16) (h : Rel H W s want x S (c + 1)) :
    x.turns.isEmpty = false ∧ (x.step S).1 = 1 ∧ Rel H W s want (x.step S).2.1 (x.step S).2.2 c := by
  obtain ⟨hH, hW, hs, hr, hst⟩ := h
  obtain ⟨own, wr, turns, head, words, looked, victims⟩ := x
  simp only at hs hr hst
  subst hs
  rcases hst with ⟨rfl, rfl, h3, h4⟩ | ⟨t, tl, rfl, rfl, rfl, hv, rfl, h3, h4⟩ | ⟨t, tl, rfl, rfl, rfl, hv, rfl, h3, h4⟩
  · cases turns with
    | nil => simp [costs] at h3
    | cons t tl =>
      obtain ⟨t0, t8⟩ := hr t (by simp)
      obtain ⟨l1, l2, l3⟩ := look_at hH hl t0 t8
      refine ⟨rfl, by simp [Lk.step], ?_⟩
      have e : Lk.step ⟨own, wr, t :: tl, head, [], false, victims⟩ S = (1, if (S.look t).1.1.state ≠ 2 ∨ (S.look t).1.1.doomed = true then (Lk.at_ ⟨own, wr, t :: tl, head, [], false, victims⟩ (S.look t).1.1).turn else Lk.at_ ⟨own, wr, t :: tl, head, [], false, victims⟩ (S.look t).1.1, (S.look t).2) := by simp [Lk.step]
      rw [e]
      simp only [l1]
      simp only [costs] at h3
      by_cases hv : live (hd H t) = true
      · have hn : ¬ ((hd H t).state ≠ 2 ∨ (hd H t).doomed = true) := by simp [live] at hv; simp [hv]
        rw [if_neg hn]
        refine ⟨l2, l3.trans hW, rfl, hr, .inr (.inl ⟨t, tl, rfl, rfl, rfl, hv, rfl, ?_, ?_⟩)⟩
        · simp [cost, hv] at h3; omega
        · rw [h4]
          simp [futs, fut, hv, Lk.at_]
      · have hn : (hd H t).state ≠ 2 ∨ (hd H t).doomed = true := by
          simp [live] at hv
          by_cases e2 : (hd H t).state = 2
          · exact .inr (hv e2)
          · exact .inl e2
        rw [if_pos hn]
        refine ⟨l2, l3.trans hW, rfl, fun q hq => hr q (by simp only [Lk.turn, Lk.at_, List.tail_cons] at hq; simp [hq]), .inl ⟨rfl, rfl, ?_, ?_⟩⟩
        · simp [cost, hv] at h3; simp [Lk.turn, Lk.at_]; omega
        · rw [h4]
          simp [futs, fut, hv, Lk.at_, Lk.turn]
  · obtain ⟨t0, t8⟩ := hr t (by simp)
    obtain ⟨l1, l2, l3⟩ := word_at hH hW hl hw t0 t8 0 (by decide)
    refine ⟨rfl, by simp [Lk.step], ?_⟩
    have e : Lk.step ⟨own, wr, t :: tl, hd H t, [], true, victims⟩ S = (1, Lk.word ⟨own, wr, t :: tl, hd H t, [], true, victims⟩ (S.word t (0 : Nat)).1.1, (S.word t (0 : Nat)).2) := by simp [Lk.step]
    rw [e]
    simp only [l1]
    refine ⟨l2, l3, rfl, hr, .inr (.inr ⟨t, tl, rfl, rfl, rfl, hv, rfl, by omega, h4⟩)⟩
  · obtain ⟨t0, t8⟩ := hr t (by simp)
    obtain ⟨l1, l2, l3⟩ := word_at hH hW hl hw t0 t8 1 (by decide)
    refine ⟨rfl, by simp [Lk.step], ?_⟩
    have e : Lk.step ⟨own, wr, t :: tl, hd H t, [wd W t 0], true, victims⟩ S = (1, if (Lk.word ⟨own, wr, t :: tl, hd H t, [wd W t 0], true, victims⟩ (S.word t (1 : Nat)).1.1).met = true then ((Lk.word ⟨own, wr, t :: tl, hd H t, [wd W t 0], true, victims⟩ (S.word t (1 : Nat)).1.1).meets t).turn else (Lk.word ⟨own, wr, t :: tl, hd H t, [wd W t 0], true, victims⟩ (S.word t (1 : Nat)).1.1).turn, (S.word t (1 : Nat)).2) := by simp [Lk.step]
    rw [e]
    simp only [l1]
    have em : (Lk.word ⟨own, wr, t :: tl, hd H t, [wd W t 0], true, victims⟩ (wd W t 1)).met = mt W wr t := rfl
    rw [em]
    have hr' : ∀ q, q ∈ tl → 0 ≤ q ∧ q < 8 := fun q hq => hr q (by simp [hq])
    cases hm : mt W wr t
    · rw [if_neg (by simp)]
      refine ⟨l2, l3, rfl, hr', .inl ⟨rfl, rfl, ?_, ?_⟩⟩
      · show _ = costs H tl; omega
      · rw [h4, hm]; simp [Lk.turn, Lk.word]
    · rw [if_pos rfl]
      refine ⟨l2, l3, rfl, hr', .inl ⟨rfl, rfl, ?_, ?_⟩⟩
      · show _ = costs H tl; omega
      · rw [h4, hm]; simp [Lk.turn, Lk.word, Lk.meets, vic]
/-- All victims live, are not doomed, each in a slot of its own. -/
theorem futs_ok (H : List Hd) (W : List Int) (s : Sg) (l : List Int) (hn : l.Pairwise (· < ·)) (hr : ∀ t, t ∈ l → 0 ≤ t ∧ t < 8) : (futs H W s l).Pairwise (fun a b => a.slot < b.slot) ∧ ∀ v, v ∈ futs H W s l → (v.slot ∈ l ∧ v = vic H v.slot ∧ live (hd H v.slot) = true) := by
  induction l with
  | nil => exact ⟨List.Pairwise.nil, fun v hv => by simp [futs] at hv⟩
  | cons t l ih =>
    have hn' := List.pairwise_cons.1 hn
    obtain ⟨h1, h2⟩ := ih hn'.2 (fun q hq => hr q (by simp [hq]))
    have e : futs H W s (t :: l) = fut H W s t ++ futs H W s l := rfl
    rw [e]
    have hf : ∀ v, v ∈ fut H W s t → v = vic H t ∧ live (hd H t) = true := fun v hv => by
      unfold fut at hv
      split at hv
      · rename_i hc; simp at hv hc; exact ⟨hv, hc.1⟩
      · simp at hv
    refine ⟨List.pairwise_append.2 ⟨?_, h1, fun a ha b hb => ?_⟩, fun v hv => ?_⟩
    · unfold fut; split <;> simp
    · obtain ⟨rfl, _⟩ := hf a ha
      exact hn'.1 _ (h2 b hb).1
    · rw [List.mem_append] at hv
      rcases hv with hv | hv
      · obtain ⟨rfl, h3⟩ := hf v hv
        exact ⟨by simp [vic], rfl, h3⟩
      · obtain ⟨h3, h4⟩ := h2 v hv
        exact ⟨by simp [h3], h4⟩
theorem turnsTo_pair (slot : Int) : ∀ k, (turnsTo slot k).Pairwise (· < ·)
  | 0 => List.Pairwise.nil
  | k + 1 => by
    unfold turnsTo
    split
    · exact turnsTo_pair slot k
    · refine List.pairwise_append.2 ⟨turnsTo_pair slot k, by simp, fun a ha b hb => ?_⟩
      have := turnsTo_rng slot k a ha
      simp at hb
      omega
end Go.Proofs.YtcoekpomiljofaaGreat.fd
namespace Go.Proofs.YtcoekpomiljofaaGreat.fd
open Go.RowKit
/-- What a dooming goes over: those that live still, each in a slot of its own. -/
structure DInv (S : Sp) (l : List Vc) : Prop where
  len : S.H.length = 8
  pair : l.Pairwise (fun a b => a.slot < b.slot)
  each : ∀ v, v ∈ l → (0 ≤ v.slot ∧ v.slot < 8) ∧ live (hd S.H v.slot) = true ∧ (hd S.H v.slot).gen = v.gen
def dmd (h : Hd) : Hd := ⟨h.gen, h.state, h.stamp, h.thread, true, 7⟩
theorem DInv.step {S : Sp} {v : Vc} {l : List Vc} (h : DInv S (v :: l)) : (S.doom v.slot v.gen 7).1 = 0 ∧ (S.doom v.slot v.gen 7).2.H = S.H.set v.slot.toNat (dmd (hd S.H v.slot)) ∧ (S.doom v.slot v.gen 7).2.W = S.W ∧ DInv (S.doom v.slot v.gen 7).2 l := by
  obtain ⟨hl, hp, he⟩ := h
  obtain ⟨⟨v0, v8⟩, v1, v2⟩ := he v (by simp)
  have hp' := List.pairwise_cons.1 hp
  have hx : nth S.H v.slot = some (hd S.H v.slot) := by
    unfold nth
    rw [if_pos v0]
    unfold hd
    rw [List.getElem?_eq_getElem (by omega)]
    rfl
  simp only [live, Bool.and_eq_true, beq_iff_eq, Bool.not_eq_true'] at v1
  have e : S.doom v.slot v.gen 7 = (0, { S.acc 3 v.slot 3 true with H := S.H.set v.slot.toNat (dmd (hd S.H v.slot)) }) := by
    unfold Sp.doom
    rw [if_neg (by omega), hx]
    simp only
    rw [if_pos ⟨v1.1, v2⟩]
    have e2 : (hd S.H v.slot).doom 7 = dmd (hd S.H v.slot) := by unfold Hd.doom; rw [v1.2]; rfl
    rw [e2]
  rw [e]
  refine ⟨rfl, rfl, rfl, ⟨by simpa [Sp.acc] using hl, hp'.2, fun u hu => ?_⟩⟩
  obtain ⟨u1, u2⟩ := he u (by simp [hu])
  have hne := hp'.1 u hu
  have eq : hd (S.H.set v.slot.toNat (dmd (hd S.H v.slot))) u.slot = hd S.H u.slot := by
    unfold hd
    rw [List.getElem?_set_ne (by omega)]
  refine ⟨u1, ?_⟩
  show live (hd (S.H.set _ _) u.slot) = true ∧ (hd (S.H.set _ _) u.slot).gen = u.gen
  rw [eq]
  exact u2
theorem DInv.of {H : List Hd} {W : List Int} {s : Sg} {slot : Int} {S : Sp} (hl : S.H.length = 8) (hH : S.H = H) : DInv S (futs H W s (turnsTo slot 8)) := by
  obtain ⟨h1, h2⟩ := futs_ok H W s (turnsTo slot 8) (turnsTo_pair slot 8) (fun t ht => by have := turnsTo_rng slot 8 t ht; omega)
  refine ⟨hl, h1, fun v hv => ?_⟩
  obtain ⟨h3, h4, h5⟩ := h2 v hv
  have := turnsTo_rng slot 8 _ h3
  refine ⟨by omega, by rw [hH]; exact h5, ?_⟩
  rw [hH]
  have e := congrArg Vc.gen h4
  exact e.symm
def slC (H : List Hd) (W : List Int) : List Value := (slL H W).flatMap Sl.cells
theorem slC_doom : ∀ (H : List Hd) (W : List Int) (i : Nat) (x : Hd), W.length = 2 * H.length → H[i]? = some x →
    slC (H.set i (dmd x)) W = ((slC H W).set (i * 8 + 4) (.bool true)).set (i * 8 + 5) (.int .i64 7)
  | [], _, i, x, _, h => by simp at h
  | y :: H, a :: b :: W, 0, x, hw, h => by
    simp at h
    subst h
    rfl
  | y :: H, a :: b :: W, i + 1, x, hw, h => by
    simp at h hw
    have ih := slC_doom H W i x (by omega) h
    have e1 : (i + 1) * 8 + 4 = i * 8 + 4 + 8 := by omega
    have e2 : (i + 1) * 8 + 5 = i * 8 + 5 + 8 := by omega
    rw [e1, e2]
    show Sl.cells ⟨y, a, b⟩ ++ slC (H.set i (dmd x)) W = _
    rw [ih]
    rfl
  | y :: H, [], _, _, hw, _ => by simp at hw
  | y :: H, [a], _, _, hw, _ => by simp at hw; omega
theorem slC_len {H : List Hd} {W : List Int} (h : W.length = 2 * H.length) : (slC H W).length = H.length * 8 := by
  unfold slC
  have e := slL_len H W h
  have : ∀ L : List Sl, (L.flatMap Sl.cells).length = L.length * 8 := fun L => by
    induction L with
    | nil => rfl
    | cons x l ih => simp [Sl.cells, RowH.cells] at ih ⊢; omega
  rw [this, e]
theorem slC_get : ∀ (H : List Hd) (W : List Int) (i : Nat), W.length = 2 * H.length → i < H.length →
    (slC H W)[i * 8]? = some (.int .i64 (hd H i).gen) ∧ (slC H W)[i * 8 + 1]? = some (.int .i64 (hd H i).state) ∧ (slC H W)[i * 8 + 2]? = some (.int .i64 (hd H i).stamp) ∧ (slC H W)[i * 8 + 3]? = some (.int .i64 (hd H i).thread) ∧ (slC H W)[i * 8 + 4]? = some (.bool (hd H i).doomed) ∧ (slC H W)[i * 8 + 5]? = some (.int .i64 (hd H i).who) ∧ (slC H W)[i * 8 + 6]? = some (.int .u64 (wd W i 0)) ∧ (slC H W)[i * 8 + 7]? = some (.int .u64 (wd W i 1))
  | [], _, i, _, h => by simp at h
  | y :: H, a :: b :: W, 0, hw, h => ⟨rfl, rfl, rfl, rfl, rfl, rfl, rfl, rfl⟩
  | y :: H, a :: b :: W, i + 1, hw, h => by
    simp at h hw
    have ih := slC_get H W i (by omega) (by omega)
    have e0 : hd (y :: H) ((i + 1 : Nat) : Int) = hd H (i : Int) := by unfold hd; simp
    have e2 : ∀ j, wd (a :: b :: W) ((i + 1 : Nat) : Int) j = wd W (i : Int) j := fun j => by
      unfold wd
      have : 2 * (((i + 1 : Nat) : Int).toNat) + j = (2 * ((i : Int).toNat) + j) + 1 + 1 := by simp; omega
      rw [this]
      simp
    have e1 : ∀ j, (slC (y :: H) (a :: b :: W))[(i + 1) * 8 + j]? = (slC H W)[i * 8 + j]? := fun j => by
      have : (i + 1) * 8 + j = (i * 8 + j) + 8 := by omega
      rw [this]
      rfl
    have e1' := e1 0
    rw [Nat.add_zero, Nat.add_zero] at e1'
    rw [e1', e1, e1, e1, e1, e1, e1, e1, e0, e2, e2]
    exact ih
  | y :: H, [], _, hw, _ => by simp at hw
  | y :: H, [a], _, hw, _ => by simp at hw; omega
end Go.Proofs.YtcoekpomiljofaaGreat.fd

namespace Go.Proofs.YtcoekpomiljofaaGreat.al
open Go.RowKit Pol fd
set_option linter.unusedVariables false
set_option linter.unusedSimpArgs false
/-- What it goes out from. -/
structure Env where
  c : Cf
  H : List Hd
  W : List Int
  C : List Int
  ws : List Pr
  g : Int
  gen : Int
  d : Int
def Env.sg (E : Env) : Sg := ofR E.c.bits (E.ws.map Pr.cell)
def Env.vs (E : Env) : List Vc := futs E.H E.W E.sg (turnsTo 0 8)
def Env.vd (E : Env) : Int := verdict E.c 5 E.d E.vs
def Env.lost (E : Env) : Prop := E.vd = 2 ∨ E.vd = 3
instance (E : Env) : Decidable E.lost := by unfold Env.lost; infer_instance
def Env.tail (E : Env) : Nat := if E.lost then 0 else E.vs.length + E.ws.length
def Env.all (E : Env) : Nat := costs E.H (turnsTo 0 8) + E.tail + 4
def dm1 (h : Hd) : Hd := ⟨h.gen, h.state, h.stamp, h.thread, true, 1⟩
def dms (H : List Hd) (l : List Vc) : List Hd := l.foldl (fun H v => H.set v.slot.toNat (dm1 (hd H v.slot))) H
def puts (C : List Int) (l : List Pr) : List Int := l.foldl (fun C p => C.set p.cell.toNat p.x) C
def Env.endH (E : Env) : List Hd := if E.lost then E.H else dms E.H E.vs
def Env.endC (E : Env) : List Int := if E.lost then E.C else puts E.C E.ws
def Env.endE (E : Env) : Int := if E.vd = 2 then 9 else if E.vd = 3 then 8 else 0
theorem dms_len (l : List Vc) : ∀ H : List Hd, (dms H l).length = H.length := by
  unfold dms
  induction l with
  | nil => intro H; rfl
  | cons v l ih => intro H; simp only [List.foldl_cons]; rw [ih]; simp
theorem puts_len (l : List Pr) : ∀ C : List Int, (puts C l).length = C.length := by
  unfold puts
  induction l with
  | nil => intro H; rfl
  | cons v l ih => intro H; simp only [List.foldl_cons]; rw [ih]; simp
theorem hd_dms {t : Int} (l : List Vc) : ∀ H : List Hd, (∀ u, u ∈ l → u.slot.toNat ≠ t.toNat) → hd (dms H l) t = hd H t := by
  unfold dms
  induction l with
  | nil => intro H _; rfl
  | cons v l ih =>
    intro H h
    simp only [List.foldl_cons]
    rw [ih _ (fun u hu => h u (by simp [hu]))]
    have := h v (by simp)
    unfold hd
    rw [List.getElem?_set_ne this]
theorem dms_snoc {l : List Vc} {i : Nat} {v : Vc} (h : l[i]? = some v) (H : List Hd) : dms H (l.take (i + 1)) = (dms H (l.take i)).set v.slot.toNat (dm1 (hd (dms H (l.take i)) v.slot)) := by
  unfold dms
  rw [List.take_add_one, h]
  simp [List.foldl_append]
theorem puts_snoc {l : List Pr} {i : Nat} {p : Pr} (h : l[i]? = some p) (C : List Int) : puts C (l.take (i + 1)) = (puts C (l.take i)).set p.cell.toNat p.x := by
  unfold puts
  rw [List.take_add_one, h]
  simp [List.foldl_append]
structure Env.Ok (E : Env) : Prop where
  len : E.H.length = 8
  wl : E.W.length = 16
  own : (hd E.H 0).state = 2 ∧ (hd E.H 0).gen = E.gen ∧ (hd E.H 0).doomed = false
  g0 : 0 ≤ E.g
  even : E.g % 2 = 0
  ws1 : 1 ≤ E.ws.length
  cells : ∀ p, p ∈ E.ws → 0 ≤ p.cell ∧ p.cell < E.C.length
structure Base (E : Env) (S : Sp) (x : Cm) : Prop where
  slot : x.slot = 0
  gen : x.gen = E.gen
  th : x.thread = 1
  stamp : x.stamp = 5
  ws : x.ws = E.ws
  c : S.c = E.c
  W : S.W = E.W
/-- r steps are left. -/
inductive Ph (E : Env) (r : Nat) (S : Sp) (d : Int) (x : Cm) : Prop
  | take (b : Base E S x) (st : x.st = .take) (hr : r = E.all) (hg : S.gate = ⟨E.g, 0⟩) (hH : S.H = E.H) (hC : S.cells = E.C) (hq : d = E.d) (he : x.e = 0) (hw : x.won = false)
  | own (b : Base E S x) (st : x.st = .own) (hr : r + 1 = E.all) (hg : S.gate = ⟨E.g + 1, 1⟩) (hH : S.H = E.H) (hC : S.cells = E.C) (hq : d = E.d) (he : x.e = 0) (hw : x.won = false) (hn : x.number = E.g + 1)
  | looking (l : Lk) (k : Nat) (b : Base E S x) (st : x.st = .looking) (hl : x.lk = some l) (rel : Rel E.H E.W E.sg E.vs l S (k + 1)) (hr : r = k + 1 + E.tail + 2) (hg : S.gate = ⟨E.g + 1, 1⟩) (hC : S.cells = E.C) (hq : d = E.d) (he : x.e = 0) (hw : x.won = false) (hn : x.number = E.g + 1)
  | doom (y : Dm) (i : Nat) (b : Base E S x) (st : x.st = .doom) (hy : x.dm = some y) (hi : i < E.vs.length) (hly : y.left = E.vs.drop i) (hwho : y.who = 1) (hnl : ¬ E.lost) (hr : r = E.vs.length - i + E.ws.length + 2) (hg : S.gate = ⟨E.g + 1, 1⟩) (hH : S.H = dms E.H (E.vs.take i)) (hC : S.cells = E.C) (hd : d = decided E.c 5 E.d E.vs) (he : x.e = 0) (hw : x.won = false) (hn : x.number = E.g + 1) (hv : x.victims = E.vs)
  | write (i : Nat) (b : Base E S x) (st : x.st = .write i) (hi : i < E.ws.length) (hnl : ¬ E.lost) (hr : r = E.ws.length - i + 2) (hg : S.gate = ⟨E.g + 1, 1⟩) (hH : S.H = dms E.H E.vs) (hC : S.cells = puts E.C (E.ws.take i)) (hd : d = decided E.c 5 E.d E.vs) (he : x.e = 0) (hw : x.won = false) (hn : x.number = E.g + 1) (hv : x.victims = E.vs)
  | give (b : Base E S x) (st : x.st = .give) (hnl : ¬ E.lost) (hr : r = 2) (hg : S.gate = ⟨E.g + 1, 1⟩) (hH : S.H = dms E.H E.vs) (hC : S.cells = puts E.C E.ws) (hd : d = decided E.c 5 E.d E.vs) (he : x.e = 0) (hw : x.won = false) (hn : x.number = E.g + 1) (hv : x.victims = E.vs)
  | giveUp (b : Base E S x) (st : x.st = .giveUp) (hl : E.lost) (hr : r = 2) (hg : S.gate = ⟨E.g + 1, 1⟩) (hH : S.H = E.H) (hC : S.cells = E.C) (hd : d = decided E.c 5 E.d E.vs) (he : x.e = E.endE) (hw : x.won = false) (hn : x.number = E.g + 1) (hv : x.victims = E.vs)
  | free (b : Base E S x) (st : x.st = .free) (hr : r = 1) (hg : S.gate = ⟨E.g + 2, 0⟩) (hH : S.H = E.endH) (hC : S.cells = E.endC) (hd : d = decided E.c 5 E.d E.vs) (he : x.e = E.endE) (hw : x.won = !decide E.lost) (hn : x.number = E.g + 1) (hv : x.victims = E.vs)
  | over (b : Base E S x) (st : x.st = .over) (hr : r = 0) (hg : S.gate = ⟨E.g + 2, 0⟩) (hH : S.H = E.endH.set 0 ⟨E.gen, 0, 0, 0, false, 0⟩) (hC : S.cells = E.endC) (hd : d = decided E.c 5 E.d E.vs) (he : x.e = E.endE) (hw : x.won = !decide E.lost) (hn : x.number = E.g + 1) (hv : x.victims = E.vs)
/-- What the step answers behind which r are left. -/
def Env.ans (E : Env) (r : Nat) : Int := if E.vd = 2 ∧ r = 1 then 2 else 1
def Next (E : Env) (r : Nat) (S : Sp) (d : Int) (x : Cm) : Prop := x.done = false ∧ (x.step S d).1 = E.ans r ∧ Ph E r (x.step S d).2.2.1 (x.step S d).2.2.2 (x.step S d).2.1
section
variable {E : Env} {r : Nat} {S : Sp} {d : Int} {x : Cm}
theorem ans_two (h : 2 ≤ r) : E.ans r = 1 := by unfold Env.ans; rw [if_neg (by omega)]
theorem ans_no (h : ¬ E.lost) : E.ans r = 1 := by unfold Env.ans; rw [if_neg (fun e => h (.inl e.1))]
theorem judged_ph (b : Base E S x) (hs : S.H = E.H) (hg : S.gate = ⟨E.g + 1, 1⟩) (hC : S.cells = E.C) (he : x.e = 0) (hw : x.won = false) (hn : x.number = E.g + 1) (hv : x.victims = E.vs) (h1 : 1 ≤ E.ws.length) :
    Ph E (E.tail + 2) S (decided E.c 5 E.d E.vs) (x.judged E.c E.d E.vs) := by
  unfold Cm.judged
  rw [b.stamp]
  split
  · rename_i h
    have hl : E.lost := .inl h
    exact .giveUp ⟨b.slot, b.gen, b.th, rfl, b.ws, b.c, b.W⟩ rfl hl (by unfold Env.tail; rw [if_pos hl]) hg hs hC rfl (by show (9 : Int) = E.endE; unfold Env.endE Env.vd; rw [if_pos h]) hw hn hv
  · rename_i h
    split
    · rename_i h3
      have hl : E.lost := .inr h3
      exact .giveUp ⟨b.slot, b.gen, b.th, rfl, b.ws, b.c, b.W⟩ rfl hl (by unfold Env.tail; rw [if_pos hl]) hg hs hC rfl (by show (8 : Int) = E.endE; unfold Env.endE Env.vd; rw [if_neg h, if_pos h3]) hw hn hv
    · rename_i h3
      have hl : ¬ E.lost := fun e => e.elim h h3
      have ht : E.tail = E.vs.length + E.ws.length := by unfold Env.tail; rw [if_neg hl]
      have bb : Base E S (x.doomed (Dm.new x.thread E.vs)) := ⟨b.slot, b.gen, b.th, b.stamp, b.ws, b.c, b.W⟩
      by_cases hz : E.vs = []
      · refine .write 0 bb ?_ (by omega) hl (by rw [ht, hz]; simp) hg (by rw [hs, hz]; rfl) (by rw [hC]; rfl) rfl he hw hn hv
        show (if (Dm.new x.thread E.vs).left = [] then Stg.write 0 else Stg.doom) = _
        rw [if_pos (by show E.vs = []; exact hz)]
      · have hp : 0 < E.vs.length := List.length_pos_iff.2 hz
        refine .doom (Dm.new x.thread E.vs) 0 bb ?_ rfl hp (by simp [Dm.new]) b.th hl (by rw [ht]; omega) hg (by rw [hs]; rfl) hC rfl he hw hn hv
        show (if (Dm.new x.thread E.vs).left = [] then Stg.write 0 else Stg.doom) = _
        rw [if_neg (by show ¬ E.vs = []; exact hz)]
theorem ph_take (ok : E.Ok) (b : Base E S x) (st : x.st = .take) (hr : r + 1 = E.all) (hg : S.gate = ⟨E.g, 0⟩) (hH : S.H = E.H) (hC : S.cells = E.C) (hq : d = E.d) (he : x.e = 0) (hw : x.won = false) : Next E r S d x := by
  have ht : S.take x.thread = ((E.g + 1, 0), { S.acc 2 0 3 true with gate := ⟨E.g + 1, 1⟩ }) := by
    unfold Sp.take
    rw [b.th, if_neg (by omega), hg, if_pos ok.even]
  have e : x.step S d = (1, { x with number := E.g + 1, st := .own }, { S.acc 2 0 3 true with gate := ⟨E.g + 1, 1⟩ }, d) := by
    unfold Cm.step Cm.take_
    rw [st]
    simp only
    rw [ht]
    rfl
  refine ⟨by unfold Cm.done; rw [st]; rfl, ?_, ?_⟩
  · rw [e, ans_two (by unfold Env.all at hr; omega)]
  · rw [e]
    exact .own ⟨b.slot, b.gen, b.th, b.stamp, b.ws, b.c, b.W⟩ rfl hr rfl hH hC hq he hw rfl
theorem turns8 : turnsTo 0 8 = [1, 2, 3, 4, 5, 6, 7] := by decide
theorem costs_pos (H : List Hd) : ∃ k, costs H (turnsTo 0 8) = k + 1 := ⟨costs H (turnsTo 0 8) - 1, by
  rw [turns8]
  simp only [costs, cost]
  split <;> omega⟩
theorem ph_own (ok : E.Ok) (b : Base E S x) (st : x.st = .own) (hr : r + 2 = E.all) (hg : S.gate = ⟨E.g + 1, 1⟩) (hH : S.H = E.H) (hC : S.cells = E.C) (hq : d = E.d) (he : x.e = 0) (hw : x.won = false) (hn : x.number = E.g + 1) : Next E r S d x := by
  obtain ⟨l1, l2, l3⟩ := look_at hH ok.len (t := 0) (by omega) (by omega)
  have lc := S.look_is 0
  have lgc : (S.look 0).2.gate = S.gate ∧ (S.look 0).2.cells = S.cells := by unfold Sp.look; split <;> exact ⟨rfl, rfl⟩
  have hlost : ¬ x.lost (hd E.H 0) := by
    unfold Cm.lost
    rw [ok.own.1, ok.own.2.1, ok.own.2.2, b.gen]
    simp
  have e : x.step S d = (1, { x with lk := some (Lk.new 8 0 E.sg), st := .looking }, (S.look 0).2, d) := by
    unfold Cm.step Cm.own_
    rw [st]
    simp only
    rw [b.slot, l1, if_neg hlost, hH, ok.len]
    have hs : ofR S.c.bits x.to = E.sg := by unfold Env.sg Cm.to; rw [b.c, b.ws]
    rw [hs]
    unfold Cm.behind
    rw [if_neg (by show ¬ turnsTo 0 8 = []; rw [turns8]; simp), b.slot]
  obtain ⟨k, hk⟩ := costs_pos E.H
  refine ⟨by unfold Cm.done; rw [st]; rfl, ?_, ?_⟩
  · rw [e, ans_two (by unfold Env.all at hr; omega)]
  · rw [e]
    refine .looking (Lk.new 8 0 E.sg) k ⟨b.slot, b.gen, b.th, b.stamp, b.ws, lc.1.trans b.c, lc.2.1.trans b.W⟩ rfl rfl ?_ (by unfold Env.all at hr; omega) (lgc.1.trans hg) (lgc.2.trans hC) hq he hw hn
    have := Rel.new (S := (S.look 0).2) (H := E.H) (W := E.W) (lc.2.2.trans hH) (lc.2.1.trans b.W) 0 E.sg
    rw [hk] at this
    exact this
theorem lk_gc (l : Lk) (S : Sp) : (l.step S).2.2.gate = S.gate ∧ (l.step S).2.2.cells = S.cells := by
  have h1 : ∀ t, (S.look t).2.gate = S.gate ∧ (S.look t).2.cells = S.cells := fun t => by unfold Sp.look; split <;> exact ⟨rfl, rfl⟩
  have h2 : ∀ t j, (S.word t j).2.gate = S.gate ∧ (S.word t j).2.cells = S.cells := fun t j => by unfold Sp.word; split <;> exact ⟨rfl, rfl⟩
  unfold Lk.step
  split
  · exact ⟨rfl, rfl⟩
  · split
    · exact h1 _
    · exact h2 _ _
theorem ph_look {l : Lk} {k : Nat} (ok : E.Ok) (b : Base E S x) (st : x.st = .looking) (hl : x.lk = some l) (rel : Rel E.H E.W E.sg E.vs l S (k + 1)) (hr : r = k + E.tail + 2) (hg : S.gate = ⟨E.g + 1, 1⟩) (hC : S.cells = E.C) (hq : d = E.d) (he : x.e = 0) (hw : x.won = false) (hn : x.number = E.g + 1) : Next E r S d x := by
  obtain ⟨r1, r2, r3⟩ := rel.step ok.len ok.wl
  have li := l.step_is S
  have lg := lk_gc l S
  have e : x.step S d = (1, (x.behind (l.step S).2.1 S.c d).1, (l.step S).2.2, (x.behind (l.step S).2.1 S.c d).2) := by
    unfold Cm.step Cm.look_
    rw [st, hl]
  refine ⟨by unfold Cm.done; rw [st]; rfl, ?_, ?_⟩
  · rw [e, ans_two (by omega)]
  · rw [e]
    have bb : Base E (l.step S).2.2 ({ x with lk := some (l.step S).2.1 } : Cm) := ⟨b.slot, b.gen, b.th, b.stamp, b.ws, li.1.trans b.c, li.2.1.trans b.W⟩
    have hH : (l.step S).2.2.H = E.H := r3.hH
    have b0 := b.stamp
    have bc := b.c
    cases k with
    | zero =>
      obtain ⟨f1, f2⟩ := r3.fin
      obtain rfl : r = E.tail + 2 := by omega
      unfold Cm.behind
      rw [if_pos f1]
      show Ph E (E.tail + 2) (l.step S).2.2 (decided S.c x.stamp d (l.step S).2.1.victims) (({ x with lk := some (l.step S).2.1 } : Cm).judged S.c d (l.step S).2.1.victims)
      have e5 : decided E.c x.stamp E.d E.vs = decided E.c 5 E.d E.vs := by rw [b0]
      rw [f2, bc, hq, e5]
      exact judged_ph bb hH (lg.1.trans hg) (lg.2.trans hC) he hw hn f2 ok.ws1
    | succ k =>
      have hne : ¬ (l.step S).2.1.turns = [] := fun h => by
        have := (r3.step ok.len ok.wl).1
        rw [h] at this
        cases this
      unfold Cm.behind
      rw [if_neg hne]
      exact .looking (l.step S).2.1 k ⟨b.slot, b.gen, b.th, b.stamp, b.ws, li.1.trans b.c, li.2.1.trans b.W⟩ rfl rfl r3 (by omega) (lg.1.trans hg) (lg.2.trans hC) hq he hw hn
theorem vs_ok (E : Env) : E.vs.Pairwise (fun a b => a.slot < b.slot) ∧ ∀ v, v ∈ E.vs → (0 ≤ v.slot ∧ v.slot < 8) ∧ v = vic E.H v.slot ∧ live (hd E.H v.slot) = true := by
  obtain ⟨h1, h2⟩ := futs_ok E.H E.W E.sg (turnsTo 0 8) (turnsTo_pair 0 8) (fun t ht => by have := turnsTo_rng 0 8 t ht; omega)
  refine ⟨h1, fun v hv => ?_⟩
  obtain ⟨h3, h4, h5⟩ := h2 v hv
  have := turnsTo_rng 0 8 _ h3
  exact ⟨by omega, h4, h5⟩
theorem pair_take {l : List Vc} (h : l.Pairwise (fun a b => a.slot < b.slot)) (h0 : ∀ v, v ∈ l → 0 ≤ v.slot) {i : Nat} {v : Vc} (hv : l[i]? = some v) : ∀ u, u ∈ l.take i → u.slot.toNat ≠ v.slot.toNat := fun u hu => by
  obtain ⟨j, hj, e⟩ := List.getElem_of_mem hu
  obtain ⟨hi, e2⟩ := List.getElem?_eq_some_iff.1 hv
  rw [List.length_take] at hj
  rw [List.getElem_take] at e
  have := List.pairwise_iff_getElem.1 h j i (by omega) hi (by omega)
  rw [e, e2] at this
  have hu0 := h0 u (List.mem_of_mem_take hu)
  omega
theorem ph_doom {y : Dm} {i : Nat} (ok : E.Ok) (b : Base E S x) (st : x.st = .doom) (hy : x.dm = some y) (hi : i < E.vs.length) (hly : y.left = E.vs.drop i) (hwho : y.who = 1) (hnl : ¬ E.lost) (hr : r + 1 = E.vs.length - i + E.ws.length + 2) (hg : S.gate = ⟨E.g + 1, 1⟩) (hH : S.H = dms E.H (E.vs.take i)) (hC : S.cells = E.C) (hd_ : d = decided E.c 5 E.d E.vs) (he : x.e = 0) (hw : x.won = false) (hn : x.number = E.g + 1) (hv : x.victims = E.vs) : Next E r S d x := by
  obtain ⟨p1, p2⟩ := vs_ok E
  obtain ⟨v, hvi⟩ : ∃ v, E.vs[i]? = some v := ⟨_, List.getElem?_eq_getElem hi⟩
  have hmem := List.mem_of_getElem? hvi
  obtain ⟨⟨v0, v8⟩, q1, q2⟩ := p2 v hmem
  have hdr : E.vs.drop i = v :: E.vs.drop (i + 1) := by
    rw [List.drop_eq_getElem_cons hi]
    rw [List.getElem?_eq_getElem hi] at hvi
    injection hvi with hvi
    rw [hvi]
  have hh : hd S.H v.slot = hd E.H v.slot := by rw [hH]; exact hd_dms _ _ (pair_take p1 (fun u hu => (p2 u hu).1.1) hvi)
  have hlen : S.H.length = 8 := by rw [hH, dms_len, ok.len]
  have hx : nth S.H v.slot = some (hd S.H v.slot) := by
    unfold nth
    rw [if_pos v0]
    unfold hd
    rw [List.getElem?_eq_getElem (by omega)]
    rfl
  rw [hh] at hx
  have hgen : (hd E.H v.slot).gen = v.gen := (congrArg Vc.gen q1).symm
  simp only [live, Bool.and_eq_true, beq_iff_eq, Bool.not_eq_true'] at q2
  have ed : S.doom v.slot v.gen 1 = (0, { S.acc 3 v.slot 3 true with H := S.H.set v.slot.toNat (dm1 (hd S.H v.slot)) }) := by
    unfold Sp.doom
    rw [if_neg (by omega), hx]
    simp only
    rw [if_pos ⟨q2.1, hgen⟩, hh]
    have e2 : (hd E.H v.slot).doom 1 = dm1 (hd E.H v.slot) := by unfold Hd.doom; rw [q2.2]; rfl
    rw [e2]
  have ey : y.step S = (1, ⟨1, E.vs.drop (i + 1), y.doomed ++ [v]⟩, (S.doom v.slot v.gen 1).2) := by
    unfold Dm.step
    rw [hly, hdr, hwho]
    simp only
    rw [ed]
    simp
  have e : x.step S d = (1, x.doomed ⟨1, E.vs.drop (i + 1), y.doomed ++ [v]⟩, { S.acc 3 v.slot 3 true with H := S.H.set v.slot.toNat (dm1 (hd S.H v.slot)) }, d) := by
    unfold Cm.step Cm.doom_
    rw [st, hy]
    simp only
    rw [ey, ed]
  have bb : Base E { S.acc 3 v.slot 3 true with H := S.H.set v.slot.toNat (dm1 (hd S.H v.slot)) } (x.doomed ⟨1, E.vs.drop (i + 1), y.doomed ++ [v]⟩) := ⟨b.slot, b.gen, b.th, b.stamp, b.ws, b.c, b.W⟩
  have hH' : S.H.set v.slot.toNat (dm1 (hd S.H v.slot)) = dms E.H (E.vs.take (i + 1)) := by rw [dms_snoc hvi, ← hH]
  refine ⟨by unfold Cm.done; rw [st]; rfl, ?_, ?_⟩
  · rw [e, ans_two (by omega)]
  · rw [e]
    by_cases hl : i + 1 < E.vs.length
    · refine .doom _ (i + 1) bb ?_ rfl hl rfl rfl hnl (by omega) hg hH' hC hd_ he hw hn hv
      show (if E.vs.drop (i + 1) = [] then Stg.write 0 else Stg.doom) = _
      rw [if_neg (by rw [List.drop_eq_nil_iff]; omega)]
    · refine .write 0 bb ?_ (by have := ok.ws1; omega) hnl (by omega) hg ?_ (by rw [List.take_zero]; exact hC) hd_ he hw hn hv
      · show (if E.vs.drop (i + 1) = [] then Stg.write 0 else Stg.doom) = _
        rw [if_pos (by rw [List.drop_eq_nil_iff]; omega)]
      · show S.H.set v.slot.toNat (dm1 (hd S.H v.slot)) = _
        rw [hH', List.take_of_length_le (by omega)]
theorem ph_write {i : Nat} (ok : E.Ok) (b : Base E S x) (st : x.st = .write i) (hi : i < E.ws.length) (hnl : ¬ E.lost) (hr : r + 1 = E.ws.length - i + 2) (hg : S.gate = ⟨E.g + 1, 1⟩) (hH : S.H = dms E.H E.vs) (hC : S.cells = puts E.C (E.ws.take i)) (hd_ : d = decided E.c 5 E.d E.vs) (he : x.e = 0) (hw : x.won = false) (hn : x.number = E.g + 1) (hv : x.victims = E.vs) : Next E r S d x := by
  obtain ⟨p, hp⟩ : ∃ p, E.ws[i]? = some p := ⟨_, List.getElem?_eq_getElem hi⟩
  have hc := ok.cells p (List.mem_of_getElem? hp)
  have hlen : S.cells.length = E.C.length := by rw [hC, puts_len]
  have hx : ∃ q, nth S.cells p.cell = some q := by
    unfold nth
    rw [if_pos hc.1]
    exact ⟨_, List.getElem?_eq_getElem (by omega)⟩
  obtain ⟨q, hq⟩ := hx
  have es : S.store p.cell p.x = (0, { S.acc 1 p.cell 2 true with cells := S.cells.set p.cell.toNat p.x }) := by
    unfold Sp.store
    rw [hq]
  have e : x.step S d = (1, x.at_ (if i + 1 < E.ws.length then .write (i + 1) else .give), { S.acc 1 p.cell 2 true with cells := S.cells.set p.cell.toNat p.x }, d) := by
    unfold Cm.step Cm.write_
    rw [st]
    simp only
    rw [b.ws, hp]
    simp only
    rw [es]
  have hC' : S.cells.set p.cell.toNat p.x = puts E.C (E.ws.take (i + 1)) := by rw [puts_snoc hp, ← hC]
  refine ⟨by unfold Cm.done; rw [st]; rfl, ?_, ?_⟩
  · rw [e, ans_no hnl]
  · rw [e]
    by_cases hl : i + 1 < E.ws.length
    · rw [if_pos hl]
      exact .write (i + 1) ⟨b.slot, b.gen, b.th, b.stamp, b.ws, b.c, b.W⟩ rfl hl hnl (by omega) hg hH hC' hd_ he hw hn hv
    · rw [if_neg hl]
      refine .give ⟨b.slot, b.gen, b.th, b.stamp, b.ws, b.c, b.W⟩ rfl hnl (by omega) hg hH ?_ hd_ he hw hn hv
      show S.cells.set p.cell.toNat p.x = _
      rw [hC', List.take_of_length_le (by omega)]
theorem give_is1 {g : Int} (hg : S.gate = ⟨g, 1⟩) : S.give 1 = (0, { S.acc 2 0 3 true with gate := ⟨g + 1, 0⟩ }) := by
  unfold Sp.give
  rw [if_neg (by omega), hg]
  simp
theorem ph_give (b : Base E S x) (st : x.st = .give) (hnl : ¬ E.lost) (hr : r = 1) (hg : S.gate = ⟨E.g + 1, 1⟩) (hH : S.H = dms E.H E.vs) (hC : S.cells = puts E.C E.ws) (hd_ : d = decided E.c 5 E.d E.vs) (he : x.e = 0) (hw : x.won = false) (hn : x.number = E.g + 1) (hv : x.victims = E.vs) : Next E r S d x := by
  have e : x.step S d = (1, { x with won := true, st := .free }, { S.acc 2 0 3 true with gate := ⟨E.g + 1 + 1, 0⟩ }, d) := by
    unfold Cm.step
    rw [st]
    simp only
    rw [b.th, give_is1 hg]
  have e2 : E.endE = 0 := by unfold Env.endE; rw [if_neg (fun h => hnl (.inl h)), if_neg (fun h => hnl (.inr h))]
  refine ⟨by unfold Cm.done; rw [st]; rfl, ?_, ?_⟩
  · rw [e, ans_no hnl]
  · rw [e]
    exact .free ⟨b.slot, b.gen, b.th, b.stamp, b.ws, b.c, b.W⟩ rfl hr (by show (⟨E.g + 1 + 1, 0⟩ : Gt) = _; congr 1; omega) (by unfold Env.endH; rw [if_neg hnl]; exact hH) (by unfold Env.endC; rw [if_neg hnl]; exact hC) hd_ (he.trans e2.symm) (by simp [hnl]) hn hv
theorem ph_giveUp (b : Base E S x) (st : x.st = .giveUp) (hl : E.lost) (hr : r = 1) (hg : S.gate = ⟨E.g + 1, 1⟩) (hH : S.H = E.H) (hC : S.cells = E.C) (hd_ : d = decided E.c 5 E.d E.vs) (he : x.e = E.endE) (hw : x.won = false) (hn : x.number = E.g + 1) (hv : x.victims = E.vs) : Next E r S d x := by
  have e : x.step S d = (if x.e = 9 then 2 else 1, x.at_ .free, { S.acc 2 0 3 true with gate := ⟨E.g + 1 + 1, 0⟩ }, d) := by
    unfold Cm.step
    rw [st]
    simp only
    rw [b.th, give_is1 hg]
  refine ⟨by unfold Cm.done; rw [st]; rfl, ?_, ?_⟩
  · rw [e, he, hr]
    show (if E.endE = 9 then (2 : Int) else 1) = E.ans 1
    unfold Env.ans Env.endE
    by_cases h2 : E.vd = 2
    · simp [h2]
    · by_cases h3 : E.vd = 3 <;> simp [h2, h3]
  · rw [e]
    exact .free ⟨b.slot, b.gen, b.th, b.stamp, b.ws, b.c, b.W⟩ rfl hr (by show (⟨E.g + 1 + 1, 0⟩ : Gt) = _; congr 1; omega) (by unfold Env.endH; rw [if_pos hl]; exact hH) (by unfold Env.endC; rw [if_pos hl]; exact hC) hd_ he (by show x.won = _; rw [hw]; simp [hl]) hn hv
theorem hd0_end (ok : E.Ok) : hd E.endH 0 = hd E.H 0 := by
  unfold Env.endH
  split
  · rfl
  · obtain ⟨p1, p2⟩ := vs_ok E
    refine hd_dms _ _ (fun u hu => ?_)
    have h1 := (futs_ok E.H E.W E.sg (turnsTo 0 8) (turnsTo_pair 0 8) (fun t ht => by have := turnsTo_rng 0 8 t ht; omega)).2 u hu
    have h2 := h1.1
    rw [turns8] at h2
    simp at h2
    omega
theorem endH_len (ok : E.Ok) : E.endH.length = 8 := by
  unfold Env.endH
  split
  · exact ok.len
  · rw [dms_len, ok.len]
theorem ph_free (ok : E.Ok) (b : Base E S x) (st : x.st = .free) (hr : r = 0) (hg : S.gate = ⟨E.g + 2, 0⟩) (hH : S.H = E.endH) (hC : S.cells = E.endC) (hd_ : d = decided E.c 5 E.d E.vs) (he : x.e = E.endE) (hw : x.won = !decide E.lost) (hn : x.number = E.g + 1) (hv : x.victims = E.vs) : Next E r S d x := by
  have hx : nth S.H 0 = some (hd E.H 0) := by
    unfold nth
    rw [if_pos (by omega), hH, ← hd0_end ok]
    unfold hd
    rw [List.getElem?_eq_getElem (by rw [endH_len ok]; decide)]
    rfl
  have ef : S.free 0 E.gen = (0, { S.acc 3 0 3 true with H := S.H.set 0 ⟨E.gen, 0, 0, 0, false, 0⟩ }) := by
    unfold Sp.free
    rw [hx]
    simp only
    rw [if_pos ⟨by rw [ok.own.1]; decide, ok.own.2.1⟩, ok.own.2.1]
    rfl
  have e : x.step S d = (1, x.at_ .over, { S.acc 3 0 3 true with H := S.H.set 0 ⟨E.gen, 0, 0, 0, false, 0⟩ }, d) := by
    unfold Cm.step
    rw [st]
    simp only
    rw [b.slot, b.gen, ef]
  refine ⟨by unfold Cm.done; rw [st]; rfl, ?_, ?_⟩
  · rw [e]; unfold Env.ans; rw [if_neg (by omega)]
  · rw [e]
    exact .over ⟨b.slot, b.gen, b.th, b.stamp, b.ws, b.c, b.W⟩ rfl hr hg (by show S.H.set 0 _ = _; rw [hH]) hC hd_ he hw hn hv
theorem Ph.step (ok : E.Ok) (h : Ph E (r + 1) S d x) : Next E r S d x := by
  cases h with
  | take b st hr hg hH hC hq he hw => exact ph_take ok b st hr hg hH hC hq he hw
  | own b st hr hg hH hC hq he hw hn => exact ph_own ok b st hr hg hH hC hq he hw hn
  | looking l k b st hl rel hr hg hC hq he hw hn => exact ph_look ok b st hl rel (by omega) hg hC hq he hw hn
  | doom y i b st hy hi hly hwho hnl hr hg hH hC hq he hw hn hv => exact ph_doom ok b st hy hi hly hwho hnl hr hg hH hC hq he hw hn hv
  | write i b st hi hnl hr hg hH hC hq he hw hn hv => exact ph_write ok b st hi hnl hr hg hH hC hq he hw hn hv
  | give b st hnl hr hg hH hC hq he hw hn hv => exact ph_give b st hnl (by omega) hg hH hC hq he hw hn hv
  | giveUp b st hl hr hg hH hC hq he hw hn hv => exact ph_giveUp b st hl (by omega) hg hH hC hq he hw hn hv
  | free b st hr hg hH hC hq he hw hn hv => exact ph_free ok b st (by omega) hg hH hC hq he hw hn hv
  | over b st hr => omega
theorem Ph.start (hc : S.c = E.c) (hW : S.W = E.W) (hg : S.gate = ⟨E.g, 0⟩) (hH : S.H = E.H) (hC : S.cells = E.C) : Ph E E.all S E.d (Cm.new 0 E.gen 1 5 E.ws) :=
  .take ⟨rfl, rfl, rfl, rfl, rfl, hc, hW⟩ rfl rfl hg hH hC rfl rfl rfl
/-- At its end. -/
structure Fin (E : Env) (S : Sp) (d : Int) (x : Cm) : Prop where
  st : x.st = .over
  c : S.c = E.c
  W : S.W = E.W
  gate : S.gate = ⟨E.g + 2, 0⟩
  H : S.H = E.endH.set 0 ⟨E.gen, 0, 0, 0, false, 0⟩
  C : S.cells = E.endC
  d : d = decided E.c 5 E.d E.vs
  e : x.e = E.endE
  won : x.won = !decide E.lost
  number : x.number = E.g + 1
  victims : x.victims = E.vs
theorem Ph.fin (h : Ph E 0 S d x) : Fin E S d x := by
  cases h with
  | over b st hr hg hH hC hq he hw hn hv => exact ⟨st, b.c, b.W, hg, hH, hC, hq, he, hw, hn, hv⟩
  | take b st hr => unfold Env.all at hr; omega
  | own b st hr => unfold Env.all at hr; omega
  | looking l k b st hl rel hr => omega
  | doom y i b st hy hi hly hwho hnl hr => omega
  | write i b st hi hnl hr => omega
  | give b st hnl hr => omega
  | giveUp b st hl hr => omega
  | free b st hr => omega
end
end Go.Proofs.YtcoekpomiljofaaGreat.al
