/- LookFinds' plain law: a look over a space that nobody else moves. No program in sight. -/
import Derived.Test.YtnednminpmiojaaLkAt
import Derived.Test.YtnednminpmiojaaSlotsAll
namespace Go.Proofs.Ytnednminpmiojaa.fd
open Go.RowKit
set_option linter.unusedVariables false
def hd (H : List Hd) (t : Int) : Hd := (H[t.toNat]?).getD Hd.zero
def wd (W : List Int) (t : Int) (j : Nat) : Int := (W[2 * t.toNat + j]?).getD 0
def live (h : Hd) : Bool := h.state == 2 && !h.doomed
def mt (W : List Int) (s : Sg) (t : Int) : Bool := !((sgOf [wd W t 0, wd W t 1]).meet s).none
def vic (H : List Hd) (t : Int) : Vc := ⟨t, (hd H t).gen, (hd H t).stamp, (hd H t).thread⟩
def cost (H : List Hd) (t : Int) : Nat := if live (hd H t) then 3 else 1
def fut (H : List Hd) (W : List Int) (s : Sg) (t : Int) : List Vc := if live (hd H t) && mt W s t then [vic H t] else []
def costs (H : List Hd) : List Int → Nat
  | [] => 0
  | t :: l => cost H t + costs H l
def futs (H : List Hd) (W : List Int) (s : Sg) (l : List Int) : List Vc := l.flatMap (fut H W s)
theorem costs_app (H : List Hd) (a b : List Int) : costs H (a ++ b) = costs H a + costs H b := by
  induction a with
  | nil => simp [costs]
  | cons x l ih => simp [costs, ih]; omega
theorem costs_le (H : List Hd) (l : List Int) : costs H l ≤ 3 * l.length := by
  induction l with
  | nil => simp [costs]
  | cons x l ih => simp only [costs, cost, List.length_cons]; split <;> omega
theorem costs_zero {H : List Hd} {l : List Int} (h : costs H l = 0) : l = [] := by
  cases l with
  | nil => rfl
  | cons x l => simp only [costs, cost] at h; split at h <;> omega
/-- Where a look stands: so many steps are left, and these will be its victims. -/
structure Rel (H : List Hd) (W : List Int) (s : Sg) (want : List Vc) (x : Lk) (S : Sp) (c : Nat) : Prop where
  hH : S.H = H
  hW : S.W = W
  sg : x.writes = s
  rng : ∀ t, t ∈ x.turns → 0 ≤ t ∧ t < 8
  st : (x.looked = false ∧ x.words = [] ∧ c = costs H x.turns ∧ want = x.victims ++ futs H W s x.turns) ∨
    (∃ t tl, x.turns = t :: tl ∧ x.looked = true ∧ x.head = hd H t ∧ live (hd H t) = true ∧ x.words = [] ∧ c = 2 + costs H tl ∧ want = x.victims ++ (if mt W s t then [vic H t] else []) ++ futs H W s tl) ∨
    (∃ t tl, x.turns = t :: tl ∧ x.looked = true ∧ x.head = hd H t ∧ live (hd H t) = true ∧ x.words = [wd W t 0] ∧ c = 1 + costs H tl ∧ want = x.victims ++ (if mt W s t then [vic H t] else []) ++ futs H W s tl)
theorem Rel.new {H : List Hd} {W : List Int} {S : Sp} (hH : S.H = H) (hW : S.W = W) (slot : Int) (s : Sg) : Rel H W s (futs H W s (turnsTo slot 8)) (Lk.new 8 slot s) S (costs H (turnsTo slot 8)) :=
  ⟨hH, hW, rfl, fun t ht => by have := turnsTo_rng slot 8 t ht; omega, .inl ⟨rfl, rfl, rfl, by simp [Lk.new]⟩⟩
theorem Rel.fin {H : List Hd} {W : List Int} {s : Sg} {want : List Vc} {x : Lk} {S : Sp} (h : Rel H W s want x S 0) : x.turns = [] ∧ x.victims = want := by
  rcases h.st with ⟨_, _, h3, h4⟩ | ⟨t, tl, _, _, _, _, _, h3, _⟩ | ⟨t, tl, _, _, _, _, _, h3, _⟩
  · have := costs_zero h3.symm
    rw [this] at h4
    exact ⟨this, by simpa [futs] using h4.symm⟩
  · omega
  · omega
theorem look_at {S : Sp} {H : List Hd} (hH : S.H = H) (hl : H.length = 8) {t : Int} (h0 : 0 ≤ t) (h8 : t < 8) : (S.look t).1.1 = hd H t ∧ (S.look t).2.H = H ∧ (S.look t).2.W = S.W := by
  have hx : nth S.H t = some (hd H t) := by
    unfold nth
    rw [if_pos h0, hH]
    unfold hd
    rw [List.getElem?_eq_getElem (by omega)]
    rfl
  unfold Sp.look
  rw [hx]
  exact ⟨rfl, hH, rfl⟩
theorem word_at {S : Sp} {H : List Hd} {W : List Int} (hH : S.H = H) (hW : S.W = W) (hl : H.length = 8) (hw : W.length = 16) {t : Int} (h0 : 0 ≤ t) (h8 : t < 8) (j : Nat) (hj : j < 2) : (S.word t j).1.1 = wd W t j ∧ (S.word t j).2.H = H ∧ (S.word t j).2.W = W := by
  have hx : wnth S t j = some (wd W t j) := by
    unfold wnth
    rw [if_pos ⟨⟨h0, by rw [hH]; omega⟩, by omega, by omega⟩, hW]
    unfold wd
    rw [Int.toNat_natCast, List.getElem?_eq_getElem (by omega)]
    rfl
  unfold Sp.word
  rw [hx]
  exact ⟨rfl, hH, hW⟩
theorem Rel.step {H : List Hd} {W : List Int} {s : Sg} {want : List Vc} {x : Lk} {S : Sp} {c : Nat} (hl : H.length = 8) (hw : W.length = 16) (h : Rel H W s want x S (c + 1)) :
    x.turns.isEmpty = false ∧ (x.step S).1 = 1 ∧ Rel H W s want (x.step S).2.1 (x.step S).2.2 c := by
  obtain ⟨hH, hW, hs, hr, hst⟩ := h
  obtain ⟨own, wr, turns, head, words, looked, victims⟩ := x
  simp only at hs hr hst
  subst hs
  rcases hst with ⟨rfl, rfl, h3, h4⟩ | ⟨t, tl, rfl, rfl, rfl, hv, rfl, h3, h4⟩ | ⟨t, tl, rfl, rfl, rfl, hv, rfl, h3, h4⟩
  · cases turns with
    | nil => simp [costs] at h3
    | cons t tl =>
      obtain ⟨t0, t8⟩ := hr t (by simp)
      obtain ⟨l1, l2, l3⟩ := look_at hH hl t0 t8
      refine ⟨rfl, by simp [Lk.step], ?_⟩
      have e : Lk.step ⟨own, wr, t :: tl, head, [], false, victims⟩ S = (1, if (S.look t).1.1.state ≠ 2 ∨ (S.look t).1.1.doomed = true then (Lk.at_ ⟨own, wr, t :: tl, head, [], false, victims⟩ (S.look t).1.1).turn else Lk.at_ ⟨own, wr, t :: tl, head, [], false, victims⟩ (S.look t).1.1, (S.look t).2) := by simp [Lk.step]
      rw [e]
      simp only [l1]
      simp only [costs] at h3
      by_cases hv : live (hd H t) = true
      · have hn : ¬ ((hd H t).state ≠ 2 ∨ (hd H t).doomed = true) := by simp [live] at hv; simp [hv]
        rw [if_neg hn]
        refine ⟨l2, l3.trans hW, rfl, hr, .inr (.inl ⟨t, tl, rfl, rfl, rfl, hv, rfl, ?_, ?_⟩)⟩
        · simp [cost, hv] at h3; omega
        · rw [h4]
          simp [futs, fut, hv, Lk.at_]
      · have hn : (hd H t).state ≠ 2 ∨ (hd H t).doomed = true := by
          simp [live] at hv
          by_cases e2 : (hd H t).state = 2
          · exact .inr (hv e2)
          · exact .inl e2
        rw [if_pos hn]
        refine ⟨l2, l3.trans hW, rfl, fun q hq => hr q (by simp only [Lk.turn, Lk.at_, List.tail_cons] at hq; simp [hq]), .inl ⟨rfl, rfl, ?_, ?_⟩⟩
        · simp [cost, hv] at h3; simp [Lk.turn, Lk.at_]; omega
        · rw [h4]
          simp [futs, fut, hv, Lk.at_, Lk.turn]
  · obtain ⟨t0, t8⟩ := hr t (by simp)
    obtain ⟨l1, l2, l3⟩ := word_at hH hW hl hw t0 t8 0 (by decide)
    refine ⟨rfl, by simp [Lk.step], ?_⟩
    have e : Lk.step ⟨own, wr, t :: tl, hd H t, [], true, victims⟩ S = (1, Lk.word ⟨own, wr, t :: tl, hd H t, [], true, victims⟩ (S.word t (0 : Nat)).1.1, (S.word t (0 : Nat)).2) := by simp [Lk.step]
    rw [e]
    simp only [l1]
    refine ⟨l2, l3, rfl, hr, .inr (.inr ⟨t, tl, rfl, rfl, rfl, hv, rfl, by omega, h4⟩)⟩
  · obtain ⟨t0, t8⟩ := hr t (by simp)
    obtain ⟨l1, l2, l3⟩ := word_at hH hW hl hw t0 t8 1 (by decide)
    refine ⟨rfl, by simp [Lk.step], ?_⟩
    have e : Lk.step ⟨own, wr, t :: tl, hd H t, [wd W t 0], true, victims⟩ S = (1, if (Lk.word ⟨own, wr, t :: tl, hd H t, [wd W t 0], true, victims⟩ (S.word t (1 : Nat)).1.1).met = true then ((Lk.word ⟨own, wr, t :: tl, hd H t, [wd W t 0], true, victims⟩ (S.word t (1 : Nat)).1.1).meets t).turn else (Lk.word ⟨own, wr, t :: tl, hd H t, [wd W t 0], true, victims⟩ (S.word t (1 : Nat)).1.1).turn, (S.word t (1 : Nat)).2) := by simp [Lk.step]
    rw [e]
    simp only [l1]
    have em : (Lk.word ⟨own, wr, t :: tl, hd H t, [wd W t 0], true, victims⟩ (wd W t 1)).met = mt W wr t := rfl
    rw [em]
    have hr' : ∀ q, q ∈ tl → 0 ≤ q ∧ q < 8 := fun q hq => hr q (by simp [hq])
    cases hm : mt W wr t
    · rw [if_neg (by simp)]
      refine ⟨l2, l3, rfl, hr', .inl ⟨rfl, rfl, ?_, ?_⟩⟩
      · show _ = costs H tl; omega
      · rw [h4, hm]; simp [Lk.turn, Lk.word]
    · rw [if_pos rfl]
      refine ⟨l2, l3, rfl, hr', .inl ⟨rfl, rfl, ?_, ?_⟩⟩
      · show _ = costs H tl; omega
      · rw [h4, hm]; simp [Lk.turn, Lk.word, Lk.meets, vic]
/-- All victims live, are not doomed, each in a slot of its own. -/
theorem futs_ok (H : List Hd) (W : List Int) (s : Sg) (l : List Int) (hn : l.Pairwise (· < ·)) (hr : ∀ t, t ∈ l → 0 ≤ t ∧ t < 8) : (futs H W s l).Pairwise (fun a b => a.slot < b.slot) ∧ ∀ v, v ∈ futs H W s l → (v.slot ∈ l ∧ v = vic H v.slot ∧ live (hd H v.slot) = true) := by
  induction l with
  | nil => exact ⟨List.Pairwise.nil, fun v hv => by simp [futs] at hv⟩
  | cons t l ih =>
    have hn' := List.pairwise_cons.1 hn
    obtain ⟨h1, h2⟩ := ih hn'.2 (fun q hq => hr q (by simp [hq]))
    have e : futs H W s (t :: l) = fut H W s t ++ futs H W s l := rfl
    rw [e]
    have hf : ∀ v, v ∈ fut H W s t → v = vic H t ∧ live (hd H t) = true := fun v hv => by
      unfold fut at hv
      split at hv
      · rename_i hc; simp at hv hc; exact ⟨hv, hc.1⟩
      · simp at hv
    refine ⟨List.pairwise_append.2 ⟨?_, h1, fun a ha b hb => ?_⟩, fun v hv => ?_⟩
    · unfold fut; split <;> simp
    · obtain ⟨rfl, _⟩ := hf a ha
      exact hn'.1 _ (h2 b hb).1
    · rw [List.mem_append] at hv
      rcases hv with hv | hv
      · obtain ⟨rfl, h3⟩ := hf v hv
        exact ⟨by simp [vic], rfl, h3⟩
      · obtain ⟨h3, h4⟩ := h2 v hv
        exact ⟨by simp [h3], h4⟩
theorem turnsTo_pair (slot : Int) : ∀ k, (turnsTo slot k).Pairwise (· < ·)
  | 0 => List.Pairwise.nil
  | k + 1 => by
    unfold turnsTo
    split
    · exact turnsTo_pair slot k
    · refine List.pairwise_append.2 ⟨turnsTo_pair slot k, by simp, fun a ha b hb => ?_⟩
      have := turnsTo_rng slot k a ha
      simp at hb
      omega
end Go.Proofs.Ytnednminpmiojaa.fd
namespace Go.Proofs.Ytnednminpmiojaa.fd
open Go.RowKit
/-- What a dooming goes over: those that live still, each in a slot of its own. -/
structure DInv (S : Sp) (l : List Vc) : Prop where
  len : S.H.length = 8
  pair : l.Pairwise (fun a b => a.slot < b.slot)
  each : ∀ v, v ∈ l → (0 ≤ v.slot ∧ v.slot < 8) ∧ live (hd S.H v.slot) = true ∧ (hd S.H v.slot).gen = v.gen
def dmd (h : Hd) : Hd := ⟨h.gen, h.state, h.stamp, h.thread, true, 7⟩
theorem DInv.step {S : Sp} {v : Vc} {l : List Vc} (h : DInv S (v :: l)) : (S.doom v.slot v.gen 7).1 = 0 ∧ (S.doom v.slot v.gen 7).2.H = S.H.set v.slot.toNat (dmd (hd S.H v.slot)) ∧ (S.doom v.slot v.gen 7).2.W = S.W ∧ DInv (S.doom v.slot v.gen 7).2 l := by
  obtain ⟨hl, hp, he⟩ := h
  obtain ⟨⟨v0, v8⟩, v1, v2⟩ := he v (by simp)
  have hp' := List.pairwise_cons.1 hp
  have hx : nth S.H v.slot = some (hd S.H v.slot) := by
    unfold nth
    rw [if_pos v0]
    unfold hd
    rw [List.getElem?_eq_getElem (by omega)]
    rfl
  simp only [live, Bool.and_eq_true, beq_iff_eq, Bool.not_eq_true'] at v1
  have e : S.doom v.slot v.gen 7 = (0, { S.acc 3 v.slot 3 true with H := S.H.set v.slot.toNat (dmd (hd S.H v.slot)) }) := by
    unfold Sp.doom
    rw [if_neg (by omega), hx]
    simp only
    rw [if_pos ⟨v1.1, v2⟩]
    have e2 : (hd S.H v.slot).doom 7 = dmd (hd S.H v.slot) := by unfold Hd.doom; rw [v1.2]; rfl
    rw [e2]
  rw [e]
  refine ⟨rfl, rfl, rfl, ⟨by simpa [Sp.acc] using hl, hp'.2, fun u hu => ?_⟩⟩
  obtain ⟨u1, u2⟩ := he u (by simp [hu])
  have hne := hp'.1 u hu
  have eq : hd (S.H.set v.slot.toNat (dmd (hd S.H v.slot))) u.slot = hd S.H u.slot := by
    unfold hd
    rw [List.getElem?_set_ne (by omega)]
  refine ⟨u1, ?_⟩
  show live (hd (S.H.set _ _) u.slot) = true ∧ (hd (S.H.set _ _) u.slot).gen = u.gen
  rw [eq]
  exact u2
theorem DInv.of {H : List Hd} {W : List Int} {s : Sg} {slot : Int} {S : Sp} (hl : S.H.length = 8) (hH : S.H = H) : DInv S (futs H W s (turnsTo slot 8)) := by
  obtain ⟨h1, h2⟩ := futs_ok H W s (turnsTo slot 8) (turnsTo_pair slot 8) (fun t ht => by have := turnsTo_rng slot 8 t ht; omega)
  refine ⟨hl, h1, fun v hv => ?_⟩
  obtain ⟨h3, h4, h5⟩ := h2 v hv
  have := turnsTo_rng slot 8 _ h3
  refine ⟨by omega, by rw [hH]; exact h5, ?_⟩
  rw [hH]
  have e := congrArg Vc.gen h4
  exact e.symm
def slC (H : List Hd) (W : List Int) : List Value := (slL H W).flatMap Sl.cells
theorem slC_doom : ∀ (H : List Hd) (W : List Int) (i : Nat) (x : Hd), W.length = 2 * H.length → H[i]? = some x →
    slC (H.set i (dmd x)) W = ((slC H W).set (i * 8 + 4) (.bool true)).set (i * 8 + 5) (.int .i64 7)
  | [], _, i, x, _, h => by simp at h
  | y :: H, a :: b :: W, 0, x, hw, h => by
    simp at h
    subst h
    rfl
  | y :: H, a :: b :: W, i + 1, x, hw, h => by
    simp at h hw
    have ih := slC_doom H W i x (by omega) h
    have e1 : (i + 1) * 8 + 4 = i * 8 + 4 + 8 := by omega
    have e2 : (i + 1) * 8 + 5 = i * 8 + 5 + 8 := by omega
    rw [e1, e2]
    show Sl.cells ⟨y, a, b⟩ ++ slC (H.set i (dmd x)) W = _
    rw [ih]
    rfl
  | y :: H, [], _, _, hw, _ => by simp at hw
  | y :: H, [a], _, _, hw, _ => by simp at hw; omega
theorem slC_len {H : List Hd} {W : List Int} (h : W.length = 2 * H.length) : (slC H W).length = H.length * 8 := by
  unfold slC
  have e := slL_len H W h
  have : ∀ L : List Sl, (L.flatMap Sl.cells).length = L.length * 8 := fun L => by
    induction L with
    | nil => rfl
    | cons x l ih => simp [Sl.cells, RowH.cells] at ih ⊢; omega
  rw [this, e]
theorem slC_get : ∀ (H : List Hd) (W : List Int) (i : Nat), W.length = 2 * H.length → i < H.length →
    (slC H W)[i * 8]? = some (.int .i64 (hd H i).gen) ∧ (slC H W)[i * 8 + 1]? = some (.int .i64 (hd H i).state) ∧ (slC H W)[i * 8 + 2]? = some (.int .i64 (hd H i).stamp) ∧ (slC H W)[i * 8 + 3]? = some (.int .i64 (hd H i).thread) ∧ (slC H W)[i * 8 + 4]? = some (.bool (hd H i).doomed) ∧ (slC H W)[i * 8 + 5]? = some (.int .i64 (hd H i).who) ∧ (slC H W)[i * 8 + 6]? = some (.int .u64 (wd W i 0)) ∧ (slC H W)[i * 8 + 7]? = some (.int .u64 (wd W i 1))
  | [], _, i, _, h => by simp at h
  | y :: H, a :: b :: W, 0, hw, h => ⟨rfl, rfl, rfl, rfl, rfl, rfl, rfl, rfl⟩
  | y :: H, a :: b :: W, i + 1, hw, h => by
    simp at h hw
    have ih := slC_get H W i (by omega) (by omega)
    have e0 : hd (y :: H) ((i + 1 : Nat) : Int) = hd H (i : Int) := by unfold hd; simp
    have e2 : ∀ j, wd (a :: b :: W) ((i + 1 : Nat) : Int) j = wd W (i : Int) j := fun j => by
      unfold wd
      have : 2 * (((i + 1 : Nat) : Int).toNat) + j = (2 * ((i : Int).toNat) + j) + 1 + 1 := by simp; omega
      rw [this]
      simp
    have e1 : ∀ j, (slC (y :: H) (a :: b :: W))[(i + 1) * 8 + j]? = (slC H W)[i * 8 + j]? := fun j => by
      have : (i + 1) * 8 + j = (i * 8 + j) + 8 := by omega
      rw [this]
      rfl
    have e1' := e1 0
    rw [Nat.add_zero, Nat.add_zero] at e1'
    rw [e1', e1, e1, e1, e1, e1, e1, e1, e0, e2, e2]
    exact ih
  | y :: H, [], _, hw, _ => by simp at hw
  | y :: H, [a], _, hw, _ => by simp at hw; omega
end Go.Proofs.Ytnednminpmiojaa.fd
