/- CommitDefers: a space and a judge between tries; the row of seats. -/
import Derived.Test.YtdhgiohjdhcedaaGreatCmAl
import Derived.Test.YtdhgiohjdhcedaaGreatCmSeats
import Derived.Test.YtdhgiohjdhcedaaGreatCmSide
namespace Go.Proofs.YtdhgiohjdhcedaaGreat.df
open Go.RowKit Pol fd al
set_option linter.unusedVariables false
set_option linter.unusedSimpArgs false
/-- The config. -/
def cD (b d : Int) : Cf := ⟨64, 8, 8, 2, b, d⟩
/-- The others. -/
def oth (n : Nat) : List ElSea13 := (List.range n).map fun (i : Nat) => ⟨true, false, i, ⟨255, 0⟩⟩
def hs (n : Nat) : List Hd := (List.range 7).map fun (i : Nat) => if i < n then ⟨1, 2, 1 + i, 2 + i, false, 0⟩ else Hd.zero
def W1 (n : Nat) : List Int := 0 :: 0 :: (List.range 7).flatMap fun (i : Nat) => if i < n then [255, 0] else [0, 0]
def C1 : List Int := List.replicate 64 0
/-- The heads with one's own. -/
def H1 (n : Nat) (h : Hd) : List Hd := h :: hs n
def lv (t : Int) : Hd := ⟨t, 2, 5, 1, false, 0⟩
def fr (t : Int) : Hd := ⟨t, 0, 0, 0, false, 0⟩
def vsN (n : Nat) : List Vc := (List.range n).map fun (i : Nat) => ⟨i + 1, 1, 1 + i, 2 + i⟩
theorem oth_len (n : Nat) : (oth n).length = n := by simp [oth]
theorem vsN_len (n : Nat) : (vsN n).length = n := by simp [vsN]
theorem laid (n : Nat) (hn : n ≤ 7) (b d : Int) : (seatsF (spL (cD b d)) (oth n) n).H = H1 n (lv 1) ∧ (seatsF (spL (cD b d)) (oth n) n).W = W1 n := by
  obtain rfl | rfl | rfl | rfl | rfl | rfl | rfl | rfl : n = 0 ∨ n = 1 ∨ n = 2 ∨ n = 3 ∨ n = 4 ∨ n = 5 ∨ n = 6 ∨ n = 7 := by omega
  all_goals exact ⟨by kernel_rfl, by kernel_rfl⟩
theorem start_gc (b d : Int) : (spL (cD b d)).gate = ⟨0, 0⟩ ∧ (spL (cD b d)).cells = C1 := ⟨by kernel_rfl, by kernel_rfl⟩
/-- The t-th try. -/
def tr (n : Nat) (b d : Int) (t : Nat) : Env := ⟨cD b d, H1 n (lv (t + 1)), W1 n, C1, [⟨1, 4⟩], 2 * t, t + 1, t⟩
theorem tr_vs (n : Nat) (hn : n ≤ 7) (b d : Int) (t : Nat) : (tr n b d t).vs = vsN n := by
  obtain rfl | rfl | rfl | rfl | rfl | rfl | rfl | rfl : n = 0 ∨ n = 1 ∨ n = 2 ∨ n = 3 ∨ n = 4 ∨ n = 5 ∨ n = 6 ∨ n = 7 := by omega
  all_goals kernel_rfl
theorem tr_ok (n : Nat) (b d : Int) (t : Nat) : (tr n b d t).Ok where
  len := by show (H1 n (lv (t + 1))).length = 8; simp [H1, hs]
  wl := by
    show (W1 n).length = 16
    unfold W1
    have : ∀ l : List Nat, (l.flatMap fun (i : Nat) => if i < n then [(255 : Int), 0] else [0, 0]).length = 2 * l.length := fun l => by
      induction l with
      | nil => rfl
      | cons x l ih => rw [List.flatMap_cons, List.length_append, ih]; split <;> simp <;> omega
    simp [this]
  own := ⟨rfl, rfl, rfl⟩
  g0 := by show (0 : Int) ≤ 2 * t; omega
  even := by show (2 * (t : Int)) % 2 = 0; omega
  ws1 := by show 1 ≤ ([⟨1, 4⟩] : List Pr).length; decide
  cells := fun p hp => by
    have : p = ⟨1, 4⟩ := by simpa [tr] using hp
    subst this
    show (0 : Int) ≤ 1 ∧ (1 : Int) < (C1.length : Int)
    simp [C1]
/-- How many deferrals. -/
def want (n : Nat) (b d : Int) : Int := if (n : Int) > b then d else 0
theorem tr_vd (n : Nat) (hn : n ≤ 7) (b d : Int) (t : Nat) : (tr n b d t).vd = if (n : Int) > b ∧ (t : Int) < d then 2 else 1 := by
  unfold Env.vd
  rw [tr_vs n hn]
  show verdict (cD b d) 5 (t : Int) (vsN n) = _
  unfold verdict
  rw [if_pos (by rfl), vsN_len]
  rfl
theorem tr_all (n : Nat) (hn : n ≤ 7) (b d : Int) (t : Nat) : 1 ≤ (tr n b d t).all ∧ (tr n b d t).all ≤ 40 := by
  have h1 := costs_le (tr n b d t).H (turnsTo 0 8)
  rw [turns8] at h1
  unfold Env.all Env.tail
  rw [tr_vs n hn, vsN_len, show (tr n b d t).ws.length = 1 from rfl, turns8]
  simp only [List.length_cons, List.length_nil] at h1
  split <;> omega
/-- A try that is deferred. -/
theorem tr_lost (n : Nat) (hn : n ≤ 7) {b d : Int} {t : Nat} (h : (t : Int) < want n b d) : (tr n b d t).lost ∧ (tr n b d t).endE = 9 ∧ decided (cD b d) 5 t (vsN n) = t + 1 := by
  have hv : (tr n b d t).vd = 2 := by
    rw [tr_vd n hn]
    unfold want at h
    split at h
    · rw [if_pos ⟨by assumption, h⟩]
    · omega
  refine ⟨.inl hv, by unfold Env.endE; rw [if_pos hv], ?_⟩
  unfold decided
  have : verdict (cD b d) 5 t (vsN n) = 2 := by
    have := hv
    unfold Env.vd at this
    rw [tr_vs n hn] at this
    exact this
  rw [if_pos this]
/-- The last one. -/
theorem tr_won (n : Nat) (hn : n ≤ 7) {b d : Int} {t : Nat} (h : (t : Int) = want n b d) (hd : 0 ≤ d) : ¬ (tr n b d t).lost ∧ (tr n b d t).endE = 0 ∧ decided (cD b d) 5 t (vsN n) = t := by
  have hv : (tr n b d t).vd = 1 := by
    rw [tr_vd n hn]
    unfold want at h
    split at h
    · rw [if_neg (by omega)]
    · rw [if_neg (by omega)]
  have hl : ¬ (tr n b d t).lost := fun e => by rcases e with e | e <;> (rw [hv] at e; cases e)
  refine ⟨hl, by unfold Env.endE; rw [if_neg (by rw [hv]; decide), if_neg (by rw [hv]; decide)], ?_⟩
  unfold decided
  have : verdict (cD b d) 5 t (vsN n) = 1 := by
    have := hv
    unfold Env.vd at this
    rw [tr_vs n hn] at this
    exact this
  rw [if_neg (by rw [this]; decide)]
/-- What the last one leaves. -/
theorem won_end (n : Nat) (hn : n ≤ 7) (b d : Int) (t : Nat) : (puts C1 [⟨1, 4⟩])[1]? = some 4 ∧ (puts C1 [⟨1, 4⟩]).length = 64 ∧ (dms (H1 n (lv (t + 1))) (vsN n)).length = 8 ∧
    ∀ i, 1 ≤ i → i ≤ n → ((dms (H1 n (lv (t + 1))) (vsN n)).set 0 (fr (t + 1)))[i]? = some ⟨1, 2, i, i + 1, true, 1⟩ := by
  refine ⟨by kernel_rfl, by kernel_rfl, by rw [dms_len]; simp [H1, hs], ?_⟩
  obtain rfl | rfl | rfl | rfl | rfl | rfl | rfl | rfl : n = 0 ∨ n = 1 ∨ n = 2 ∨ n = 3 ∨ n = 4 ∨ n = 5 ∨ n = 6 ∨ n = 7 := by omega
  all_goals
    intro i h1 h2
    obtain rfl | rfl | rfl | rfl | rfl | rfl | rfl : i = 1 ∨ i = 2 ∨ i = 3 ∨ i = 4 ∨ i = 5 ∨ i = 6 ∨ i = 7 := by omega
    all_goals first
      | omega
      | kernel_rfl
end Go.Proofs.YtdhgiohjdhcedaaGreat.df

namespace Go.Proofs.YtdhgiohjdhcedaaGreat.df
open Go.RowKit Pol fd al
set_option linter.unusedVariables false
set_option linter.unusedSimpArgs false
structure Bt (wb w : World) (z : Sb) (jb k : Nat) (S : Sp) (c : Cf) (d : Int) : Prop where
  ex : ∃ F, SP wb w z F S ∧ JAt w jb c d
  jl : wb.heap.size ≤ jb
  fit : Fit k S
  wu : S.wu
  cc : S.c = c
section
variable {wb w w' : World} {z : Sb} {jb cb n k : Nat} {S : Sp} {c : Cf} {d : Int} {x : Cm} {X : List Nat}
theorem Bt.of_cm (h : CmS wb w z jb cb n k S c d x X) : Bt wb w z jb k S c d := by
  obtain ⟨F, H, dp, ht, _⟩ := h.ex
  exact ⟨⟨F, ht.sp, ht.j⟩, ht.jlow, h.fit, h.wu, h.cc⟩
theorem Bt.calm (h : Bt wb w z jb k S c d) (hk : Keeps [] w w') : Bt wb w' z jb k S c d := by
  obtain ⟨F, h1, h2⟩ := h.ex
  exact ⟨⟨F, h1.calm hk, Blk.keeps h2 hk (by simp)⟩, h.jl, h.fit, h.wu, h.cc⟩
theorem Bt.wide (h : Bt wb w z jb k S c d) {j : Nat} (hj : k ≤ j) : Bt wb w z jb j S c d := ⟨h.ex, h.jl, h.fit.wide hj, h.wu, h.cc⟩
theorem Bt.keep (h : Bt wb w z jb k S c d) : Keeps [] wb w := by
  obtain ⟨F, h1, h2⟩ := h.ex
  exact h1.keep
theorem Bt.slots (h : Bt wb w z jb k S c d) : Calls Tryz.prog 19 #[PT z.p] w fun e w' => e = .returned (PT z.t.q) ∧ w = w' := by
  obtain ⟨F, h1, h2⟩ := h.ex
  exact sp_slots h1
theorem Bt.claim (h : Bt wb w z jb k S c d) (hk : k ≤ 1099511627776) (i t : Int) : Calls Tryz.prog 22 #[PT z.t.q, .int .i64 i, .int .i64 t] w fun e w' => e = .returned (.tuple #[.int .i64 (S.claim i t).1.1, .int .i64 (S.claim i t).1.2]) ∧ Bt wb w' z jb (k + 1) (S.claim i t).2 c d := by
  obtain ⟨F, h1, h2⟩ := h.ex
  exact (sp_claim h1 h.fit hk i t).mono fun e w' ⟨he, F', h5, h6, _⟩ => ⟨he, ⟨F', h5, Blk.keeps h2 h6 (h1.out h2 (by decide))⟩, h.jl, h.fit.claim i t, Sp.wu_of h.wu (S.claim_W i t).1, (S.claim_W i t).2.trans h.cc⟩
theorem Bt.ready (h : Bt wb w z jb k S c d) (hk : k ≤ 1099511627776) (i g t : Int) : Calls Tryz.prog 23 #[PT z.t.q, .int .i64 i, .int .i64 g, .int .i64 t] w fun e w' => e = .returned (.int .i64 (S.ready i g t).1) ∧ Bt wb w' z jb (k + 1) (S.ready i g t).2 c d := by
  obtain ⟨F, h1, h2⟩ := h.ex
  exact (sp_ready h1 h.fit hk i g t).mono fun e w' ⟨he, F', h5, h6, _⟩ => ⟨he, ⟨F', h5, Blk.keeps h2 h6 (h1.out h2 (by decide))⟩, h.jl, h.fit.ready i g t, Sp.wu_of h.wu (S.ready_W i g t).1, (S.ready_W i g t).2.trans h.cc⟩
/-- A commit is made, its writes lie in a row of their own. -/
theorem Bt.new_ (h : Bt wb w z jb k S c d) (hn : S.H.length = n) (h0 : 0 ≤ d) (h1 : d ≤ 64) (sl ge th st : Int) (A : Option Addr) (cap : Nat) (ws : List Pr) (hw : SlR w 67 2 (.slice A ws.length cap) ws.length (prCells ws)) (he : mayE c sl th st ws = 0) :
    Calls Tryz.prog 25 #[PT z.p, PT jb, .agg #[.int .i64 sl, .int .i64 ge, .int .i64 th, .int .i64 st, .slice A ws.length cap]] w fun e w' => ∃ cb, e = .returned (.tuple #[PT cb, .int .i64 0]) ∧ CmS wb w' z jb cb n k S c d (Cm.new sl ge th st ws) [] := by
  obtain ⟨F, g1, g2⟩ := h.ex
  exact (cm_new g1 h.fit sl ge th st A cap ws hw (by rw [h.cc]; exact he)).mono fun e w' ⟨cb, H, e1, e2, e3, e4⟩ => ⟨cb, e1, CmS.new g1 g2 h.jl h.fit h.wu h.cc hn h0 h1 he e4 e2 e3 (fun q hq => by simp at hq)⟩
theorem Bt.view (h : Bt wb w z jb k S c d) (hn : S.H.length = n) : Calls Tryz.prog 24 #[PT z.p] w fun e w' => ∃ a1 c1 a2 c2, e = .returned (.agg #[.slice (some ⟨a1, 0, none⟩) S.cells.length c1, .int .i64 S.gate.number, .int .i64 S.gate.owner, .slice (some ⟨a2, 0, none⟩) n c2]) ∧ OwnC w' a1 c1 S.cells ∧ OwnS w' a2 c2 n (slL S.H S.W) ∧ w.heap.size ≤ a1 ∧ w.heap.size ≤ a2 ∧ Keeps [] w w' := by
  obtain ⟨F, g1, g2⟩ := h.ex
  have := sp_view g1 h.fit
  rw [hn] at this
  exact this
end
/-- The cells of seats. -/
def seaCells (l : List ElSea13) : List Value := l.flatMap ElSea13.cells
theorem seaCells_at : ∀ (l : List ElSea13) (i : Nat) (p : ElSea13), l[i]? = some p → (seaCells l)[i * 5]? = some (.bool p.live) ∧ (seaCells l)[i * 5 + 1]? = some (.bool p.doomed) ∧ (seaCells l)[i * 5 + 2]? = some (.int .i64 p.stamp) ∧ (seaCells l)[i * 5 + 3]? = some (.int .u64 (p.words.a : Int)) ∧ (seaCells l)[i * 5 + 4]? = some (.int .u64 (p.words.b : Int))
  | [], i, p, h => by simp at h
  | x :: l, 0, p, h => by simp at h; subst h; exact ⟨rfl, rfl, rfl, rfl, rfl⟩
  | x :: l, i + 1, p, h => by
    have ih := seaCells_at l i p (by simpa using h)
    have e : ∀ j, (seaCells (x :: l))[(i + 1) * 5 + j]? = (seaCells l)[i * 5 + j]? := fun j => by
      rw [show (i + 1) * 5 + j = (i * 5 + j) + 5 from by omega]
      rfl
    have e0 := e 0
    rw [Nat.add_zero, Nat.add_zero] at e0
    rw [e0, e, e, e, e]
    exact ih
theorem lst_of_own {w : World} {base n cap : Nat} {A : Option Addr} (hn : n ≤ 7) (h : w.ownsRow base 79 5 (.slice A n cap) n (seaCells (oth n))) : LstSea13 w A n cap (oth n) := by
  obtain ⟨_, A', c', e, hc, hm, hA, hx⟩ := SlR.of_own h
  injection e with e1 _ e3
  subst e1 e3
  refine ⟨oth_len n, hc, hm, fun h0 => ?_⟩
  obtain ⟨b, off, rfl, hcell⟩ := hx h0
  refine ⟨b, off, rfl, tyOf_lt (hA _ rfl), fun i p hp => ?_⟩
  obtain ⟨g0, g1, g2, g3, g4⟩ := seaCells_at _ i p hp
  have hi : i < n := by have := (List.getElem?_eq_some_iff.1 hp).1; rw [oth_len] at this; exact this
  have hpe : p = ⟨true, false, i, ⟨255, 0⟩⟩ := by
    unfold oth at hp
    rw [List.getElem?_map, List.getElem?_range hi] at hp
    simpa using hp.symm
  refine ⟨hcell _ _ g0, hcell _ _ g1, hcell _ _ g2, hcell _ _ g3, hcell _ _ g4, ?_, ?_⟩
  · subst hpe; exact WalkArith.wf_i64 (by show _ ∧ _; constructor <;> simp <;> omega)
  · subst hpe; exact ⟨by show (255 : Nat) < _; decide, by show (0 : Nat) < _; decide⟩
end Go.Proofs.YtdhgiohjdhcedaaGreat.df
