/- The document's table: what it holds. -/
import Derived.Test.YtdhgiohjdhcedaaGreatSlotsRaw
import Derived.Test.YtdhgiohjdhcedaaGreatRefMeter
namespace Go.Proofs.YtdhgiohjdhcedaaGreat
open Go.RowKit
set_option linter.unusedVariables false
theorem slc_set6 (l : List Sl) (i : Nat) (s : Sl) (hs : l[i]? = some s) (y : Hd) : ((((((l.flatMap Sl.cells).set (i * 8) (.int .i64 y.gen)).set (i * 8 + 1) (.int .i64 y.state)).set (i * 8 + 2) (.int .i64 y.stamp)).set (i * 8 + 3) (.int .i64 y.thread)).set (i * 8 + 4) (.bool y.doomed)).set (i * 8 + 5) (.int .i64 y.who) = (l.set i ⟨y, s.a, s.b⟩).flatMap Sl.cells := by
  induction l generalizing i with
  | nil => simp at hs
  | cons z l ih =>
    cases i with
    | zero => simp at hs; subst hs; simp [Sl.cells, RowH.cells]
    | succ i =>
      have e : (i + 1) * 8 = i * 8 + 1 + 1 + 1 + 1 + 1 + 1 + 1 + 1 := by omega
      rw [e]
      simp only [List.flatMap_cons, Sl.cells, RowH.cells, List.cons_append, List.nil_append, List.set_cons_succ]
      have h := ih i (by simpa using hs)
      rw [← h]
theorem slc_set8 (l : List Sl) (i : Nat) (s : Sl) : ((((((((l.flatMap Sl.cells).set (i * 8) (.int .i64 s.h.gen)).set (i * 8 + 1) (.int .i64 s.h.state)).set (i * 8 + 2) (.int .i64 s.h.stamp)).set (i * 8 + 3) (.int .i64 s.h.thread)).set (i * 8 + 4) (.bool s.h.doomed)).set (i * 8 + 5) (.int .i64 s.h.who)).set (i * 8 + 6) (.int .u64 s.a)).set (i * 8 + 7) (.int .u64 s.b) = (l.set i s).flatMap Sl.cells := by
  induction l generalizing i with
  | nil => simp
  | cons z l ih =>
    cases i with
    | zero => simp [Sl.cells, RowH.cells]
    | succ i =>
      have e : (i + 1) * 8 = i * 8 + 1 + 1 + 1 + 1 + 1 + 1 + 1 + 1 := by omega
      rw [e]
      simp only [List.flatMap_cons, Sl.cells, RowH.cells, List.cons_append, List.nil_append, List.set_cons_succ]
      have h := ih i
      rw [← h]
theorem slL_set_head : ∀ (H : List Hd) (W : List Int) (k : Nat) (x y : Hd) (a b : Int), W.length = 2 * H.length → H[k]? = some x → W[2 * k]? = some a → W[2 * k + 1]? = some b → slL (H.set k y) W = (slL H W).set k ⟨y, a, b⟩
  | [], _, k, _, _, _, _, _, h, _, _ => by simp at h
  | z :: H, [], k, _, _, _, _, e, _, _, _ => by simp at e
  | z :: H, [c], k, _, _, _, _, e, _, _, _ => by simp at e; omega
  | z :: H, c :: d :: W, 0, x, y, a, b, e, h, h1, h2 => by simp at h h1 h2; subst h1 h2; rfl
  | z :: H, c :: d :: W, k + 1, x, y, a, b, e, h, h1, h2 => by
    have e1 : 2 * (k + 1) = 2 * k + 1 + 1 := by omega
    rw [e1] at h1 h2
    simp at h h1 h2
    have e2 : W.length = 2 * H.length := by simp at e; omega
    simp [slL, slL_set_head H W k x y a b e2 h h1 h2]
theorem slL_set_word0 : ∀ (H : List Hd) (W : List Int) (k : Nat) (x : Hd) (a b v : Int), W.length = 2 * H.length → H[k]? = some x → W[2 * k]? = some a → W[2 * k + 1]? = some b → slL H (W.set (2 * k) v) = (slL H W).set k ⟨x, v, b⟩
  | [], _, k, _, _, _, _, _, h, _, _ => by simp at h
  | z :: H, [], k, _, _, _, _, e, _, _, _ => by simp at e
  | z :: H, [c], k, _, _, _, _, e, _, _, _ => by simp at e; omega
  | z :: H, c :: d :: W, 0, x, a, b, v, e, h, h1, h2 => by simp at h h1 h2; subst h h1 h2; rfl
  | z :: H, c :: d :: W, k + 1, x, a, b, v, e, h, h1, h2 => by
    have e1 : 2 * (k + 1) = 2 * k + 1 + 1 := by omega
    rw [e1] at h1 h2 ⊢
    simp at h h1 h2
    have e2 : W.length = 2 * H.length := by simp at e; omega
    simp [slL, slL_set_word0 H W k x a b v e2 h h1 h2]
theorem slL_set_word1 : ∀ (H : List Hd) (W : List Int) (k : Nat) (x : Hd) (a b v : Int), W.length = 2 * H.length → H[k]? = some x → W[2 * k]? = some a → W[2 * k + 1]? = some b → slL H (W.set (2 * k + 1) v) = (slL H W).set k ⟨x, a, v⟩
  | [], _, k, _, _, _, _, _, h, _, _ => by simp at h
  | z :: H, [], k, _, _, _, _, e, _, _, _ => by simp at e
  | z :: H, [c], k, _, _, _, _, e, _, _, _ => by simp at e; omega
  | z :: H, c :: d :: W, 0, x, a, b, v, e, h, h1, h2 => by simp at h h1 h2; subst h h1 h2; rfl
  | z :: H, c :: d :: W, k + 1, x, a, b, v, e, h, h1, h2 => by
    have e1 : 2 * (k + 1) = 2 * k + 1 + 1 := by omega
    rw [e1] at h1 h2 ⊢
    simp at h h1 h2
    have e2 : W.length = 2 * H.length := by simp at e; omega
    simp [slL, slL_set_word1 H W k x a b v e2 h h1 h2]
/-- The document's table in block z, of its meter in block gx, its slots in block d. -/
structure RT (w : World) (z gx d : Nat) (H : List Hd) (W : List Int) : Prop where
  blk : Blk w z 259 #[.pointer (some ⟨gx, 0, none⟩), .slice (some ⟨d, 0, none⟩) H.length H.length]
  row : Blk w d 60 ((slL H W).flatMap Sl.cells).toArray
  len : W.length = 2 * H.length
  n1 : 1 ≤ H.length
  n8 : H.length ≤ 8
section
variable {w w1 w2 : World} {z gx d : Nat} {H H' : List Hd} {W W' : List Int} {k : Nat} {x : Hd} {lb : Nat} {s s' : MS}
theorem RT.keeps (h : RT w z gx d H W) {S : List Nat} (hk : Keeps S w w1) (h1 : z ∉ S) (h2 : d ∉ S) : RT w1 z gx d H W := ⟨h.blk.keeps hk h1, h.row.keeps hk h2, h.len, h.n1, h.n8⟩
theorem RT.zd (h : RT w z gx d H W) : z ≠ d := h.blk.ne_ h.row (by decide)
theorem RT.two (h : RT w z gx d H W) (hx : H[k]? = some x) : ∃ a b, W[2 * k]? = some a ∧ W[2 * k + 1]? = some b ∧ (slL H W)[k]? = some ⟨x, a, b⟩ := by
  have hk := (List.getElem?_eq_some_iff.1 hx).1
  have hl := h.len
  obtain ⟨a, ha⟩ : ∃ a, W[2 * k]? = some a := ⟨_, List.getElem?_eq_getElem (by omega)⟩
  obtain ⟨b, hb⟩ : ∃ a, W[2 * k + 1]? = some a := ⟨_, List.getElem?_eq_getElem (by omega)⟩
  exact ⟨a, b, ha, hb, slL_get H W k x a b hx ha hb⟩
theorem RT.at_ (h : RT w z gx d H W) {y : Sl} (hy : (slL H W)[k]? = some y) : ∀ j v, y.cells[j]? = some v → w.cell? ⟨d, k * 8 + j, none⟩ = some v := fun j v hv => (h.row.cell (k * 8 + j)).trans (by simpa using sl_get (slL H W) k y hy j v hv)
theorem RT.cells (h : RT w z gx d H W) (hx : H[k]? = some x) : w.cell? ⟨d, k * 8, none⟩ = some (.int .i64 x.gen) ∧ w.cell? ⟨d, k * 8 + 1, none⟩ = some (.int .i64 x.state) ∧ w.cell? ⟨d, k * 8 + 2, none⟩ = some (.int .i64 x.stamp) ∧ w.cell? ⟨d, k * 8 + 3, none⟩ = some (.int .i64 x.thread) ∧ w.cell? ⟨d, k * 8 + 4, none⟩ = some (.bool x.doomed) ∧ w.cell? ⟨d, k * 8 + 5, none⟩ = some (.int .i64 x.who) := by
  obtain ⟨a, b, _, _, hy⟩ := h.two hx
  exact ⟨h.at_ hy 0 _ rfl, h.at_ hy 1 _ rfl, h.at_ hy 2 _ rfl, h.at_ hy 3 _ rfl, h.at_ hy 4 _ rfl, h.at_ hy 5 _ rfl⟩
theorem RT.foot (h : RT w z gx d H W) {mp : Option Nat} (hm : MetAt XT w mp lb s) : z ∉ Go.Proofs.YtdhgiohjdhcedaaGreat.foot mp lb ∧ d ∉ Go.Proofs.YtdhgiohjdhcedaaGreat.foot mp lb := ⟨Go.Proofs.YtdhgiohjdhcedaaGreat.apart hm h.blk (by decide) (by decide), Go.Proofs.YtdhgiohjdhcedaaGreat.apart hm h.row (by decide) (by decide)⟩
theorem RT.noted (h : RT w z gx d H W) (hm : MetAt XT w (some gx) lb s) (hn : Noted XT (some gx) lb s' w w1) : RT w1 z gx d H W := by
  have ha := h.foot hm
  obtain ⟨_, _, hk, _⟩ := hn
  exact h.keeps hk ha.1 ha.2
theorem RT.put_head (h : RT w z gx d H W) (hx : H[k]? = some x) (y : Hd) : RT ((((((w.setCell ⟨d, k * 8, none⟩ (.int .i64 y.gen)).setCell ⟨d, k * 8 + 1, none⟩ (.int .i64 y.state)).setCell ⟨d, k * 8 + 2, none⟩ (.int .i64 y.stamp)).setCell ⟨d, k * 8 + 3, none⟩ (.int .i64 y.thread)).setCell ⟨d, k * 8 + 4, none⟩ (.bool y.doomed)).setCell ⟨d, k * 8 + 5, none⟩ (.int .i64 y.who)) z gx d (H.set k y) W := by
  obtain ⟨a, b, ha, hb, hy⟩ := h.two hx
  have hkz : Keeps [d] w ((((((w.setCell ⟨d, k * 8, none⟩ (.int .i64 y.gen)).setCell ⟨d, k * 8 + 1, none⟩ (.int .i64 y.state)).setCell ⟨d, k * 8 + 2, none⟩ (.int .i64 y.stamp)).setCell ⟨d, k * 8 + 3, none⟩ (.int .i64 y.thread)).setCell ⟨d, k * 8 + 4, none⟩ (.bool y.doomed)).setCell ⟨d, k * 8 + 5, none⟩ (.int .i64 y.who)) := ((((((Keeps.refl _ _).setCell (.inl (by simp)) _).setCell (.inl (by simp)) _).setCell (.inl (by simp)) _).setCell (.inl (by simp)) _).setCell (.inl (by simp)) _).setCell (.inl (by simp)) _
  refine ⟨?_, ?_, by simpa using h.len, by simpa using h.n1, by simpa using h.n8⟩
  · have := h.blk.keeps hkz (by simpa using h.zd)
    simpa using this
  · have e : (((((((slL H W).flatMap Sl.cells).toArray.setIfInBounds (k * 8) (.int .i64 y.gen)).setIfInBounds (k * 8 + 1) (.int .i64 y.state)).setIfInBounds (k * 8 + 2) (.int .i64 y.stamp)).setIfInBounds (k * 8 + 3) (.int .i64 y.thread)).setIfInBounds (k * 8 + 4) (.bool y.doomed)).setIfInBounds (k * 8 + 5) (.int .i64 y.who) = ((slL (H.set k y) W).flatMap Sl.cells).toArray := by
      rw [slL_set_head H W k x y a b h.len hx ha hb, ← slc_set6 (slL H W) k _ hy y]; simp
    refine (congrArg (Blk _ d 60) e).mp ?_
    exact (((((h.row.set_ (k * 8) (.int .i64 y.gen)).set_ (k * 8 + 1) (.int .i64 y.state)).set_ (k * 8 + 2) (.int .i64 y.stamp)).set_ (k * 8 + 3) (.int .i64 y.thread)).set_ (k * 8 + 4) (.bool y.doomed)).set_ (k * 8 + 5) (.int .i64 y.who)
theorem RT.put_slot (h : RT w z gx d H W) (y : Sl) (hL : slL H W' = (slL H W).set k y) (hl : W'.length = W.length) : RT ((((((((w.setCell ⟨d, k * 8, none⟩ (.int .i64 y.h.gen)).setCell ⟨d, k * 8 + 1, none⟩ (.int .i64 y.h.state)).setCell ⟨d, k * 8 + 2, none⟩ (.int .i64 y.h.stamp)).setCell ⟨d, k * 8 + 3, none⟩ (.int .i64 y.h.thread)).setCell ⟨d, k * 8 + 4, none⟩ (.bool y.h.doomed)).setCell ⟨d, k * 8 + 5, none⟩ (.int .i64 y.h.who)).setCell ⟨d, k * 8 + 6, none⟩ (.int .u64 y.a)).setCell ⟨d, k * 8 + 7, none⟩ (.int .u64 y.b)) z gx d H W' := by
  have hkz : Keeps [d] w ((((((((w.setCell ⟨d, k * 8, none⟩ (.int .i64 y.h.gen)).setCell ⟨d, k * 8 + 1, none⟩ (.int .i64 y.h.state)).setCell ⟨d, k * 8 + 2, none⟩ (.int .i64 y.h.stamp)).setCell ⟨d, k * 8 + 3, none⟩ (.int .i64 y.h.thread)).setCell ⟨d, k * 8 + 4, none⟩ (.bool y.h.doomed)).setCell ⟨d, k * 8 + 5, none⟩ (.int .i64 y.h.who)).setCell ⟨d, k * 8 + 6, none⟩ (.int .u64 y.a)).setCell ⟨d, k * 8 + 7, none⟩ (.int .u64 y.b)) := ((((((((Keeps.refl _ _).setCell (.inl (by simp)) _).setCell (.inl (by simp)) _).setCell (.inl (by simp)) _).setCell (.inl (by simp)) _).setCell (.inl (by simp)) _).setCell (.inl (by simp)) _).setCell (.inl (by simp)) _).setCell (.inl (by simp)) _
  refine ⟨?_, ?_, by rw [hl]; exact h.len, h.n1, h.n8⟩
  · have := h.blk.keeps hkz (by simpa using h.zd)
    simpa using this
  · have e : (((((((((slL H W).flatMap Sl.cells).toArray.setIfInBounds (k * 8) (.int .i64 y.h.gen)).setIfInBounds (k * 8 + 1) (.int .i64 y.h.state)).setIfInBounds (k * 8 + 2) (.int .i64 y.h.stamp)).setIfInBounds (k * 8 + 3) (.int .i64 y.h.thread)).setIfInBounds (k * 8 + 4) (.bool y.h.doomed)).setIfInBounds (k * 8 + 5) (.int .i64 y.h.who)).setIfInBounds (k * 8 + 6) (.int .u64 y.a)).setIfInBounds (k * 8 + 7) (.int .u64 y.b) = ((slL H W').flatMap Sl.cells).toArray := by
      rw [hL, ← slc_set8 (slL H W) k y]; simp
    refine (congrArg (Blk _ d 60) e).mp ?_
    exact (((((((h.row.set_ (k * 8) (.int .i64 y.h.gen)).set_ (k * 8 + 1) (.int .i64 y.h.state)).set_ (k * 8 + 2) (.int .i64 y.h.stamp)).set_ (k * 8 + 3) (.int .i64 y.h.thread)).set_ (k * 8 + 4) (.bool y.h.doomed)).set_ (k * 8 + 5) (.int .i64 y.h.who)).set_ (k * 8 + 6) (.int .u64 y.a)).set_ (k * 8 + 7) (.int .u64 y.b)
/-- What a call leaves. -/
def RTLeft (z gx d : Nat) (H : List Hd) (W : List Int) (lb : Nat) (s : MS) (w w' : World) : Prop := RT w' z gx d H W ∧ ∃ lb', MetAt XT w' (some gx) lb' s ∧ Keeps (d :: Go.Proofs.YtdhgiohjdhcedaaGreat.foot (some gx) lb) w w' ∧ (lb' = lb ∨ w.heap.size ≤ lb')
/-- A note, then stores into the slots and into blocks made since. -/
theorem RT.left (h : RT w z gx d H W) (hm : MetAt XT w (some gx) lb s) {wa : World} (hk : Keeps [] w wa) (hn : Noted XT (some gx) lb s' wa w1) (h2 : RT w2 z gx d H' W') {S : List Nat} (hS : ∀ q, q ∈ S → q = d ∨ w.heap.size ≤ q ∧ (q < wa.heap.size ∨ w1.heap.size ≤ q)) (hk2 : Keeps S w1 w2) : RTLeft z gx d H' W' lb s' w w2 := by
  have hfz := h.foot hm
  have hdl := h.row.lt
  obtain ⟨lb', m1, hk1, hat⟩ := hn
  have hz := hk.size
  have hz1 := hk1.size
  have hg := foot_lt hm (k := gx) (by simp [Go.Proofs.YtdhgiohjdhcedaaGreat.foot])
  have hl := foot_lt hm (k := lb) (by simp [Go.Proofs.YtdhgiohjdhcedaaGreat.foot])
  have hl' := foot_lt m1 (k := lb') (by simp [Go.Proofs.YtdhgiohjdhcedaaGreat.foot])
  have hd1 : d ≠ gx ∧ d ≠ lb := by have := hfz.2; simp [Go.Proofs.YtdhgiohjdhcedaaGreat.foot] at this; omega
  refine ⟨h2, lb', m1.keeps hk2 (fun q hq hq2 => ?_), ((hk.mono (T := d :: Go.Proofs.YtdhgiohjdhcedaaGreat.foot (some gx) lb) (by simp)).trans hk1 (fun q hq => .inl (List.mem_cons_of_mem _ hq))).trans hk2 (fun q hq => ?_), by omega⟩
  · have := hS q hq2
    simp only [Go.Proofs.YtdhgiohjdhcedaaGreat.foot, List.mem_cons, List.not_mem_nil, or_false] at hq
    omega
  · rcases hS q hq with rfl | h3
    · exact .inl (by simp)
    · exact .inr h3.1
theorem RTLeft.rest (h : RT w z gx d H W) (hm : MetAt XT w (some gx) lb s) (hk : Keeps [] w w1) : RTLeft z gx d H W lb s w w1 := ⟨h.keeps hk (by simp) (by simp), lb, hm.keeps hk (by simp), hk.mono (by simp), .inl rfl⟩
end
end Go.Proofs.YtdhgiohjdhcedaaGreat
