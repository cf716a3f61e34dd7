/- ReadPublishes: reads one behind another, with blocks and a row of the law's own beside. -/
import Derived.Test.YtelljfhhjapgnaaWaitsB
import Derived.Test.YtelljfhhjapgnaaAloneB
namespace Go.Proofs.Ytelljfhhjapgnaa
open Go.RowKit
set_option linter.unusedVariables false
set_option linter.unusedSimpArgs false
/-- Has b all bits of a? -/
def Sub (a b : Sg) : Prop := b.a ||| a.a = b.a ∧ b.b ||| a.b = b.b
theorem orsub_trans {a b c : Nat} (h1 : b ||| a = b) (h2 : c ||| b = c) : c ||| a = c := by
  rw [← h2, Nat.or_assoc, h1]
theorem orsub_mono {s t : Nat} (p : Nat) (h : t ||| s = t) : (t ||| p) ||| (s ||| p) = t ||| p := by
  rw [show (t ||| p) ||| (s ||| p) = (t ||| s) ||| (p ||| p) by ac_rfl, h, Nat.or_self]
theorem orsub_left (s p : Nat) : (s ||| p) ||| s = s ||| p := by
  rw [show (s ||| p) ||| s = (s ||| s) ||| p by ac_rfl, Nat.or_self]
theorem Sub.refl (a : Sg) : Sub a a := ⟨Nat.or_self _, Nat.or_self _⟩
theorem Sub.trans {a b c : Sg} (h1 : Sub a b) (h2 : Sub b c) : Sub a c := ⟨orsub_trans h1.1 h2.1, orsub_trans h1.2 h2.2⟩
theorem Sub.zero (a : Sg) : Sub ⟨0, 0⟩ a := ⟨Nat.or_zero _, Nat.or_zero _⟩
theorem Sub.left (a b : Sg) : Sub a (a.join b) := ⟨orsub_left _ _, orsub_left _ _⟩
theorem Sub.right (a b : Sg) : Sub b (a.join b) := by
  refine ⟨?_, ?_⟩
  · show (a.a ||| b.a) ||| b.a = a.a ||| b.a
    rw [Nat.or_assoc, Nat.or_self]
  · show (a.b ||| b.b) ||| b.b = a.b ||| b.b
    rw [Nat.or_assoc, Nat.or_self]
theorem Sub.join {a b c : Sg} (h1 : Sub a c) (h2 : Sub b c) : Sub (a.join b) c := by
  refine ⟨?_, ?_⟩
  · show c.a ||| (a.a ||| b.a) = c.a
    rw [← Nat.or_assoc, h1.1, h2.1]
  · show c.b ||| (a.b ||| b.b) = c.b
    rw [← Nat.or_assoc, h1.2, h2.2]
theorem Sub.none {a b : Sg} (ha : a.ok) (hb : b.ok) (h : Sub a b) : (a.minus b).none = true := by
  have h1 := (minusN_zero b.a a.a hb.1 ha.1).2 h.1
  have h2 := (minusN_zero b.b a.b hb.2 ha.2).2 h.2
  unfold Sg.none Sg.minus
  simp only [h1, h2]
  decide
theorem Sub.set (s : Sg) (k : Nat) : Sub s (s.set k) := by
  unfold Sg.set
  split
  · exact ⟨orsub_left _ _, Nat.or_self _⟩
  · exact ⟨Nat.or_self _, orsub_left _ _⟩
theorem Sub.sets {s t : Sg} (h : Sub s t) (k : Nat) : Sub (s.set k) (t.set k) := by
  unfold Sg.set
  split
  · exact ⟨orsub_mono _ h.1, h.2⟩
  · exact ⟨h.1, orsub_mono _ h.2⟩
theorem Sub.of (n : Int) (B : List Int) (c : Int) : Sub (ofL n B) (ofL n (B ++ [c])) := by
  rw [ofL_snoc]
  exact (Sub.set _ _).trans (Sub.set _ _)
theorem Sub.own (n : Int) (B : List Int) (c : Int) : Sub (ownSg n c) (ofL n (B ++ [c])) := by
  rw [ofL_snoc]
  exact ((Sub.zero (ofL n B)).sets _).sets _
/-- A reader of one slot that has begun B. -/
structure PS (n : Int) (B : List Int) (S : Sp) (x : Rd) : Prop where
  i : RI x
  H : ∃ h, S.H = [h]
  W : S.W = [(x.f.sig.a : Int), (x.f.sig.b : Int)]
  slot : x.f.slot = 0
  c0 : 0 ≤ x.cell
  c1 : x.cell < S.cells.length
  own : Sub (ownSg n x.cell) x.both
  all : Sub x.both (ofL n B)
  pub : Sub x.f.sig (ofL n B)
section
variable {n : Int} {B : List Int} {S : Sp} {x : Rd}
theorem PS.put_W (a : PS n B S x) {w : Int} (hw : w = 0 ∨ w = 1) (u : Nat) : (S.put 0 w u).2.W = [((x.f.sig.with_ w u).a : Int), ((x.f.sig.with_ w u).b : Int)] := by
  obtain ⟨h, hH⟩ := a.H
  rcases hw with rfl | rfl
  · have : wnth S 0 0 = some (x.f.sig.a : Int) := by unfold wnth; rw [hH, a.W]; rfl
    unfold Sp.put
    rw [this]
    simp [a.W, Sg.with_, Sp.acc]
  · have : wnth S 0 1 = some (x.f.sig.b : Int) := by unfold wnth; rw [hH, a.W]; rfl
    unfold Sp.put
    rw [this]
    simp [a.W, Sg.with_, Sp.acc]
theorem with_sub {s b : Sg} {t : Sg} (h1 : Sub s t) (h2 : Sub b t) (w : Int) : Sub (s.with_ w (b.wd w)) t := by
  unfold Sg.with_ Sg.wd
  split
  · exact ⟨h2.1, h1.2⟩
  · exact ⟨h1.1, h2.2⟩
theorem PS.ws (a : PS n B S x) : WS S x := by
  obtain ⟨h, hH⟩ := a.H
  exact ⟨a.i, by rw [hH]; rfl, by rw [a.W]; rfl, a.slot, a.c0, a.c1⟩
theorem PS.step (a : PS n B S x) : PS n B (x.step S).2.2 (x.step S).2.1 := by
  obtain ⟨s1, s2, s3, s4⟩ := a.i.sp S
  obtain ⟨r1, r2, r3, r4⟩ := a.i.same S
  have key : (x.step S).2.2.W = [((x.step S).2.1.f.sig.a : Int), ((x.step S).2.1.f.sig.b : Int)] ∧ Sub (x.step S).2.1.f.sig (ofL n B) := by
    cases ho : x.over with
    | true => rw [Rd.step_fin ho]; exact ⟨a.W, a.pub⟩
    | false =>
      rcases a.i.ways ho with ⟨hn, w, l, hw⟩ | ⟨hn, hw⟩ | ⟨hn, hw⟩ | ⟨hn, hw⟩
      · rw [Rd.step_pub ho hn hw, a.slot]
        exact ⟨a.put_W (a.i.ok.words w (by rw [hw]; simp)) _, with_sub a.pub a.all _⟩
      · rw [Rd.step_load ho hn]
        have : (S.load x.cell).2.W = S.W := by unfold Sp.load; split <;> rfl
        exact ⟨this.trans a.W, a.pub⟩
      · rw [Rd.step_gate ho hn]
        have e : (x.gate S.gate.number).f.sig = x.f.sig := by unfold Rd.gate; split; rfl; split <;> rfl
        simp only [e]
        exact ⟨a.W, a.pub⟩
      · rw [Rd.step_head ho hn]
        have e : (x.head (S.look x.f.slot).1.1).f.sig = x.f.sig := by unfold Rd.head; split <;> rfl
        have : (S.look x.f.slot).2.W = S.W := by unfold Sp.look; split <;> rfl
        simp only [e]
        exact ⟨this.trans a.W, a.pub⟩
  exact ⟨a.i.step S, by rw [s4]; exact a.H, key.1, r2.trans a.slot, by rw [r1]; exact a.c0, by rw [r1, s3]; exact a.c1, by rw [r1, r4]; exact a.own, by rw [r4]; exact a.all, key.2⟩
/-- One access; a load's own bits are published. -/
theorem PS.one (a : PS n B S x) (ho : x.over = false) : ∃ kd p o b, (x.step S).2.2.met = S.met.note kd p o b ∧ (kd = 1 → Sub (ownSg n x.cell) (x.step S).2.1.f.sig) := by
  obtain ⟨kd, p, o, b, h1, _⟩ := a.ws.one ho
  refine ⟨kd, p, o, b, h1, fun hk => ?_⟩
  subst hk
  rcases a.i.ways ho with ⟨hn, w, l, hw⟩ | ⟨hn, hw⟩ | ⟨hn, hw⟩ | ⟨hn, hw⟩
  · exfalso
    rw [Rd.step_pub ho hn hw, a.slot] at h1
    have hw01 := a.i.ok.words w (by rw [hw]; simp)
    obtain ⟨h, hH⟩ := a.H
    obtain ⟨y, hy⟩ : ∃ y, wnth S 0 w = some y := by
      rcases hw01 with rfl | rfl
      · exact ⟨x.f.sig.a, by unfold wnth; rw [hH, a.W]; rfl⟩
      · exact ⟨x.f.sig.b, by unfold wnth; rw [hH, a.W]; rfl⟩
    have h2 : (S.put 0 w (x.both.wd w : Nat)).2.met = S.met.note 4 (2 * 0 + w) 2 true := by unfold Sp.put; rw [hy]; rfl
    have h3 := h2.symm.trans h1
    have h4 := congrArg MS.log h3
    unfold MS.note at h4
    simp at h4
  · rw [Rd.step_load ho hn]
    show Sub _ x.f.sig
    rw [a.i.full hw]
    exact a.own
  · exfalso
    rw [Rd.step_gate ho hn] at h1
    have h2 : S.glook.2.met = S.met.note 2 0 1 true := rfl
    have h3 := h2.symm.trans h1
    have h4 := congrArg MS.log h3
    unfold MS.note at h4
    simp at h4
  · exfalso
    rw [Rd.step_head ho hn, a.slot] at h1
    obtain ⟨h, hH⟩ := a.H
    have hy : nth S.H 0 = some h := by rw [hH]; rfl
    have h2 : (S.look 0).2.met = S.met.note 3 0 1 true := by unfold Sp.look; rw [hy]; rfl
    have h3 := h2.symm.trans h1
    have h4 := congrArg MS.log h3
    unfold MS.note at h4
    simp at h4
/-- The gate moves, the meter turns. -/
theorem PS.same (h : PS n B S x) {S' : Sp} (e1 : S'.H = S.H) (e2 : S'.W = S.W) (e3 : S'.cells = S.cells) : PS n B S' x := ⟨h.i, by rw [e1]; exact h.H, e2.trans h.W, h.slot, h.c0, by rw [e3]; exact h.c1, h.own, h.all, h.pub⟩
/-- As it begins. -/
theorem PS.new {f : Fr} {cell : Int} (hH : ∃ h, S.H = [h]) (hW : S.W = [(f.sig.a : Int), (f.sig.b : Int)]) (hf : f.slot = 0) (hs : f.sig.ok) (ho : (ownSg n cell).ok) (c0 : 0 ≤ cell) (c1 : cell < S.cells.length) (hb : Sub f.sig (ofL n B)) : PS n (B ++ [cell]) S (Rd.new n f cell) :=
  ⟨RI.new n f cell hs ho, hH, hW, hf, c0, c1, Sub.right _ _, (hb.trans (Sub.of n B cell)).join (Sub.own n B cell), hb.trans (Sub.of n B cell)⟩
end
end Go.Proofs.Ytelljfhhjapgnaa

namespace Go.Proofs.Ytelljfhhjapgnaa
open Go.RowKit
set_option linter.unusedVariables false
set_option linter.unusedSimpArgs false
/-- A row of ints made since wb, beside X. -/
def RowB (wb w : World) (X : List Nat) (v : Value) (R : List Int) : Prop := w.ownsRow wb.heap.size 3 1 v R.length (R.map (Value.int .i64)) ∧ ∀ q, v.ownBlock = some q → q ∉ X
section
variable {wb wr w w' w0 w1 : World} {X X' : List Nat} {v v1 : Value} {R : List Int}
theorem RowB.step (h : RowB wb w X v R) (hk : Keeps X w w') (hn : ∀ x, x ∈ X' → x ∈ X ∨ w.heap.size ≤ x) : RowB wb w' X' v R :=
  ⟨own_keeps h.1 hk h.2, fun q hq hx => by
    have h1 := (h.1.lt q hq).2
    rcases hn q hx with h2 | h2
    · exact h.2 q hq h2
    · omega⟩
theorem RowB.calm (h : RowB wb w X v R) (hk : Keeps [] w w') : RowB wb w' X v R := ⟨own_keeps h.1 hk (by simp), h.2⟩
theorem RowB.far {Y : List Nat} (h : RowB wb w X v R) (hk : Keeps Y w w') (hY : ∀ q, v.ownBlock = some q → q ∉ Y) : RowB wb w' X v R := ⟨own_keeps h.1 hk hY, h.2⟩
theorem RowB.ty (h : RowB wb w X v R) {q : Nat} (hq : v.ownBlock = some q) : tyOf w q = some 3 := own_tyOf h.1 hq
theorem RowB.slc (h : RowB wb w X v R) (hl : R.length ≤ maxLen) : ∃ A c, v = .slice A R.length c ∧ Slc w A R := by
  obtain ⟨A, c, h1, _, h2⟩ := Slc.of_own h.1 hl
  exact ⟨A, c, h1, h2⟩
theorem RowB.own0 (h : RowB wb w X v R) : w.ownsRow 0 3 1 v R.length (R.map (Value.int .i64)) := own_base h.1 (fun _ _ => Nat.zero_le _)
theorem RowB.nil (wb w : World) (X : List Nat) : RowB wb w X (.slice none 0 0) [] := ⟨World.ownsRow_nil _ _ _ _, fun q hq => by simp [Value.ownBlock] at hq⟩
/-- One more at the end. -/
theorem RowB.snoc (h : RowB wb wr X v R) (hb : wb.heap.size ≤ wr.heap.size) (hX : ∀ q, q ∈ X → q < wr.heap.size) {c : Int} (hk : Keeps [] wr w0) {n : Nat} (hn : n = R.length + 1)
    (ho : w1.ownsRow 0 3 1 v1 n (R.map (Value.int .i64) ++ [c].map (Value.int .i64))) (hg : w0.grownBy w1 v.ownBlock) (ha : v1.ownBlock = v.ownBlock ∨ v1.ownBlock = some w0.heap.size) : RowB wb w1 X v1 (R ++ [c]) ∧ Keeps v.ownBlock.toList wr w1 := by
  have hsz := hk.size
  subst hn
  refine ⟨⟨own_base (by simpa using ho) ?_, ?_⟩, ?_⟩
  · intro k hk'
    rcases ha with e | e
    · exact (h.1.lt k (e ▸ hk')).1
    · rw [e] at hk'; injection hk' with hk'; omega
  · intro k hk' hx
    rcases ha with e | e
    · exact h.2 k (e ▸ hk') hx
    · rw [e] at hk'; injection hk' with hk'
      have := hX k hx
      omega
  · exact (hk.mono (by simp)).grown hg (fun k hk' => .inl (by simp [hk']))
end
/-- Between reads: R is in the row, B was begun. -/
def Pi (wb : World) (z : Sb) (n : Int) (B : List Int) (v : Value) (sig : Sg) (k : Nat) (ls : List (Nat × TypeId × Array Value)) (wr : World) : Prop :=
  ∃ F S, SP wb wr z F S ∧ Fit k S ∧ S.c = c11 16 n ∧ (∃ h, S.H = [h]) ∧ S.W = [(sig.a : Int), (sig.b : Int)] ∧ S.cells.length = 16 ∧ sig.ok ∧ Sub sig (ofL n B) ∧ Locs wr F ls ∧ RowB wb wr F v B
/-- In a read. -/
def Pr (wb : World) (z : Sb) (b : Nat) (n : Int) (B R : List Int) (v : Value) (sig : Sg) (cell : Int) (over : Bool) (L k : Nat) (ls : List (Nat × TypeId × Array Value)) (wr : World) : Prop :=
  ∃ F G S x, SP wb wr z F S ∧ Fit k S ∧ RD wb wr z F b G x ∧ PS n B S x ∧ S.c = c11 16 n ∧ S.cells.length = 16 ∧ x.f.sig = sig ∧ x.cell = cell ∧ x.over = over ∧ S.met.log.length = L ∧ Locs wr (G ++ F) ls ∧ RowB wb wr (G ++ F) v R
/-- Behind a step: the last access's kind. -/
def Pv (wb : World) (z : Sb) (b : Nat) (n : Int) (B R : List Int) (v : Value) (sig : Sg) (cell : Int) (over : Bool) (L : Nat) (kd : Int) (k : Nat) (ls : List (Nat × TypeId × Array Value)) (wr : World) : Prop :=
  ∃ F G S x, SP wb wr z F S ∧ Fit k S ∧ RD wb wr z F b G x ∧ PS n B S x ∧ S.c = c11 16 n ∧ S.cells.length = 16 ∧ x.f.sig = sig ∧ x.cell = cell ∧ x.over = over ∧ (∃ l0 s t p o q, S.met.log = l0 ++ [⟨s, t, kd, p, o, q⟩] ∧ l0.length = L) ∧ Locs wr (G ++ F) ls ∧ RowB wb wr (G ++ F) v R
section
variable {wb wr w' w0 w1 : World} {z : Sb} {b : Nat} {n cell kd : Int} {B R : List Int} {v v1 : Value} {sig : Sg} {over : Bool} {L k : Nat} {ls : List (Nat × TypeId × Array Value)}
theorem Pi.calm (h : Pi wb z n B v sig k ls wr) (hk : Keeps [] wr w') : Pi wb z n B v sig k ls w' := by
  obtain ⟨F, S, h1, h2, h3, h4, h5, h6, h7, h8, h9, h10⟩ := h
  exact ⟨F, S, h1.calm hk, h2, h3, h4, h5, h6, h7, h8, h9.calm hk, h10.calm hk⟩
theorem Pr.calm (h : Pr wb z b n B R v sig cell over L k ls wr) (hk : Keeps [] wr w') : Pr wb z b n B R v sig cell over L k ls w' := by
  obtain ⟨F, G, S, x, h1, h2, h3, h4, h5, h6, h7, h8, h9, h10, h11, h12⟩ := h
  exact ⟨F, G, S, x, h1.calm hk, h2, h3.calm hk, h4, h5, h6, h7, h8, h9, h10, h11.calm hk, h12.calm hk⟩
theorem Pv.calm (h : Pv wb z b n B R v sig cell over L kd k ls wr) (hk : Keeps [] wr w') : Pv wb z b n B R v sig cell over L kd k ls w' := by
  obtain ⟨F, G, S, x, h1, h2, h3, h4, h5, h6, h7, h8, h9, h10, h11, h12⟩ := h
  exact ⟨F, G, S, x, h1.calm hk, h2, h3.calm hk, h4, h5, h6, h7, h8, h9, h10, h11.calm hk, h12.calm hk⟩
theorem Pi.keep (h : Pi wb z n B v sig k ls wr) : Keeps [] wb wr := by
  obtain ⟨F, S, h1, _⟩ := h
  exact h1.keep
theorem Pr.keep (h : Pr wb z b n B R v sig cell over L k ls wr) : Keeps [] wb wr := by
  obtain ⟨F, G, S, x, h1, _⟩ := h
  exact h1.keep
theorem Pv.keep (h : Pv wb z b n B R v sig cell over L kd k ls wr) : Keeps [] wb wr := by
  obtain ⟨F, G, S, x, h1, _⟩ := h
  exact h1.keep
theorem Pi.wide (h : Pi wb z n B v sig k ls wr) {j : Nat} (hj : k ≤ j) : Pi wb z n B v sig j ls wr := by
  obtain ⟨F, S, h1, h2, h3⟩ := h
  exact ⟨F, S, h1, h2.wide hj, h3⟩
theorem Pi.loc (h : Pi wb z n B v sig k ls wr) {q : Nat} {t : TypeId} {cs : Array Value} (hl : (q, t, cs) ∈ ls) : Blk wr q t cs := by
  obtain ⟨F, S, h1, h2, h3, h4, h5, h6, h7, h8, h9, h10⟩ := h
  exact (h9 _ hl).blk
theorem Pr.loc (h : Pr wb z b n B R v sig cell over L k ls wr) {q : Nat} {t : TypeId} {cs : Array Value} (hl : (q, t, cs) ∈ ls) : Blk wr q t cs := by
  obtain ⟨F, G, S, x, h1, h2, h3, h4, h5, h6, h7, h8, h9, h10, h11, h12⟩ := h
  exact (h11 _ hl).blk
theorem Pv.loc (h : Pv wb z b n B R v sig cell over L kd k ls wr) {q : Nat} {t : TypeId} {cs : Array Value} (hl : (q, t, cs) ∈ ls) : Blk wr q t cs := by
  obtain ⟨F, G, S, x, h1, h2, h3, h4, h5, h6, h7, h8, h9, h10, h11, h12⟩ := h
  exact (h11 _ hl).blk
/-- A new block beside. -/
theorem Pi.add (h : Pi wb z n B v sig k ls wr) (t : TypeId) (cs : Array Value) : Pi wb z n B v sig k ((wr.heap.size, t, cs) :: ls) (wr.alloc (.cells cs t)) := by
  obtain ⟨F, S, h1, h2, h3, h4, h5, h6, h7, h8, h9, h10⟩ := h
  refine ⟨F, S, h1.calm (by simp), h2, h3, h4, h5, h6, h7, h8, fun l hl => ?_, h10.calm (by simp)⟩
  rcases List.mem_cons.1 hl with rfl | hl
  · exact h1.local_ t cs
  · exact (h9 l hl).calm (by simp)
theorem Pv.add (h : Pv wb z b n B R v sig cell over L kd k ls wr) (t : TypeId) (cs : Array Value) : Pv wb z b n B R v sig cell over L kd k ((wr.heap.size, t, cs) :: ls) (wr.alloc (.cells cs t)) := by
  obtain ⟨F, G, S, x, h1, h2, h3, h4, h5, h6, h7, h8, h9, h10, h11, h12⟩ := h
  refine ⟨F, G, S, x, h1.calm (by simp), h2, h3.calm (by simp), h4, h5, h6, h7, h8, h9, h10, fun l hl => ?_, h12.calm (by simp)⟩
  rcases List.mem_cons.1 hl with rfl | hl
  · refine ⟨Blk.new _ _ _, fun hx => ?_⟩
    rw [List.mem_append] at hx
    rcases hx with hx | hx
    · exact Nat.lt_irrefl _ (h3.lt _ hx)
    · exact Nat.lt_irrefl _ (h1.lt _ hx)
  · exact (h11 l hl).calm (by simp)
theorem Pv.less (h : Pv wb z b n B R v sig cell over L kd k ls wr) {l' : List (Nat × TypeId × Array Value)} (hl : ∀ x, x ∈ l' → x ∈ ls) : Pv wb z b n B R v sig cell over L kd k l' wr := by
  obtain ⟨F, G, S, x, h1, h2, h3, h4, h5, h6, h7, h8, h9, h10, h11, h12⟩ := h
  exact ⟨F, G, S, x, h1, h2, h3, h4, h5, h6, h7, h8, h9, h10, fun x hx => h11 x (hl x hx), h12⟩
/-- The one block beside is written over, between reads. -/
theorem Pi.put {q : Nat} {t : TypeId} {cs cs' : Array Value} (h : Pi wb z n B v sig k [(q, t, cs)] wr) (hq : wb.heap.size ≤ q) (ht : t ∉ spFix) (hti : t ≠ 3) (hk : Keeps [q] wr w') (hb : Blk w' q t cs') : Pi wb z n B v sig k [(q, t, cs')] w' := by
  obtain ⟨F, S, h1, h2, h3, h4, h5, h6, h7, h8, h9, h10⟩ := h
  have h11 := h9 (q, t, cs) (by simp)
  refine ⟨F, S, h1.away hk (fun x hx => ?_), h2, h3, h4, h5, h6, h7, h8, fun l hl => ?_, h10.far hk (fun x hx he => ?_)⟩
  · simp at hx; subst hx
    exact ⟨hq, h11.off, fun t' ht' => by have := h11.blk.tyOf; rw [this] at ht'; injection ht' with ht'; subst ht'; exact ht⟩
  · simp at hl; subst hl
    exact ⟨hb, h11.off⟩
  · simp at he; subst he
    have e1 := h10.ty hx
    rw [h11.blk.tyOf] at e1
    injection e1 with e1
    exact hti e1
/-- A read begins. -/
theorem Pi.new (h : Pi wb z n B v sig k ls wr) (g seen : Int) (n0 : 1 ≤ n) (n1 : n ≤ 128) (c0 : 0 ≤ cell) (c1 : cell < 16) :
    Calls Try.prog 13 #[PT z.p, .agg #[.int .i64 0, .int .i64 g, .int .i64 seen, .int .u64 (sig.a : Int), .int .u64 (sig.b : Int)], .int .i64 cell] wr fun e w' => (∃ b L, e = .returned (.tuple #[PT b, .int .i64 0]) ∧ Pr wb z b n (B ++ [cell]) B v sig cell false L k ls w') ∧ Keeps [] wr w' := by
  obtain ⟨F, S, h1, h2, h3, h4, h5, h6, h7, h8, h9, h10⟩ := h
  refine (read_new h1 h2 ⟨0, g, seen, sig⟩ h7 cell c0 (by rw [h3]; exact c1) (by show (0 : Int) ≤ 0; decide) (by rw [h3]; show (0 : Int) < 1; decide)).mono fun e w' ⟨b, G, he, hr, hg, hk⟩ => ?_
  have hz := h1.keep.size
  refine ⟨⟨b, _, he, F, G, S, _, h1.calm hk, h2, hr, ?_, h3, h6, rfl, rfl, rfl, rfl, fun l hl => ⟨(h9 l hl).blk.keeps hk (by simp), fun hx => ?_⟩, ⟨(h10.calm hk).1, fun q hq hx => ?_⟩⟩, hk⟩
  · rw [h3]
    exact PS.new (f := ⟨0, g, seen, sig⟩) h4 h5 rfl h7 (ownSg_ok n0 n1 cell) c0 (by rw [h6]; exact c1) h8
  · rw [List.mem_append] at hx
    rcases hx with hx | hx
    · have h1' := hg _ hx
      have h2' := (h9 l hl).blk.lt
      omega
    · exact (h9 l hl).off hx
  · rw [List.mem_append] at hx
    rcases hx with hx | hx
    · have h1' := hg _ hx
      have h2' := (h10.1.lt q hq).2
      omega
    · exact h10.2 q hq hx
/-- The row grows, in a read. -/
theorem Pr.snoc (h : Pr wb z b n B R v sig cell over L k ls wr) {c : Int} (hl : ∀ l, l ∈ ls → l.2.1 ≠ 3) (hk : Keeps [] wr w0) {m : Nat} (hm : m = R.length + 1)
    (ho : w1.ownsRow 0 3 1 v1 m (R.map (Value.int .i64) ++ [c].map (Value.int .i64))) (hg : w0.grownBy w1 v.ownBlock) (ha : v1.ownBlock = v.ownBlock ∨ v1.ownBlock = some w0.heap.size) : Pr wb z b n B (R ++ [c]) v1 sig cell over L k ls w1 := by
  obtain ⟨F, G, S, x, h1, h2, h3, h4, h5, h6, h7, h8, h9, h10, h11, h12⟩ := h
  obtain ⟨r1, r2⟩ := h12.snoc h1.keep.size (fun q hq => by
    rw [List.mem_append] at hq
    rcases hq with hq | hq
    · exact h3.lt q hq
    · exact h1.lt q hq) hk hm ho hg ha
  have hmem : ∀ q, q ∈ v.ownBlock.toList → v.ownBlock = some q := fun q hq => by simpa using hq
  refine ⟨F, G, S, x, h1.away r2 (fun q hq => ?_), h2, h3.keeps r2 (fun q hq hx => ?_) (fun q hq => .inl hq), h4, h5, h6, h7, h8, h9, h10, fun l hl' => ⟨(h11 l hl').blk.keeps r2 (fun hx => ?_), (h11 l hl').off⟩, r1⟩
  · have e := hmem q hq
    refine ⟨(h12.1.lt q e).1, fun hf => h12.2 q e (by simp [hf]), fun t ht => ?_⟩
    rw [h12.ty e] at ht
    injection ht with ht
    subst ht
    decide
  · exact h12.2 q (hmem q hx) (by simp [hq])
  · have e := h12.ty (hmem _ hx)
    rw [(h11 l hl').blk.tyOf] at e
    injection e with e
    exact hl l hl' e
theorem Pi.gate (h : Pi wb z n B v sig k ls wr) : Calls Try.prog 25 #[PT z.p] wr fun e w' => e = .returned (PT z.q) ∧ wr = w' := by
  obtain ⟨F, S, h1, _⟩ := h
  exact sp_gate h1
theorem Pr.gate (h : Pr wb z b n B R v sig cell over L k ls wr) : Calls Try.prog 25 #[PT z.p] wr fun e w' => e = .returned (PT z.q) ∧ wr = w' := by
  obtain ⟨F, G, S, x, h1, _⟩ := h
  exact sp_gate h1
theorem take_c (S : Sp) (t : Int) : (S.take t).2.c = S.c := by unfold Sp.take; split; rfl; split <;> rfl
theorem give_c (S : Sp) (t : Int) : (S.give t).2.c = S.c := by unfold Sp.give; split; rfl; split <;> rfl
theorem Pi.take (h : Pi wb z n B v sig k ls wr) (hk : k ≤ 1099511627776) (t : Int) : Calls Try.prog 26 #[PT z.q, .int .i64 t] wr fun e w' => (∃ a c : Int, e = .returned (.tuple #[.int .i64 a, .int .i64 c])) ∧ Pi wb z n B v sig (k + 1) ls w' := by
  obtain ⟨F, S, h1, h2, h3, h4, h5, h6, h7, h8, h9, h10⟩ := h
  obtain ⟨e1, e2, e3⟩ := take_same S t
  exact (sp_take h1 h2 hk t).mono fun e w' ⟨he, F', k1, k2, k3⟩ => ⟨⟨_, _, he⟩, F', _, k1, h2.take t, (take_c S t).trans h3, by rw [e1]; exact h4, e2.trans h5, by rw [e3]; exact h6, h7, h8, h9.step k2 k3, h10.step k2 k3⟩
theorem Pi.give (h : Pi wb z n B v sig k ls wr) (hk : k ≤ 1099511627776) (t : Int) : Calls Try.prog 27 #[PT z.q, .int .i64 t] wr fun e w' => (∃ a : Int, e = .returned (.int .i64 a)) ∧ Pi wb z n B v sig (k + 1) ls w' := by
  obtain ⟨F, S, h1, h2, h3, h4, h5, h6, h7, h8, h9, h10⟩ := h
  obtain ⟨e1, e2, e3⟩ := give_same S t
  exact (sp_give h1 h2 hk t).mono fun e w' ⟨he, F', k1, k2, k3⟩ => ⟨⟨_, he⟩, F', _, k1, h2.give t, (give_c S t).trans h3, by rw [e1]; exact h4, e2.trans h5, by rw [e3]; exact h6, h7, h8, h9.step k2 k3, h10.step k2 k3⟩
theorem both_new {F F' G : List Nat} (k2 : Keeps F wr w') (k3 : ∀ x, x ∈ F' → x ∈ F ∨ wr.heap.size ≤ x) : Keeps (G ++ F) wr w' ∧ ∀ x, x ∈ G ++ F' → x ∈ G ++ F ∨ wr.heap.size ≤ x :=
  ⟨k2.mono (fun q hq => .inl (by simp [hq])), fun x hx => by
    rw [List.mem_append] at hx
    rcases hx with hx | hx
    · exact .inl (by simp [hx])
    · rcases k3 x hx with h | h
      · exact .inl (by simp [h])
      · exact .inr h⟩
theorem Pr.take (h : Pr wb z b n B R v sig cell over L k ls wr) (hk : k ≤ 1099511627776) (t : Int) : Calls Try.prog 26 #[PT z.q, .int .i64 t] wr fun e w' => (∃ a c : Int, e = .returned (.tuple #[.int .i64 a, .int .i64 c])) ∧ ∃ L, Pr wb z b n B R v sig cell over L (k + 1) ls w' := by
  obtain ⟨F, G, S, x, h1, h2, h3, h4, h5, h6, h7, h8, h9, h10, h11, h12⟩ := h
  obtain ⟨e1, e2, e3⟩ := take_same S t
  refine (sp_take h1 h2 hk t).mono fun e w' ⟨he, F', k1, k2, k3⟩ => ?_
  obtain ⟨n1, n2⟩ := both_new (G := G) k2 k3
  exact ⟨⟨_, _, he⟩, _, F', G, _, x, k1, h2.take t, h3.step k2 k3, h4.same e1 e2 e3, (take_c S t).trans h5, by rw [e3]; exact h6, h7, h8, h9, rfl, h11.step n1 n2, h12.step n1 n2⟩
theorem Pr.give (h : Pr wb z b n B R v sig cell over L k ls wr) (hk : k ≤ 1099511627776) (t : Int) : Calls Try.prog 27 #[PT z.q, .int .i64 t] wr fun e w' => (∃ a : Int, e = .returned (.int .i64 a)) ∧ ∃ L, Pr wb z b n B R v sig cell over L (k + 1) ls w' := by
  obtain ⟨F, G, S, x, h1, h2, h3, h4, h5, h6, h7, h8, h9, h10, h11, h12⟩ := h
  obtain ⟨e1, e2, e3⟩ := give_same S t
  refine (sp_give h1 h2 hk t).mono fun e w' ⟨he, F', k1, k2, k3⟩ => ?_
  obtain ⟨n1, n2⟩ := both_new (G := G) k2 k3
  exact ⟨⟨_, he⟩, _, F', G, _, x, k1, h2.give t, h3.step k2 k3, h4.same e1 e2 e3, (give_c S t).trans h5, by rw [e3]; exact h6, h7, h8, h9, rfl, h11.step n1 n2, h12.step n1 n2⟩
theorem Pr.wide (h : Pr wb z b n B R v sig cell over L k ls wr) {j : Nat} (hj : k ≤ j) : Pr wb z b n B R v sig cell over L j ls wr := by
  obtain ⟨F, G, S, x, h1, h2, h3⟩ := h
  exact ⟨F, G, S, x, h1, h2.wide hj, h3⟩
theorem Pr.meter (h : Pr wb z b n B R v sig cell over L k ls wr) : wr.cell? ⟨z.p, 0, none⟩ = some (PT z.m) := by
  obtain ⟨F, G, S, x, h1, _⟩ := h
  exact h1.cells.1
theorem Pv.meter (h : Pv wb z b n B R v sig cell over L kd k ls wr) : wr.cell? ⟨z.p, 0, none⟩ = some (PT z.m) := by
  obtain ⟨F, G, S, x, h1, _⟩ := h
  exact h1.cells.1
theorem Pr.log (h : Pr wb z b n B R v sig cell over L k ls wr) (hk : k ≤ 1099511627776) : Calls Try.prog 30 #[PT z.m] wr fun e w' => (∃ (A : Option Addr) (c : Nat), e = .returned (.slice A L c)) ∧ L ≤ 2199023255552 ∧ Keeps [] wr w' := by
  obtain ⟨F, G, S, x, h1, h2, h3, h4, h5, h6, h7, h8, h9, h10, h11, h12⟩ := h
  have hlg := h2.log
  refine (sp_log h1 (by omega)).mono fun e w' ⟨u, he, ho, hkp⟩ => ?_
  obtain ⟨A, c, rfl⟩ := row_form ho
  rw [h10] at he hlg
  exact ⟨⟨A, c, he⟩, by omega, hkp⟩
theorem Pr.step (h : Pr wb z b n B R v sig cell false L k ls wr) (hk : k ≤ 1099511627776) : Calls Try.prog 15 #[PT b] wr fun e w' => (∃ a : Int, e = .returned (.int .i64 a)) ∧ ∃ sig' over' kd, Pv wb z b n B R v sig' cell over' L kd (k + 1) ls w' ∧ sig'.ok ∧ Sub sig' (ofL n B) ∧ (kd = 1 → Sub (ownSg n cell) sig') := by
  obtain ⟨F, G, S, x, h1, h2, h3, h4, h5, h6, h7, h8, h9, h10, h11, h12⟩ := h
  obtain ⟨kd, p, o, q, e1, e2⟩ := h4.one h9
  have h4' := h4.step
  refine (rd_step h1 h2 hk h3 h4.i).mono fun e w' ⟨he, F', G', k1, k2, k3, k4, k5⟩ => ?_
  have n2 : ∀ x, x ∈ G' ++ F' → x ∈ G ++ F ∨ wr.heap.size ≤ x := fun q hq => by
    rw [List.mem_append] at hq ⊢
    rcases hq with hq | hq
    · rcases k5 q hq with h | h
      · exact .inl (.inl h)
      · exact .inr h
    · rcases k4 q hq with h | h
      · exact .inl (.inr h)
      · exact .inr h
  obtain ⟨s1, s2, s3, s4⟩ := h4.i.sp S
  obtain ⟨r1, r2, r3, r4⟩ := h4.i.same S
  refine ⟨⟨_, he⟩, _, _, kd, ⟨F', G', _, _, k1, h4.i.fit h2, k2, h4', s1.trans h5, by rw [s3]; exact h6, rfl, r1.trans h8, rfl, ⟨S.met.log, S.met.steps, S.met.thread, p, o, q, ?_, h10⟩, h11.step k3 n2, h12.step k3 n2⟩, h4'.i.ok.sg, h4'.pub, by rw [← h8]; exact e2⟩
  rw [e1]
  rfl
theorem Pv.log (h : Pv wb z b n B R v sig cell over L kd k ls wr) (hk : k ≤ 1099511627776) : Calls Try.prog 30 #[PT z.m] wr fun e w' => ∃ g c : Nat, e = .returned (.slice (some ⟨g, 0, none⟩) (L + 1) c) ∧ g < w'.heap.size ∧ w'.cell? ⟨g, L * 6 + 2, none⟩ = some (.int .i64 kd) ∧ Keeps [] wr w' := by
  obtain ⟨F, G, S, x, h1, h2, h3, h4, h5, h6, h7, h8, h9, ⟨l0, s, t, p, o, q, hl, hL⟩, h11, h12⟩ := h
  have hlg := h2.log
  refine (sp_log h1 (by omega)).mono fun e w' ⟨u, he, ho, hkp⟩ => ?_
  have hlen : S.met.log.length = L + 1 := by rw [hl, ← hL]; simp
  obtain ⟨g, c, rfl, _, _⟩ := World.ownsRow.form ho (by omega)
  have hlt := (ho.lt g rfl).2
  refine ⟨g, c, by rw [he, hlen], hlt, ?_, hkp⟩
  have hc := World.ownsRow.cells ho (g := g) rfl (L * 6 + 2) (.int .i64 kd) (by rw [hl, ← hL]; exact logCells_last l0 _)
  have e : (⟨g, 0, none⟩ : Addr).add (L * 6 + 2) = ⟨g, L * 6 + 2, none⟩ := by unfold Addr.add; split <;> simp_all
  rwa [e] at hc
/-- The words, told. -/
theorem Pv.view (h : Pv wb z b n B R v sig cell over L kd k ls wr) : Calls Try.prog 19 #[PT z.p] wr fun e w' => ∃ (v0 : Value) (n o : Int) (a2 c2 : Nat), e = .returned (.agg #[v0, .int .i64 n, .int .i64 o, .slice (some ⟨a2, 0, none⟩) 1 c2]) ∧ w'.cell? ⟨a2, 6, none⟩ = some (.int .u64 (sig.a : Int)) ∧ w'.cell? ⟨a2, 7, none⟩ = some (.int .u64 (sig.b : Int)) ∧ Keeps [] wr w' := by
  obtain ⟨F, G, S, x, h1, h2, h3, h4, h5, h6, h7, h8, h9, h10, h11, h12⟩ := h
  obtain ⟨hd, hH⟩ := h4.H
  refine (sp_view h1 h2).mono fun e w' ⟨a1, c1, a2, c2, he, q1, q2, q3, q4, q5⟩ => ?_
  rw [hH, h4.W, h7] at q2
  rw [hH] at he
  refine ⟨_, _, _, a2, c2, he, ?_, ?_, q5⟩
  · exact (World.ownsRow.cellAt q2 6 (by simp)).trans rfl
  · exact (World.ownsRow.cellAt q2 7 (by simp)).trans rfl
theorem Pv.row (h : Pv wb z b n B R v sig cell over L kd k ls wr) (hl : R.length ≤ maxLen) : ∃ A c, v = .slice A R.length c ∧ Slc wr A R := by
  obtain ⟨F, G, S, x, h1, h2, h3, h4, h5, h6, h7, h8, h9, h10, h11, h12⟩ := h
  exact h12.slc hl
theorem Pv.from_ (h : Pv wb z b n B R v sig cell over L kd k ls wr) : ∃ g s : Int, ∀ w', Keeps [] wr w' → Calls Try.prog 17 #[PT b] w' fun e w'' => e = .returned (.agg #[.int .i64 0, .int .i64 g, .int .i64 s, .int .u64 (sig.a : Int), .int .u64 (sig.b : Int)]) ∧ Keeps [] w' w'' := by
  obtain ⟨F, G, S, x, h1, h2, h3, h4, h5, h6, h7, h8, h9, h10, h11, h12⟩ := h
  refine ⟨x.f.gen, x.f.seen, fun w' hk => ?_⟩
  obtain ⟨⟨wv, ha, _⟩, _, _⟩ := h3.calm hk
  have := rd_from ha
  unfold Fr.val Fr.cells at this
  rw [h7, h4.slot] at this
  exact this
theorem Pv.done_ (h : Pv wb z b n B R v sig cell over L kd k ls wr) : Calls Try.prog 14 #[PT b] wr fun e w' => e = .returned (.bool over) ∧ wr = w' := by
  obtain ⟨F, G, S, x, h1, h2, ⟨⟨wv, ha, _⟩, _, _⟩, h4, h5, h6, h7, h8, h9, _⟩ := h
  have := rd_done ha
  rw [h9] at this
  exact this
theorem Pv.idle (h : Pv wb z b n B B v sig cell over L kd k ls wr) : Pi wb z n B v sig k ls wr := by
  obtain ⟨F, G, S, x, h1, h2, h3, h4, h5, h6, h7, h8, h9, h10, h11, h12⟩ := h
  exact ⟨F, S, h1, h2, h5, h4.H, by rw [h4.W, h7], h6, h7 ▸ h4.i.ok.sg, h7 ▸ h4.pub, fun l hl => ⟨(h11 l hl).blk, fun hx => (h11 l hl).off (by simp [hx])⟩, ⟨h12.1, fun q hq hx => h12.2 q hq (by simp [hx])⟩⟩
theorem Pv.read (h : Pv wb z b n B R v sig cell over L kd k ls wr) : ∃ L, Pr wb z b n B R v sig cell over L k ls wr := by
  obtain ⟨F, G, S, x, h1, h2, h3, h4, h5, h6, h7, h8, h9, h10, h11, h12⟩ := h
  exact ⟨_, F, G, S, x, h1, h2, h3, h4, h5, h6, h7, h8, h9, rfl, h11, h12⟩
theorem Pr.row (h : Pr wb z b n B R v sig cell over L k ls wr) (hl : R.length ≤ maxLen) : ∃ A c, v = .slice A R.length c ∧ Slc wr A R := by
  obtain ⟨F, G, S, x, h1, h2, h3, h4, h5, h6, h7, h8, h9, h10, h11, h12⟩ := h
  exact h12.slc hl
theorem Pr.own0 (h : Pr wb z b n B R v sig cell over L k ls wr) (hk : Keeps [] wr w') : w'.ownsRow 0 3 1 v R.length (R.map (Value.int .i64)) := by
  obtain ⟨F, G, S, x, h1, h2, h3, h4, h5, h6, h7, h8, h9, h10, h11, h12⟩ := h
  exact (h12.calm hk).own0
/-- A row that is not empty, as a slice. -/
theorem Pr.form (h : Pr wb z b n B (R ++ [cell]) v sig cell over L k ls wr) : ∃ (g c : Nat), v = .slice (some ⟨g, 0, none⟩) (R.length + 1) c ∧ R.length + 1 ≤ c ∧ R.length + 1 ≤ maxLen := by
  obtain ⟨F, G, S, x, h1, h2, h3, h4, h5, h6, h7, h8, h9, h10, h11, h12⟩ := h
  have hl : (R ++ [cell]).length = R.length + 1 := by simp
  have ho := h12.1
  rw [hl] at ho
  rcases ho.2 with ⟨_, h0⟩ | ⟨g, cap, cur, hv, hb, hg, hc, hm, _⟩
  · omega
  · exact ⟨g, cap, hv, hc, Nat.le_trans hc hm⟩
/-- Between two rounds: no read, or one that is under way. -/
def Pst (wb : World) (z : Sb) (n : Int) (B : List Int) (v : Value) (bf m q k : Nat) (xp : Value) (wr : World) : Prop :=
  ∃ (g s : Int) (sf : Sg), (xp = .pointer none ∧ Pi wb z n B v sf k [(bf, 34, #[.int .i64 0, .int .i64 g, .int .i64 s, .int .u64 (sf.a : Int), .int .u64 (sf.b : Int)])] wr) ∨
    (∃ b cell B0 sig L, xp = PT b ∧ q < m ∧ B = B0 ++ [cell] ∧ Pr wb z b n B B v sig cell false L k [(bf, 34, #[.int .i64 0, .int .i64 g, .int .i64 s, .int .u64 (sf.a : Int), .int .u64 (sf.b : Int)])] wr)
theorem Pst.keep {bf m q : Nat} {xp : Value} (h : Pst wb z n B v bf m q k xp wr) : Keeps [] wb wr := by
  obtain ⟨g, s, sf, ⟨_, h⟩ | ⟨b, cell, B0, sig, L, _, _, _, h⟩⟩ := h
  · exact h.keep
  · exact h.keep
theorem Pst.wide {bf m q : Nat} {xp : Value} (h : Pst wb z n B v bf m q k xp wr) {j : Nat} (hj : k ≤ j) : Pst wb z n B v bf m q j xp wr := by
  obtain ⟨g, s, sf, ⟨e, h⟩ | ⟨b, cell, B0, sig, L, e1, e2, e3, h⟩⟩ := h
  · exact ⟨g, s, sf, .inl ⟨e, h.wide hj⟩⟩
  · exact ⟨g, s, sf, .inr ⟨b, cell, B0, sig, L, e1, e2, e3, h.wide hj⟩⟩
theorem Pst.gate {bf m q : Nat} {xp : Value} (h : Pst wb z n B v bf m q k xp wr) : Calls Try.prog 25 #[PT z.p] wr fun e w' => e = .returned (PT z.q) ∧ wr = w' := by
  obtain ⟨g, s, sf, ⟨e, h⟩ | ⟨b, cell, B0, sig, L, e1, e2, e3, h⟩⟩ := h
  · exact h.gate
  · exact h.gate
theorem Pst.take {bf m q : Nat} {xp : Value} (h : Pst wb z n B v bf m q k xp wr) (hk : k ≤ 1099511627776) (t : Int) : Calls Try.prog 26 #[PT z.q, .int .i64 t] wr fun e w' => (∃ a c : Int, e = .returned (.tuple #[.int .i64 a, .int .i64 c])) ∧ Pst wb z n B v bf m q (k + 1) xp w' := by
  obtain ⟨g, s, sf, ⟨e, h⟩ | ⟨b, cell, B0, sig, L, e1, e2, e3, h⟩⟩ := h
  · exact (h.take hk t).mono fun e' w' ⟨he, h'⟩ => ⟨he, g, s, sf, .inl ⟨e, h'⟩⟩
  · exact (h.take hk t).mono fun e' w' ⟨he, L', h'⟩ => ⟨he, g, s, sf, .inr ⟨b, cell, B0, sig, L', e1, e2, e3, h'⟩⟩
theorem Pst.give {bf m q : Nat} {xp : Value} (h : Pst wb z n B v bf m q k xp wr) (hk : k ≤ 1099511627776) (t : Int) : Calls Try.prog 27 #[PT z.q, .int .i64 t] wr fun e w' => (∃ a : Int, e = .returned (.int .i64 a)) ∧ Pst wb z n B v bf m q (k + 1) xp w' := by
  obtain ⟨g, s, sf, ⟨e, h⟩ | ⟨b, cell, B0, sig, L, e1, e2, e3, h⟩⟩ := h
  · exact (h.give hk t).mono fun e' w' ⟨he, h'⟩ => ⟨he, g, s, sf, .inl ⟨e, h'⟩⟩
  · exact (h.give hk t).mono fun e' w' ⟨he, L', h'⟩ => ⟨he, g, s, sf, .inr ⟨b, cell, B0, sig, L', e1, e2, e3, h'⟩⟩
end
theorem of_row {w : World} {A : Option Addr} {c m : Nat} {B : List Int} (hs : Slc w A B) (hm : m = B.length) (hc : ∀ x, x ∈ B → 0 ≤ x ∧ x ≤ 15) {n : Int} (n0 : 1 ≤ n) (n1 : n ≤ 128) : Calls Try.prog 11 #[.slice A m c, .int .i64 n] w fun e w' => e = .returned (.tuple #[.agg #[.int .u64 ((ofL n B).a : Int), .int .u64 ((ofL n B).b : Int)], .int .i64 0]) ∧ Keeps [] w w' := by
  subst hm
  have h := of_any w A c B hs n n0 n1
  have hall : B.all isCell = true := List.all_eq_true.2 fun x hx => by
    have := hc x hx
    rw [isCell_yes]
    omega
  have e1 : ofR n B = ofL n B := by unfold ofR; rw [if_pos hall]
  have e2 : ofE B = 0 := by unfold ofE; rw [if_pos hall]
  rw [e1, e2] at h
  exact h
theorem slc_last {w : World} {g : Nat} {B0 : List Int} {cell : Int} (h : Slc w (some ⟨g, 0, none⟩) (B0 ++ [cell])) : Slc w (some ⟨g, B0.length, none⟩) [cell] := by
  refine ⟨by show 1 ≤ maxLen; decide, .inr ⟨g, B0.length, rfl, ?_⟩⟩
  rcases h.2 with h | ⟨b, off, e, hb, hc⟩
  · simp at h
  · injection e with e
    injection e with e1 e2
    subst e1 e2
    refine ⟨hb, fun k x hx => ?_⟩
    cases k with
    | succ k => simp at hx
    | zero =>
      have := hc B0.length x (by rw [List.getElem?_append_right (Nat.le_refl _)]; simpa using hx)
      rw [Nat.zero_add] at this
      exact this
end Go.Proofs.Ytelljfhhjapgnaa
