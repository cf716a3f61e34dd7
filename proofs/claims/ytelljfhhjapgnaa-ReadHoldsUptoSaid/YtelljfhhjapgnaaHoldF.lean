/- ReadHolds: the call that compares what was read with the cells. -/
import Derived.Test.YtelljfhhjapgnaaPubB
import Derived.Test.YtelljfhhjapgnaaElDeed
import Derived.Deep.QuietTactic
import Derived.BigQuiet
namespace Go.Proofs.Ytelljfhhjapgnaa
open Go.RowKit
set_option linter.unusedVariables false
set_option linter.unusedSimpArgs false
theorem sub_meet {x a b : Nat} (h1 : a ||| x = a) (h2 : b ||| x = b) : (a &&& b) ||| x = a &&& b := by
  apply Nat.eq_of_testBit_eq
  intro i
  have e1 : (a ||| x).testBit i = a.testBit i := by rw [h1]
  have e2 : (b ||| x).testBit i = b.testBit i := by rw [h2]
  rw [Nat.testBit_or] at e1 e2
  rw [Nat.testBit_or, Nat.testBit_and]
  cases ha : a.testBit i <;> cases hb : b.testBit i <;> cases hx : x.testBit i <;> simp_all
theorem Sub.meet {x a b : Sg} (h1 : Sub x a) (h2 : Sub x b) : Sub x (a.meet b) := ⟨sub_meet h1.1 h2.1, sub_meet h1.2 h2.2⟩
theorem or_zero_right {a b : Nat} (h : a ||| b = 0) : b = 0 := by
  apply Nat.eq_of_testBit_eq
  intro i
  have e : (a ||| b).testBit i = (0 : Nat).testBit i := by rw [h]
  rw [Nat.testBit_or, Nat.zero_testBit] at e
  rw [Nat.zero_testBit]
  cases hb : b.testBit i <;> simp_all
theorem set_some (s : Sg) (k : Nat) : (s.set k).none = false := by
  have hp : ∀ (a j : Nat), a ||| 2 ^ j ≠ 0 := fun a j h => by
    have := or_zero_right h
    have := Nat.pow_pos (n := j) (show 0 < 2 by decide)
    omega
  unfold Sg.set Sg.none
  split
  · have := hp s.a k
    simp only [Bool.and_eq_false_iff, beq_eq_false_iff_ne]
    exact .inl (fun h => this (by exact_mod_cast h))
  · have := hp s.b (k - 64)
    simp only [Bool.and_eq_false_iff, beq_eq_false_iff_ne]
    exact .inr (fun h => this (by exact_mod_cast h))
theorem own_some (n c : Int) : (ownSg n c).none = false := set_some _ _
theorem none_up {x a : Sg} (h : Sub x a) (hx : x.none = false) : a.none = false := by
  cases hq : a.none with
  | false => rfl
  | true =>
    unfold Sg.none at hq hx
    simp only [Bool.and_eq_true, beq_iff_eq] at hq
    have q1 : a.a = 0 := by exact_mod_cast hq.1
    have q2 : a.b = 0 := by exact_mod_cast hq.2
    obtain ⟨h1, h2⟩ := h
    rw [q1] at h1
    rw [q2] at h2
    have e1 := or_zero_right h1
    have e2 := or_zero_right h2
    rw [e1, e2] at hx
    simp at hx
theorem Sub.fold (n : Int) (l : List Int) : ∀ s : Sg, Sub s (l.foldl (Sg.add n) s) := by
  induction l with
  | nil => exact fun s => Sub.refl s
  | cons a l ih => exact fun s => ((Sub.set _ _).trans (Sub.set _ _)).trans (ih _)
theorem Sub.mem {n : Int} {l : List Int} {c : Int} : ∀ s : Sg, c ∈ l → Sub (ownSg n c) (l.foldl (Sg.add n) s) := by
  induction l with
  | nil => intro s h; simp at h
  | cons a l ih =>
    intro s h
    rcases List.mem_cons.1 h with rfl | h
    · refine Sub.trans ?_ (Sub.fold n l _)
      exact ((Sub.zero s).sets _).sets _
    · exact ih _ h
/-- A common cell is a common bit. -/
theorem meets_of {n c : Int} {l : List Int} {sig : Sg} (hc : c ∈ l) (hs : Sub (ownSg n c) sig) : ((ofL n l).meet sig).none = false :=
  none_up ((Sub.mem _ hc).meet hs) (own_some n c)
theorem nth_set {L : List Int} {c k v : Int} (hne : k ≠ c) (hc : 0 ≤ c) : nth (L.set c.toNat v) k = nth L k := by
  unfold nth
  by_cases hk : 0 ≤ k
  · rw [if_pos hk, if_pos hk, List.getElem?_set_ne (by omega)]
  · rw [if_neg hk, if_neg hk]
/-- A space of one slot, its words, what has been read. -/
structure HS (n : Int) (S : Sp) (P : List (Int × Int)) (sig : Sg) (d : Bool) : Prop where
  H : ∃ h, S.H = [h] ∧ h.state = 2 ∧ h.gen = 1 ∧ h.doomed = d
  W : S.W = [(sig.a : Int), (sig.b : Int)]
  len : S.cells.length = 16
  in_ : ∀ p, p ∈ P → 0 ≤ p.1 ∧ p.1 ≤ 15 ∧ Sub (ownSg n p.1) sig
  val : d = false → ∀ p, p ∈ P → nth S.cells p.1 = some p.2
/-- A read of it that is under way. -/
structure HX (n : Int) (S : Sp) (x : Rd) (sig : Sg) (d : Bool) : Prop where
  i : RI x
  slot : x.f.slot = 0
  gen : x.f.gen = 1
  c0 : 0 ≤ x.cell
  c1 : x.cell ≤ 15
  fs : x.f.sig = sig
  fb : Sub sig x.both
  own : Sub (ownSg n x.cell) x.both
  val : d = false → 2 ≤ x.next → x.over = false → nth S.cells x.cell = some x.x
  fin : x.over = true → (x.e = 0 ∧ nth S.cells x.cell = some x.x ∧ d = false) ∨ (x.e = 7 ∧ d = true)
section
variable {n : Int} {P : List (Int × Int)} {S S' : Sp} {x : Rd} {sig : Sg} {d : Bool}
theorem HX.full (a : HX n S x sig d) (hn : 2 ≤ x.next) : Sub (ownSg n x.cell) sig := by
  rw [← a.fs, a.i.full (a.i.nil (by omega))]
  exact a.own
theorem HS.ws (h : HS n S P sig d) : ∃ y, S.H = [y] := by
  obtain ⟨y, hy, _⟩ := h.H
  exact ⟨y, hy⟩
/-- The gate moves. -/
theorem HS.same (h : HS n S P sig d) (e1 : S'.H = S.H) (e2 : S'.W = S.W) (e3 : S'.cells = S.cells) : HS n S' P sig d := ⟨by rw [e1]; exact h.H, e2.trans h.W, by rw [e3]; exact h.len, h.in_, by rw [e3]; exact h.val⟩
theorem HX.same (h : HX n S x sig d) (e3 : S'.cells = S.cells) : HX n S' x sig d := ⟨h.i, h.slot, h.gen, h.c0, h.c1, h.fs, h.fb, h.own, by rw [e3]; exact h.val, by rw [e3]; exact h.fin⟩
/-- The slot is doomed. -/
theorem HS.doom (h : HS n S P sig d) (t : Int) (t1 : 1 ≤ t) (t8 : t ≤ 8) : HS n (S.doom 0 1 t).2 P sig true ∧ (S.doom 0 1 t).2.cells = S.cells ∧ (S.doom 0 1 t).2.c = S.c := by
  obtain ⟨y, hy, h1, h2, h3⟩ := h.H
  have hn : nth S.H 0 = some y := by rw [hy]; rfl
  have e : S.doom 0 1 t = (0, { S.acc 3 0 3 true with H := S.H.set 0 (y.doom t) }) := by
    unfold Sp.doom
    simp only [hn]
    rw [if_neg (by omega), if_pos ⟨h1, h2⟩]; rfl
  rw [e]
  refine ⟨⟨⟨y.doom t, by show S.H.set 0 _ = _; rw [hy]; rfl, ?_, ?_, ?_⟩, h.W, h.len, h.in_, fun q => by cases q⟩, rfl, rfl⟩
  · unfold Hd.doom; split <;> exact h1
  · unfold Hd.doom; split <;> exact h2
  · unfold Hd.doom
    cases hq : y.doomed <;> simp [hq]
theorem HX.doom (h : HX n S x sig d) (ho : x.over = false) (e3 : S'.cells = S.cells) : HX n S' x sig true := ⟨h.i, h.slot, h.gen, h.c0, h.c1, h.fs, h.fb, h.own, (fun q => by cases q), (fun q => by rw [ho] at q; cases q)⟩
theorem store_val (S : Sp) (c v : Int) : (S.store c v).2.cells = S.cells ∧ (S.store c v).2.H = S.H ∧ (S.store c v).2.W = S.W ∧ (S.store c v).2.c = S.c ∨ (S.store c v).2.cells = S.cells.set c.toNat v ∧ (S.store c v).2.H = S.H ∧ (S.store c v).2.W = S.W ∧ (S.store c v).2.c = S.c := by
  unfold Sp.store
  split
  · exact .inr ⟨rfl, rfl, rfl, rfl⟩
  · exact .inl ⟨rfl, rfl, rfl, rfl⟩
/-- A cell is stored whose bits meet none of the words, or the slot is doomed. -/
theorem HS.store (h : HS n S P sig d) {l : List Int} {c : Int} (hc : c ∈ l) (c0 : 0 ≤ c) (hm : d = false → ((ofL n l).meet sig).none = true) (v : Int) : HS n (S.store c v).2 P sig d := by
  rcases store_val S c v with ⟨e1, e2, e3, _⟩ | ⟨e1, e2, e3, _⟩
  · exact h.same e2 e3 e1
  · refine ⟨by rw [e2]; exact h.H, e3.trans h.W, by rw [e1, List.length_set]; exact h.len, h.in_, fun hd p hp => ?_⟩
    obtain ⟨p0, p1, p2⟩ := h.in_ p hp
    have hne : p.1 ≠ c := fun e => by
      subst e
      have h1 := meets_of hc p2
      rw [hm hd] at h1
      cases h1
    rw [e1, nth_set hne c0]
    exact h.val hd p hp
theorem HX.store (h : HX n S x sig d) (ho : x.over = false) {l : List Int} {c : Int} (hc : c ∈ l) (c0 : 0 ≤ c) (hm : d = false → ((ofL n l).meet sig).none = true) (v : Int) : HX n (S.store c v).2 x sig d := by
  rcases store_val S c v with ⟨e1, e2, e3, _⟩ | ⟨e1, e2, e3, _⟩
  · exact h.same e1
  · refine ⟨h.i, h.slot, h.gen, h.c0, h.c1, h.fs, h.fb, h.own, fun hd hn ho => ?_, fun q => by rw [ho] at q; cases q⟩
    have hne : x.cell ≠ c := fun e => by
      subst e
      have h1 := meets_of hc (h.full hn)
      rw [hm hd] at h1
      cases h1
    rw [e1, nth_set hne c0]
    exact h.val hd hn ho
theorem HX.put_W (a : HX n S x sig d) (b : HS n S P sig d) {w : Int} (hw : w = 0 ∨ w = 1) (u : Nat) : (S.put 0 w u).2.W = [((sig.with_ w u).a : Int), ((sig.with_ w u).b : Int)] := by
  obtain ⟨h, hH⟩ := b.ws
  rcases hw with rfl | rfl
  · have : wnth S 0 0 = some (sig.a : Int) := by unfold wnth; rw [hH, b.W]; rfl
    unfold Sp.put
    rw [this]
    simp [b.W, Sg.with_, Sp.acc]
  · have : wnth S 0 1 = some (sig.b : Int) := by unfold wnth; rw [hH, b.W]; rfl
    unfold Sp.put
    rw [this]
    simp [b.W, Sg.with_, Sp.acc]
theorem wd_up {s b : Sg} (h : Sub s b) (w : Int) : Sub s (s.with_ w (b.wd w)) := by
  unfold Sg.with_ Sg.wd
  split
  · exact ⟨h.1, Nat.or_self _⟩
  · exact ⟨Nat.or_self _, h.2⟩
theorem with_in {s b : Sg} (h : Sub s b) (w : Int) : Sub (s.with_ w (b.wd w)) b := with_sub h (Sub.refl b) w
/-- A step of the read. -/
theorem HX.step (a : HX n S x sig d) (b : HS n S P sig d) (ho : x.over = false) : ∃ sig', HS n (x.step S).2.2 P sig' d ∧ HX n (x.step S).2.2 (x.step S).2.1 sig' d := by
  obtain ⟨s1, s2, s3, s4⟩ := a.i.sp S
  obtain ⟨r1, r2, r3, r4⟩ := a.i.same S
  have hi := a.i.step S
  have hval : d = false → 2 ≤ (x.step S).2.1.next → (x.step S).2.1.over = false → nth S.cells x.cell = some (x.step S).2.1.x := by
    rcases a.i.ways ho with ⟨hn, w, l, hw⟩ | ⟨hn, hw⟩ | ⟨hn, hw⟩ | ⟨hn, hw⟩
    · rw [Rd.step_pub ho hn hw]
      intro _ e
      have e1 : 2 ≤ (if l.length = 0 then 1 else 0) := e
      split at e1 <;> omega
    · rw [Rd.step_load ho hn]
      intro _ _ _
      obtain ⟨y, hy⟩ := nth_in (l := S.cells) a.c0 (by have := b.len; have := a.c1; omega)
      have : (S.load x.cell).1.1 = y := by rw [load_val, hy]; rfl
      rw [hy]
      show some y = some (S.load x.cell).1.1
      rw [this]
    · rw [Rd.step_gate ho hn]
      intro hd
      have hx := a.val hd (by omega) ho
      unfold Rd.gate
      simp only
      split
      · intro _ _; exact hx
      · split
        · intro _ _; exact hx
        · intro e; exact absurd e (by simp)
    · rw [Rd.step_head ho hn]
      unfold Rd.head
      simp only
      split <;> (intro _ _ e; cases e)
  have hfin : (x.step S).2.1.over = true → ((x.step S).2.1.e = 0 ∧ nth S.cells x.cell = some (x.step S).2.1.x ∧ d = false) ∨ ((x.step S).2.1.e = 7 ∧ d = true) := by
    intro hs
    obtain ⟨hn, e⟩ := a.i.last ho hs
    obtain ⟨y, hy, h1, h2, h3⟩ := b.H
    rw [e, a.slot, look_one hy]
    show ((x.head y).e = 0 ∧ _ = some (x.head y).x ∧ _) ∨ _
    unfold Rd.head
    cases d with
    | true =>
      rw [if_pos (.inr (.inr h3))]
      exact .inr ⟨rfl, rfl⟩
    | false =>
      rw [if_neg (by rw [h1, h2, h3, a.gen]; simp)]
      exact .inl ⟨rfl, a.val rfl (by omega) ho, rfl⟩
  have hrest : ∀ sig', (x.step S).2.1.f.sig = sig' → Sub sig sig' → Sub sig' x.both → (x.step S).2.2.W = [(sig'.a : Int), (sig'.b : Int)] → ∃ sig', HS n (x.step S).2.2 P sig' d ∧ HX n (x.step S).2.2 (x.step S).2.1 sig' d := by
    intro sig' e1 e2 e3 e4
    refine ⟨sig', ⟨by rw [s4]; exact b.H, e4, by rw [s3]; exact b.len, fun p hp => ?_, by rw [s3]; exact b.val⟩, ⟨hi, r2.trans a.slot, r3.trans a.gen, by rw [r1]; exact a.c0, by rw [r1]; exact a.c1, e1, by rw [r4]; exact e3, by rw [r1, r4]; exact a.own, by rw [s3, r1]; exact hval, by rw [s3, r1]; exact hfin⟩⟩
    obtain ⟨p0, p1, p2⟩ := b.in_ p hp
    exact ⟨p0, p1, p2.trans e2⟩
  have hf := a.fs
  rcases a.i.ways ho with ⟨hn, w, l, hw⟩ | ⟨hn, hw⟩ | ⟨hn, hw⟩ | ⟨hn, hw⟩
  · refine hrest (sig.with_ w (x.both.wd w)) ?_ (wd_up a.fb w) (with_in a.fb w) ?_
    · rw [Rd.step_pub ho hn hw]
      show x.f.sig.with_ w (x.both.wd w) = _
      rw [hf]
    · rw [Rd.step_pub ho hn hw, a.slot]
      exact a.put_W b (a.i.ok.words w (by rw [hw]; simp)) _
  · refine hrest sig ?_ (Sub.refl _) a.fb ?_
    · rw [Rd.step_load ho hn]; exact hf
    · rw [Rd.step_load ho hn]
      have : (S.load x.cell).2.W = S.W := by unfold Sp.load; split <;> rfl
      exact this.trans b.W
  · refine hrest sig ?_ (Sub.refl _) a.fb ?_
    · rw [Rd.step_gate ho hn]
      have e : (x.gate S.gate.number).f.sig = x.f.sig := by unfold Rd.gate; split; rfl; split <;> rfl
      exact e.trans hf
    · rw [Rd.step_gate ho hn]
      exact b.W
  · refine hrest sig ?_ (Sub.refl _) a.fb ?_
    · rw [Rd.step_head ho hn]
      have e : (x.head (S.look x.f.slot).1.1).f.sig = x.f.sig := by unfold Rd.head; split <;> rfl
      exact e.trans hf
    · rw [Rd.step_head ho hn]
      have : (S.look x.f.slot).2.W = S.W := by unfold Sp.look; split <;> rfl
      exact this.trans b.W
/-- As it begins. -/
theorem HX.new {f : Fr} {cell : Int} (b : HS n S P sig d) (hfs : f.sig = sig) (hf : f.slot = 0) (hg : f.gen = 1) (hs : sig.ok) (ho : (ownSg n cell).ok) (c0 : 0 ≤ cell) (c1 : cell ≤ 15) : HX n S (Rd.new n f cell) sig d := by
  subst hfs
  refine ⟨RI.new n f cell hs ho, hf, hg, c0, c1, rfl, Sub.left _ _, Sub.right _ _, fun _ e => ?_, fun e => by cases e⟩
  have e1 : 2 ≤ (if (wordsL ((ownSg n cell).minus f.sig)).length = 0 then 1 else 0) := e
  split at e1 <;> omega
/-- As it ends. -/
theorem HX.read (a : HX n S x sig d) (b : HS n S P sig d) (ho : x.over = true) (he : x.e = 0) : HS n S (P ++ [(x.cell, x.x)]) sig d := by
  rcases a.fin ho with ⟨_, h2, h3⟩ | ⟨h1, _⟩
  · refine ⟨b.H, b.W, b.len, fun p hp => ?_, fun hd p hp => ?_⟩
    · rw [List.mem_append] at hp
      rcases hp with hp | hp
      · exact b.in_ p hp
      · simp at hp; subst hp
        have hn := a.i.ov ho
        exact ⟨a.c0, a.c1, a.full (by omega)⟩
    · rw [List.mem_append] at hp
      rcases hp with hp | hp
      · exact b.val hd p hp
      · simp at hp; subst hp; exact h2
  · rw [he] at h1; cases h1
end
end Go.Proofs.Ytelljfhhjapgnaa

namespace Go.Proofs.Ytelljfhhjapgnaa
open Go.RowKit
set_option linter.unusedVariables false
set_option linter.unusedSimpArgs false
/-- Rows of one-cell elements made since wb, beside X. -/
def RowsB (wb w : World) (X : List Nat) (rs : List (TypeId × Value × List Value)) : Prop := ∀ r, r ∈ rs → w.ownsRow wb.heap.size r.1 1 r.2.1 r.2.2.length r.2.2 ∧ ∀ q, r.2.1.ownBlock = some q → q ∉ X
theorem RowsB.step {wb w w' : World} {X X' : List Nat} {rs : List (TypeId × Value × List Value)} (h : RowsB wb w X rs) (hk : Keeps X w w') (hn : ∀ x, x ∈ X' → x ∈ X ∨ w.heap.size ≤ x) : RowsB wb w' X' rs := fun r hr => by
  obtain ⟨h1, h2⟩ := h r hr
  refine ⟨own_keeps h1 hk h2, fun q hq hx => ?_⟩
  have h3 := (h1.lt q hq).2
  rcases hn q hx with h4 | h4
  · exact h2 q hq h4
  · omega
theorem RowsB.calm {wb w w' : World} {X : List Nat} {rs : List (TypeId × Value × List Value)} (h : RowsB wb w X rs) (hk : Keeps [] w w') : RowsB wb w' X rs := fun r hr => ⟨own_keeps (h r hr).1 hk (by simp), (h r hr).2⟩
theorem RowsB.far {wb w w' : World} {X Y : List Nat} {rs : List (TypeId × Value × List Value)} (h : RowsB wb w X rs) (hk : Keeps Y w w') (hY : ∀ r, r ∈ rs → ∀ q, r.2.1.ownBlock = some q → q ∉ Y) : RowsB wb w' X rs := fun r hr => ⟨own_keeps (h r hr).1 hk (hY r hr), (h r hr).2⟩
/-- The ints of a list, as cells. -/
abbrev iv (l : List Int) : List Value := l.map (Value.int .i64)
/-- What the reader's pointer holds: nothing, or a read of the cell ce that is not over. -/
def Rp (wb wr : World) (z : Sb) (F G : List Nat) (S : Sp) (n : Int) (xp : Value) (ce : Int) (sig : Sg) (d : Bool) : Prop :=
  xp = .pointer none ∧ G = [] ∨ ∃ b x, xp = PT b ∧ RD wb wr z F b G x ∧ HX n S x sig d ∧ x.cell = ce ∧ x.over = false
def Hu (wb : World) (z : Sb) (n : Int) (xp : Value) (ce : Int) (P : List (Int × Int)) (sig : Sg) (d : Bool) (k : Nat) (ls : List (Nat × TypeId × Array Value)) (rs : List (TypeId × Value × List Value)) (wr : World) : Prop :=
  ∃ F G S, SP wb wr z F S ∧ Fit k S ∧ S.c = c11 16 n ∧ HS n S P sig d ∧ sig.ok ∧ Locs wr (G ++ F) ls ∧ RowsB wb wr (G ++ F) rs ∧ Rp wb wr z F G S n xp ce sig d
/-- Behind a read's step. -/
def Hv (wb : World) (z : Sb) (b : Nat) (n : Int) (ce : Int) (over : Bool) (xv xe : Int) (P : List (Int × Int)) (sig : Sg) (d : Bool) (k : Nat) (ls : List (Nat × TypeId × Array Value)) (rs : List (TypeId × Value × List Value)) (wr : World) : Prop :=
  ∃ F G S x, SP wb wr z F S ∧ Fit k S ∧ S.c = c11 16 n ∧ HS n S P sig d ∧ sig.ok ∧ Locs wr (G ++ F) ls ∧ RowsB wb wr (G ++ F) rs ∧ RD wb wr z F b G x ∧ HX n S x sig d ∧ x.cell = ce ∧ x.over = over ∧ x.x = xv ∧ x.e = xe
section
variable {wb wr w' w0 w1 : World} {z : Sb} {b : Nat} {n ce xv xe : Int} {P : List (Int × Int)} {xp v1 : Value} {sig : Sg} {d d' over : Bool} {k : Nat} {ls : List (Nat × TypeId × Array Value)} {rs : List (TypeId × Value × List Value)} {F F' G : List Nat} {S S' : Sp}
theorem Rp.calm (h : Rp wb wr z F G S n xp ce sig d) (hk : Keeps [] wr w') : Rp wb w' z F G S n xp ce sig d := by
  rcases h with h | ⟨b, x, h1, h2, h3⟩
  · exact .inl h
  · exact .inr ⟨b, x, h1, h2.calm hk, h3⟩
theorem Rp.lt (h : Rp wb wr z F G S n xp ce sig d) : ∀ q, q ∈ G → q < wr.heap.size := by
  rcases h with ⟨_, rfl⟩ | ⟨b, x, h1, h2, h3⟩
  · intro q hq; cases hq
  · exact h2.lt
theorem Hu.calm (h : Hu wb z n xp ce P sig d k ls rs wr) (hk : Keeps [] wr w') : Hu wb z n xp ce P sig d k ls rs w' := by
  obtain ⟨F, G, S, h1, h2, h3, h4, h5, h6, h7, h8⟩ := h
  exact ⟨F, G, S, h1.calm hk, h2, h3, h4, h5, h6.calm hk, h7.calm hk, h8.calm hk⟩
theorem Hv.calm (h : Hv wb z b n ce over xv xe P sig d k ls rs wr) (hk : Keeps [] wr w') : Hv wb z b n ce over xv xe P sig d k ls rs w' := by
  obtain ⟨F, G, S, x, h1, h2, h3, h4, h5, h6, h7, h8, h9⟩ := h
  exact ⟨F, G, S, x, h1.calm hk, h2, h3, h4, h5, h6.calm hk, h7.calm hk, h8.calm hk, h9⟩
theorem Hu.keep (h : Hu wb z n xp ce P sig d k ls rs wr) : Keeps [] wb wr := by
  obtain ⟨F, G, S, h1, _⟩ := h
  exact h1.keep
theorem Hu.wide (h : Hu wb z n xp ce P sig d k ls rs wr) {j : Nat} (hj : k ≤ j) : Hu wb z n xp ce P sig d j ls rs wr := by
  obtain ⟨F, G, S, h1, h2, h3⟩ := h
  exact ⟨F, G, S, h1, h2.wide hj, h3⟩
theorem Hu.ok (h : Hu wb z n xp ce P sig d k ls rs wr) : sig.ok ∧ (∀ p, p ∈ P → 0 ≤ p.1 ∧ p.1 ≤ 15) := by
  obtain ⟨F, G, S, h1, h2, h3, h4, h5, h6, h7, h8⟩ := h
  exact ⟨h5, fun p hp => ⟨(h4.in_ p hp).1, (h4.in_ p hp).2.1⟩⟩
theorem Hu.loc (h : Hu wb z n xp ce P sig d k ls rs wr) {q : Nat} {t : TypeId} {cs : Array Value} (hl : (q, t, cs) ∈ ls) : Blk wr q t cs := by
  obtain ⟨F, G, S, h1, h2, h3, h4, h5, h6, h7, h8⟩ := h
  exact (h6 _ hl).blk
theorem Hu.row (h : Hu wb z n xp ce P sig d k ls rs wr) {t : TypeId} {v : Value} {xs : List Value} (hl : (t, v, xs) ∈ rs) : wr.ownsRow wb.heap.size t 1 v xs.length xs := by
  obtain ⟨F, G, S, h1, h2, h3, h4, h5, h6, h7, h8⟩ := h
  exact (h7 _ hl).1
theorem Hu.slc (h : Hu wb z n xp ce P sig d k ls rs wr) {t : TypeId} {v : Value} {xs : List Int} (hl : (t, v, iv xs) ∈ rs) (hm : xs.length ≤ maxLen) : ∃ A c, v = .slice A xs.length c ∧ Slc wr A xs := by
  obtain ⟨A, c, h1, h2, h3⟩ := Slc.of_own (h.row hl) hm
  exact ⟨A, c, by rw [h1, h2], h3⟩
/-- A new block beside. -/
theorem Hu.add (h : Hu wb z n xp ce P sig d k ls rs wr) (t : TypeId) (cs : Array Value) : Hu wb z n xp ce P sig d k ((wr.heap.size, t, cs) :: ls) rs (wr.alloc (.cells cs t)) := by
  obtain ⟨F, G, S, h1, h2, h3, h4, h5, h6, h7, h8⟩ := h
  refine ⟨F, G, S, h1.calm (by simp), h2, h3, h4, h5, fun l hl => ?_, h7.calm (by simp), h8.calm (by simp)⟩
  rcases List.mem_cons.1 hl with rfl | hl
  · refine ⟨Blk.new _ _ _, fun hx => ?_⟩
    rw [List.mem_append] at hx
    rcases hx with hx | hx
    · exact Nat.lt_irrefl _ (h8.lt _ hx)
    · exact Nat.lt_irrefl _ (h1.lt _ hx)
  · exact (h6 l hl).calm (by simp)
theorem Hu.less (h : Hu wb z n xp ce P sig d k ls rs wr) {l' : List (Nat × TypeId × Array Value)} {r' : List (TypeId × Value × List Value)} (hl : ∀ x, x ∈ l' → x ∈ ls) (hr : ∀ x, x ∈ r' → x ∈ rs) : Hu wb z n xp ce P sig d k l' r' wr := by
  obtain ⟨F, G, S, h1, h2, h3, h4, h5, h6, h7, h8⟩ := h
  exact ⟨F, G, S, h1, h2, h3, h4, h5, fun x hx => h6 x (hl x hx), fun x hx => h7 x (hr x hx), h8⟩
/-- A row made since an earlier world. -/
theorem Hu.addRow (h : Hu wb z n xp ce P sig d k ls rs w0) (hk : Keeps [] w0 wr) {t : TypeId} {v : Value} {xs : List Value} (ho : wr.ownsRow w0.heap.size t 1 v xs.length xs) : Hu wb z n xp ce P sig d k ls ((t, v, xs) :: rs) wr := by
  have hz := h.keep.size
  obtain ⟨F, G, S, h1, h2, h3, h4, h5, h6, h7, h8⟩ := h
  refine ⟨F, G, S, h1.calm hk, h2, h3, h4, h5, h6.calm hk, fun r hr => ?_, h8.calm hk⟩
  rcases List.mem_cons.1 hr with rfl | hr
  · refine ⟨own_base ho (fun q hq => Nat.le_trans hz (ho.lt q hq).1), fun q hq hx => ?_⟩
    have e1 := (ho.lt q hq).1
    rw [List.mem_append] at hx
    rcases hx with hx | hx
    · have := h8.lt q hx
      omega
    · have := h1.lt q hx
      omega
  · exact h7.calm hk r hr
/-- A call of the space's. -/
theorem hu_call (h3 : S'.c = c11 16 n) (h4 : HS n S' P sig d') (h5 : sig.ok) (h6 : Locs wr (G ++ F) ls) (h7 : RowsB wb wr (G ++ F) rs) (h8 : Rp wb wr z F G S n xp ce sig d)
    (hx : ∀ x, HX n S x sig d → x.over = false → HX n S' x sig d') (hf : Fit k S') (k1 : SP wb w' z F' S') (k2 : Keeps F wr w') (k3 : ∀ x, x ∈ F' → x ∈ F ∨ wr.heap.size ≤ x) : Hu wb z n xp ce P sig d' k ls rs w' := by
  obtain ⟨n1, n2⟩ := both_new (G := G) k2 k3
  refine ⟨F', G, S', k1, hf, h3, h4, h5, h6.step n1 n2, h7.step n1 n2, ?_⟩
  rcases h8 with h8 | ⟨b, x, a1, a2, a3, a4, a5⟩
  · exact .inl h8
  · exact .inr ⟨b, x, a1, a2.step k2 k3, hx x a3 a5, a4, a5⟩
theorem Hu.gate (h : Hu wb z n xp ce P sig d k ls rs wr) : Calls Try.prog 25 #[PT z.p] wr fun e w' => e = .returned (PT z.q) ∧ wr = w' := by
  obtain ⟨F, G, S, h1, _⟩ := h
  exact sp_gate h1
theorem Hu.slots (h : Hu wb z n xp ce P sig d k ls rs wr) : Calls Try.prog 20 #[PT z.p] wr fun e w' => e = .returned (PT z.t.q) ∧ wr = w' := by
  obtain ⟨F, G, S, h1, _⟩ := h
  exact sp_slots h1
theorem Hu.now (h : Hu wb z n xp ce P sig d k ls rs wr) : Calls Try.prog 29 #[PT z.q] wr fun e w' => (∃ g o : Int, e = .returned (.agg #[.int .i64 g, .int .i64 o])) ∧ Keeps [] wr w' := by
  obtain ⟨F, G, S, h1, _⟩ := h
  exact (g_now h1).mono fun e w' ⟨he, hk⟩ => ⟨⟨_, _, he⟩, hk⟩
theorem Hu.take (h : Hu wb z n xp ce P sig d k ls rs wr) (hk : k ≤ 1099511627776) (t : Int) : Calls Try.prog 26 #[PT z.q, .int .i64 t] wr fun e w' => (∃ a c : Int, e = .returned (.tuple #[.int .i64 a, .int .i64 c])) ∧ Hu wb z n xp ce P sig d (k + 1) ls rs w' := by
  obtain ⟨F, G, S, h1, h2, h3, h4, h5, h6, h7, h8⟩ := h
  obtain ⟨e1, e2, e3⟩ := take_same S t
  exact (sp_take h1 h2 hk t).mono fun e w' ⟨he, F', k1, k2, k3⟩ => ⟨⟨_, _, he⟩, hu_call ((take_c S t).trans h3) (h4.same e1 e2 e3) h5 h6 h7 h8 (fun x hx _ => hx.same e3) (h2.take t) k1 k2 k3⟩
theorem Hu.give (h : Hu wb z n xp ce P sig d k ls rs wr) (hk : k ≤ 1099511627776) (t : Int) : Calls Try.prog 27 #[PT z.q, .int .i64 t] wr fun e w' => (∃ a : Int, e = .returned (.int .i64 a)) ∧ Hu wb z n xp ce P sig d (k + 1) ls rs w' := by
  obtain ⟨F, G, S, h1, h2, h3, h4, h5, h6, h7, h8⟩ := h
  obtain ⟨e1, e2, e3⟩ := give_same S t
  exact (sp_give h1 h2 hk t).mono fun e w' ⟨he, F', k1, k2, k3⟩ => ⟨⟨_, he⟩, hu_call ((give_c S t).trans h3) (h4.same e1 e2 e3) h5 h6 h7 h8 (fun x hx _ => hx.same e3) (h2.give t) k1 k2 k3⟩
theorem Hu.doom (h : Hu wb z n xp ce P sig d k ls rs wr) (hk : k ≤ 1099511627776) : Calls Try.prog 21 #[PT z.t.q, .int .i64 0, .int .i64 1, .int .i64 2] wr fun e w' => (∃ r : Int, e = .returned (.int .i64 r)) ∧ Hu wb z n xp ce P sig true (k + 1) ls rs w' := by
  obtain ⟨F, G, S, h1, h2, h3, h4, h5, h6, h7, h8⟩ := h
  obtain ⟨a1, a2, a3⟩ := h4.doom 2 (by decide) (by decide)
  exact (sp_doom h1 h2 hk 0 1 2).mono fun e w' ⟨he, F', k1, k2, k3⟩ => ⟨⟨_, he⟩, hu_call (a3.trans h3) a1 h5 h6 h7 h8 (fun x hx ho => hx.doom ho a2) (h2.doom 0 1 2) k1 k2 k3⟩
theorem Hu.store (h : Hu wb z n xp ce P sig d k ls rs wr) (hk : k ≤ 1099511627776) {l : List Int} {c : Int} (hc : c ∈ l) (c0 : 0 ≤ c) (hm : d = false → ((ofL n l).meet sig).none = true) (v : Int) : Calls Try.prog 34 #[PT z.p, .int .i64 c, .int .i64 v] wr fun e w' => (∃ r : Int, e = .returned (.int .i64 r)) ∧ Hu wb z n xp ce P sig d (k + 1) ls rs w' := by
  obtain ⟨F, G, S, h1, h2, h3, h4, h5, h6, h7, h8⟩ := h
  have e : (S.store c v).2.c = S.c := by
    rcases store_val S c v with ⟨_, _, _, e⟩ | ⟨_, _, _, e⟩ <;> exact e
  exact (sp_store h1 h2 hk c v).mono fun e' w' ⟨he, F', k1, k2, k3⟩ => ⟨⟨_, he⟩, hu_call (e.trans h3) (h4.store hc c0 hm v) h5 h6 h7 h8 (fun x hx ho => hx.store ho hc c0 hm v) (h2.store c v) k1 k2 k3⟩
/-- A read begins. -/
theorem Hu.new (h : Hu wb z n (.pointer none) ce P sig d k ls rs wr) (seen : Int) (n0 : 1 ≤ n) (n1 : n ≤ 128) {c : Int} (c0 : 0 ≤ c) (c1 : c ≤ 15) :
    Calls Try.prog 13 #[PT z.p, .agg #[.int .i64 0, .int .i64 1, .int .i64 seen, .int .u64 (sig.a : Int), .int .u64 (sig.b : Int)], .int .i64 c] wr fun e w' => (∃ b, e = .returned (.tuple #[PT b, .int .i64 0]) ∧ Hu wb z n (PT b) c P sig d k ls rs w') ∧ Keeps [] wr w' := by
  obtain ⟨F, G, S, h1, h2, h3, h4, h5, h6, h7, h8⟩ := h
  obtain rfl : G = [] := by
    rcases h8 with ⟨_, h⟩ | ⟨b, x, e, _⟩
    · exact h
    · cases e
  refine (read_new h1 h2 ⟨0, 1, seen, sig⟩ h5 c c0 (by rw [h3]; show c < 16; omega) (by show (0 : Int) ≤ 0; decide) (by rw [h3]; show (0 : Int) < 1; decide)).mono fun e w' ⟨b, G, he, hr, hg, hk⟩ => ?_
  refine ⟨⟨b, he, F, G, S, h1.calm hk, h2, h3, h4, h5, fun l hl => ⟨(h6 l hl).blk.keeps hk (by simp), fun hx => ?_⟩, fun r hr' => ⟨(h7.calm hk r hr').1, fun q hq hx => ?_⟩, .inr ⟨b, _, rfl, hr, ?_, rfl, rfl⟩⟩, hk⟩
  · rw [List.mem_append] at hx
    rcases hx with hx | hx
    · have h1' := hg _ hx
      have h2' := (h6 l hl).blk.lt
      omega
    · exact (h6 l hl).off (by simp [hx])
  · rw [List.mem_append] at hx
    rcases hx with hx | hx
    · have h1' := hg _ hx
      have h2' := ((h7 r hr').1.lt q hq).2
      omega
    · exact (h7 r hr').2 q hq (by simp [hx])
  · rw [h3]
    exact HX.new (f := ⟨0, 1, seen, sig⟩) h4 rfl rfl rfl h5 (ownSg_ok n0 n1 c) c0 c1
/-- Its step. -/
theorem Hu.step (h : Hu wb z n (PT b) ce P sig d k ls rs wr) (hk : k ≤ 1099511627776) : Calls Try.prog 15 #[PT b] wr fun e w' => (∃ a : Int, e = .returned (.int .i64 a)) ∧ ∃ sig' over' xv xe, Hv wb z b n ce over' xv xe P sig' d (k + 1) ls rs w' := by
  obtain ⟨F, G, S, h1, h2, h3, h4, h5, h6, h7, h8⟩ := h
  rcases h8 with ⟨e, _⟩ | ⟨b', x, e, a2, a3, a4, a5⟩
  · cases e
  obtain rfl : b = b' := by injection e with e; injection e with e; injection e
  obtain ⟨sig', q1, q2⟩ := a3.step h4 a5
  obtain ⟨s1, s2, s3, s4⟩ := a3.i.sp S
  obtain ⟨r1, r2, r3, r4⟩ := a3.i.same S
  refine (rd_step h1 h2 hk a2 a3.i).mono fun e w' ⟨he, F', G', k1, k2, k3, k4, k5⟩ => ?_
  have n2 : ∀ x, x ∈ G' ++ F' → x ∈ G ++ F ∨ wr.heap.size ≤ x := fun q hq => by
    rw [List.mem_append] at hq ⊢
    rcases hq with hq | hq
    · rcases k5 q hq with h | h
      · exact .inl (.inl h)
      · exact .inr h
    · rcases k4 q hq with h | h
      · exact .inl (.inr h)
      · exact .inr h
  exact ⟨⟨_, he⟩, sig', _, _, _, F', G', _, _, k1, a3.i.fit h2, s1.trans h3, q1, by rw [← q2.fs]; exact q2.i.ok.sg, h6.step k3 n2, h7.step k3 n2, k2, q2, r1.trans a4, rfl, rfl, rfl⟩
theorem Hv.done_ (h : Hv wb z b n ce over xv xe P sig d k ls rs wr) : Calls Try.prog 14 #[PT b] wr fun e w' => e = .returned (.bool over) ∧ wr = w' := by
  obtain ⟨F, G, S, x, h1, h2, h3, h4, h5, h6, h7, ⟨⟨wv, ha, _⟩, _, _⟩, h9, h10, h11, h12, h13⟩ := h
  have := rd_done ha
  rw [h11] at this
  exact this
theorem Hv.value (h : Hv wb z b n ce over xv xe P sig d k ls rs wr) : Calls Try.prog 16 #[PT b] wr fun e w' => e = .returned (.tuple #[.int .i64 (if xe = 0 then xv else 0), .int .i64 xe]) ∧ Keeps [] wr w' := by
  obtain ⟨F, G, S, x, h1, h2, h3, h4, h5, h6, h7, ⟨⟨wv, ha, _⟩, _, _⟩, h9, h10, h11, h12, h13⟩ := h
  have := rd_value ha
  rw [h12, h13] at this
  exact this
theorem Hv.from_ (h : Hv wb z b n ce over xv xe P sig d k ls rs wr) : ∃ s : Int, ∀ w', Keeps [] wr w' → Calls Try.prog 17 #[PT b] w' fun e w'' => e = .returned (.agg #[.int .i64 0, .int .i64 1, .int .i64 s, .int .u64 (sig.a : Int), .int .u64 (sig.b : Int)]) ∧ Keeps [] w' w'' := by
  obtain ⟨F, G, S, x, h1, h2, h3, h4, h5, h6, h7, h8, h9, h10, h11, h12, h13⟩ := h
  refine ⟨x.f.seen, fun w' hk => ?_⟩
  obtain ⟨⟨wv, ha, _⟩, _, _⟩ := h8.calm hk
  have := rd_from ha
  unfold Fr.val Fr.cells at this
  rw [h9.fs, h9.slot, h9.gen] at this
  exact this
/-- It goes on. -/
theorem Hv.cont (h : Hv wb z b n ce false xv xe P sig d k ls rs wr) : Hu wb z n (PT b) ce P sig d k ls rs wr := by
  obtain ⟨F, G, S, x, h1, h2, h3, h4, h5, h6, h7, h8, h9, h10, h11, h12, h13⟩ := h
  exact ⟨F, G, S, h1, h2, h3, h4, h5, h6, h7, .inr ⟨b, x, rfl, h8, h9, h10, h11⟩⟩
/-- Blocks beside are written over, between reads. -/
theorem Hu.put {q : Nat} {t : TypeId} {cs cs' : Array Value} (h : Hu wb z n (.pointer none) ce P sig d k ((q, t, cs) :: ls) rs wr) (hq : wb.heap.size ≤ q) (ht : t ∉ spFix) (htr : ∀ r, r ∈ rs → r.1 ≠ t) (hne : ∀ l, l ∈ ls → l.1 ≠ q) (hk : Keeps [q] wr w') (hb : Blk w' q t cs') : Hu wb z n (.pointer none) ce P sig d k ((q, t, cs') :: ls) rs w' := by
  obtain ⟨F, G, S, h1, h2, h3, h4, h5, h6, h7, h8⟩ := h
  obtain rfl : G = [] := by
    rcases h8 with ⟨_, h⟩ | ⟨b, x, e, _⟩
    · exact h
    · cases e
  have h11 := h6 (q, t, cs) (by simp)
  refine ⟨F, [], S, h1.away hk (fun x hx => ?_), h2, h3, h4, h5, fun l hl => ?_, h7.far hk (fun r hr x hx he => ?_), .inl ⟨rfl, rfl⟩⟩
  · simp at hx; subst hx
    exact ⟨hq, fun hf => h11.off (by simp [hf]), fun t' ht' => by have := h11.blk.tyOf; rw [this] at ht'; injection ht' with ht'; subst ht'; exact ht⟩
  · rcases List.mem_cons.1 hl with rfl | hl
    · exact ⟨hb, h11.off⟩
    · exact (h6 l (by simp [hl])).far hk (by simpa using hne l hl)
  · simp at he; subst he
    have e1 := own_tyOf (h7 r hr).1 hx
    rw [h11.blk.tyOf] at e1
    injection e1 with e1
    exact htr r hr e1.symm
theorem Hv.loc (h : Hv wb z b n ce over xv xe P sig d k ls rs wr) {q : Nat} {t : TypeId} {cs : Array Value} (hl : (q, t, cs) ∈ ls) : Blk wr q t cs := by
  obtain ⟨F, G, S, x, h1, h2, h3, h4, h5, h6, h7, h8, h9⟩ := h
  exact (h6 _ hl).blk
theorem Hv.row (h : Hv wb z b n ce over xv xe P sig d k ls rs wr) {t : TypeId} {v : Value} {xs : List Value} (hl : (t, v, xs) ∈ rs) : wr.ownsRow wb.heap.size t 1 v xs.length xs := by
  obtain ⟨F, G, S, x, h1, h2, h3, h4, h5, h6, h7, h8, h9⟩ := h
  exact (h7 _ hl).1
theorem Hv.less (h : Hv wb z b n ce over xv xe P sig d k ls rs wr) {l' : List (Nat × TypeId × Array Value)} {r' : List (TypeId × Value × List Value)} (hl : ∀ x, x ∈ l' → x ∈ ls) (hr : ∀ x, x ∈ r' → x ∈ rs) : Hv wb z b n ce over xv xe P sig d k l' r' wr := by
  obtain ⟨F, G, S, x, h1, h2, h3, h4, h5, h6, h7, h8, h9⟩ := h
  exact ⟨F, G, S, x, h1, h2, h3, h4, h5, fun x hx => h6 x (hl x hx), fun x hx => h7 x (hr x hx), h8, h9⟩
theorem Hv.keep (h : Hv wb z b n ce over xv xe P sig d k ls rs wr) : Keeps [] wb wr := by
  obtain ⟨F, G, S, x, h1, _⟩ := h
  exact h1.keep
/-- What was read stands beside the others, or the slot is doomed. -/
theorem Hv.fin (h : Hv wb z b n ce true xv xe P sig d k ls rs wr) : (xe = 0 ∧ Hv wb z b n ce true xv xe (P ++ [(ce, xv)]) sig d k ls rs wr) ∨ (xe = 7 ∧ d = true) := by
  obtain ⟨F, G, S, x, h1, h2, h3, h4, h5, h6, h7, h8, h9, h10, h11, h12, h13⟩ := h
  rcases h9.fin h11 with ⟨e1, _⟩ | ⟨e1, e2⟩
  · have h4' := h9.read h4 h11 e1
    rw [h10, h12] at h4'
    exact .inl ⟨h13.symm.trans e1, F, G, S, x, h1, h2, h3, h4', h5, h6, h7, h8, h9, h10, h11, h12, h13⟩
  · exact .inr ⟨h13.symm.trans e1, e2⟩
/-- The read is dropped. -/
theorem Hv.drop (h : Hv wb z b n ce over xv xe P sig d k ls rs wr) (c : Int) : Hu wb z n (.pointer none) c P sig d k ls rs wr := by
  obtain ⟨F, G, S, x, h1, h2, h3, h4, h5, h6, h7, h8, h9, h10, h11, h12, h13⟩ := h
  exact ⟨F, [], S, h1, h2, h3, h4, h5, fun l hl => ⟨(h6 l hl).blk, fun hx => (h6 l hl).off (by simp at hx; simp [hx])⟩, fun r hr => ⟨(h7 r hr).1, fun q hq hx => (h7 r hr).2 q hq (by simp at hx; simp [hx])⟩, .inl ⟨rfl, rfl⟩⟩
theorem Hv.put {q : Nat} {t : TypeId} {cs cs' : Array Value} (h : Hv wb z b n ce over xv xe P sig d k ((q, t, cs) :: ls) rs wr) (hq : wb.heap.size ≤ q) (ht : t ∉ spFix) (htr : ∀ r, r ∈ rs → r.1 ≠ t) (hne : ∀ l, l ∈ ls → l.1 ≠ q) (hk : Keeps [q] wr w') (hb : Blk w' q t cs') : Hv wb z b n ce over xv xe P sig d k ((q, t, cs') :: ls) rs w' := by
  obtain ⟨F, G, S, x, h1, h2, h3, h4, h5, h6, h7, h8, h9⟩ := h
  have h11 := h6 (q, t, cs) (by simp)
  refine ⟨F, G, S, x, h1.away hk (fun x hx => ?_), h2, h3, h4, h5, fun l hl => ?_, h7.far hk (fun r hr x hx he => ?_), h8.keeps hk (fun y hy hx => ?_) (fun y hy => .inl hy), h9⟩
  · simp at hx; subst hx
    exact ⟨hq, fun hf => h11.off (by simp [hf]), fun t' ht' => by have := h11.blk.tyOf; rw [this] at ht'; injection ht' with ht'; subst ht'; exact ht⟩
  · rcases List.mem_cons.1 hl with rfl | hl
    · exact ⟨hb, h11.off⟩
    · exact (h6 l (by simp [hl])).far hk (by simpa using hne l hl)
  · simp at he; subst he
    have e1 := own_tyOf (h7 r hr).1 hx
    rw [h11.blk.tyOf] at e1
    injection e1 with e1
    exact htr r hr e1.symm
  · simp at hx; subst hx
    exact h11.off (by simp [hy])
theorem Hv.snoc {t : TypeId} {v : Value} {xs : List Value} {y : Value} (h : Hv wb z b n ce over xv xe P sig d k ls ((t, v, xs) :: rs) wr) (ht : t ∉ spFix) (hl : ∀ l, l ∈ ls → l.2.1 ≠ t) (hr : ∀ r, r ∈ rs → r.1 ≠ t) (hk : Keeps [] wr w0) {m : Nat} (hm : m = xs.length + 1)
    (ho : w1.ownsRow 0 t 1 v1 m (xs ++ [y])) (hg : w0.grownBy w1 v.ownBlock) (ha : v1.ownBlock = v.ownBlock ∨ v1.ownBlock = some w0.heap.size) : Hv wb z b n ce over xv xe P sig d k ls ((t, v1, xs ++ [y]) :: rs) w1 := by
  obtain ⟨F, G, S, x, h1, h2, h3, h4, h5, h6, h7, h8, h9⟩ := h
  have hr0 := h7 (t, v, xs) (by simp)
  have hz := hk.size
  have hzb := h1.keep.size
  have r2 : Keeps v.ownBlock.toList wr w1 := (hk.mono (by simp)).grown hg (fun k hk' => .inl (by simp [hk']))
  have hmem : ∀ q, q ∈ v.ownBlock.toList → v.ownBlock = some q := fun q hq => by simpa using hq
  refine ⟨F, G, S, x, h1.away r2 (fun q hq => ?_), h2, h3, h4, h5, fun l hl' => ⟨(h6 l hl').blk.keeps r2 (fun hx => ?_), (h6 l hl').off⟩, fun r hr' => ?_, h8.keeps r2 (fun q hq hx => hr0.2 q (hmem q hx) (by simp [hq])) (fun q hq => .inl hq), h9⟩
  · have e := hmem q hq
    refine ⟨(hr0.1.lt q e).1, fun hf => hr0.2 q e (by simp [hf]), fun t' ht' => ?_⟩
    have e1 := own_tyOf hr0.1 e
    rw [e1] at ht'
    injection ht' with ht'
    subst ht'
    exact ht
  · have e := own_tyOf hr0.1 (hmem _ hx)
    rw [(h6 l hl').blk.tyOf] at e
    injection e with e
    exact hl l hl' e
  · rcases List.mem_cons.1 hr' with rfl | hr'
    · refine ⟨own_base (by rw [hm] at ho; simpa using ho) (fun q hq => ?_), fun q hq hx => ?_⟩
      · rcases ha with e | e
        · exact (hr0.1.lt q (e ▸ hq)).1
        · rw [e] at hq; injection hq with hq; omega
      · rcases ha with e | e
        · exact hr0.2 q (e ▸ hq) hx
        · rw [e] at hq; injection hq with hq
          rw [List.mem_append] at hx
          rcases hx with hx | hx
          · have := h8.lt q hx
            omega
          · have := h1.lt q hx
            omega
    · have h7' := h7 r (by simp [hr'])
      refine ⟨own_keeps h7'.1 r2 (fun q hq hx => ?_), h7'.2⟩
      have e1 := own_tyOf h7'.1 hq
      rw [own_tyOf hr0.1 (hmem q hx)] at e1
      injection e1 with e1
      exact hr r hr' e1.symm
theorem flat_iv (l : List Int) : l.flatMap RowI.cells = iv l := by
  induction l with
  | nil => rfl
  | cons a l ih => simp [RowI.cells, iv, ih]
/-- What is told. -/
theorem Hu.view (h : Hu wb z n xp ce P sig d k ls rs wr) : Calls Try.prog 19 #[PT z.p] wr fun e w' => ∃ (L : List Int) (a1 c1 a2 c2 : Nat) (gn go : Int), e = .returned (.agg #[.slice (some ⟨a1, 0, none⟩) 16 c1, .int .i64 gn, .int .i64 go, .slice (some ⟨a2, 0, none⟩) 1 c2]) ∧ L.length = 16 ∧ 0 ≤ gn ∧ a1 < w'.heap.size ∧ a2 < w'.heap.size ∧
    (∀ i x, L[i]? = some x → w'.cell? ⟨a1, i, none⟩ = some (.int .i64 x)) ∧ w'.cell? ⟨a2, 4, none⟩ = some (.bool d) ∧ w'.cell? ⟨a2, 6, none⟩ = some (.int .u64 (sig.a : Int)) ∧ w'.cell? ⟨a2, 7, none⟩ = some (.int .u64 (sig.b : Int)) ∧ (d = false → ∀ p, p ∈ P → nth L p.1 = some p.2) ∧ Keeps [] wr w' := by
  obtain ⟨F, G, S, h1, h2, h3, h4, h5, h6, h7, h8⟩ := h
  obtain ⟨hd, hH, _, _, hdm⟩ := h4.H
  refine (sp_view h1 h2).mono fun e w' ⟨a1, c1, a2, c2, he, q1, q2, q3, q4, q5⟩ => ?_
  rw [hH, h4.W] at q2
  rw [hH, h4.len] at he
  unfold OwnC at q1
  rw [flat_iv] at q1
  refine ⟨S.cells, a1, c1, a2, c2, _, _, he, h4.len, h2.g0, (q1.lt a1 rfl).2, (World.ownsRow.lt q2 a2 rfl).2, fun i x hx => ?_, ?_, ?_, ?_, h4.val, q5⟩
  · have hi := (List.getElem?_eq_some_iff.1 hx).1
    exact (q1.cellAt i (by omega)).trans (by simp [iv, hx])
  · exact (World.ownsRow.cellAt q2 4 (by simp)).trans (by rw [← hdm]; rfl)
  · exact (World.ownsRow.cellAt q2 6 (by simp)).trans rfl
  · exact (World.ownsRow.cellAt q2 7 (by simp)).trans rfl
end
end Go.Proofs.Ytelljfhhjapgnaa

namespace Go.Proofs.Ytelljfhhjapgnaa
open Go.RowKit
set_option linter.unusedVariables false
set_option linter.unusedSimpArgs false
theorem Slc.at_ {w : World} {A : Option Addr} {xs : List Int} (h : Slc w A xs) {j : Nat} {x : Int} (hx : xs[j]? = some x) : ∃ b off, A = some ⟨b, off, none⟩ ∧ b < w.heap.size ∧ w.cell? ⟨b, off + j, none⟩ = some (.int .i64 x) := by
  rcases h.2 with h | ⟨b, off, e, hb, hc⟩
  · rw [h] at hx; simp at hx
  · exact ⟨b, off, e, hb, hc j x hx⟩
set_option maxRecDepth 100000 in
set_option maxHeartbeats 8000000 in
theorem holds_any {wb wr : World} {z : Sb} {n ce : Int} {xp vc vv : Value} {P : List (Int × Int)} {sig : Sg} {d : Bool} {k : Nat} {ls : List (Nat × TypeId × Array Value)} {rs : List (TypeId × Value × List Value)}
    (h : Hu wb z n xp ce P sig d k ls rs wr) (hc : (3, vc, iv (P.map (·.1))) ∈ rs) (hv : (2, vv, iv (P.map (·.2))) ∈ rs) (hl : P.length ≤ 1048576) :
    Calls Try.prog 35 #[PT z.p, .agg #[vc, vv]] wr fun e w' => e = .returned (.bool true) ∧ Keeps [] wr w' := by
  obtain ⟨A, ca, rfl, hsA⟩ := h.slc hc (by simp; unfold maxLen; omega)
  obtain ⟨B, cb, rfl, hsB⟩ := h.slc hv (by simp; unfold maxLen; omega)
  rw [List.length_map, List.length_map]
  have hk1 : Keeps [] wr (wr.alloc (.cells #[.slice A P.length ca, .slice B P.length cb] 89)) := by simp
  have hb1 := Blk.new wr 89 #[.slice A P.length ca, .slice B P.length cb]
  have H1 := Lib.hid (h.calm hk1)
  have HB1 := Lib.hid hb1
  have HK1 := Lib.hid hk1
  have HSA := Lib.hid hsA
  have HSB := Lib.hid hsB
  have HOK := Lib.hid h.ok.2
  clear h hc hv hk1 hb1 hsA hsB
  go_enter Try.func35, Try.ntmps35
  go_wp2_with fail
  refine H1.out.view.mono ?_
  rintro e w1 ⟨L, a1, c1, a2, cv, gn, go, rfl, hL, hg0, l1, l2, hcell, hd, _, _, hval, hk2⟩
  have hka : Keeps [] w1 (w1.alloc (.cells #[.slice (some ⟨a1, 0, none⟩) 16 c1, .int .i64 gn, .int .i64 go, .slice (some ⟨a2, 0, none⟩) 1 cv] 54)) := by simp
  have hb2 := Blk.new w1 54 #[.slice (some ⟨a1, 0, none⟩) 16 c1, .int .i64 gn, .int .i64 go, .slice (some ⟨a2, 0, none⟩) 1 cv]
  obtain ⟨b1, hb1e⟩ : ∃ q, wr.heap.size = q := ⟨_, rfl⟩
  have hbb := (HB1.out.keeps hk2 (by simp)).keeps hka (by simp)
  have HK5 := Lib.hid (HK1.out.trans (hk2.trans hka (by simp)) (by simp))
  rw [hb1e] at hbb
  rw [hb1e]
  have hd5 := (keeps_cell hka l2 (by simp)).trans hd
  have hcell5 : Hid (∀ i x, L[i]? = some x → (w1.alloc (.cells #[.slice (some ⟨a1, 0, none⟩) 16 c1, .int .i64 gn, .int .i64 go, .slice (some ⟨a2, 0, none⟩) 1 cv] 54)).cell? ⟨a1, i, none⟩ = some (.int .i64 x)) := fun i x hx => (keeps_cell hka l1 (by simp)).trans (hcell i x hx)
  have hl5 : Hid (a1 < (w1.alloc (.cells #[.slice (some ⟨a1, 0, none⟩) 16 c1, .int .i64 gn, .int .i64 go, .slice (some ⟨a2, 0, none⟩) 1 cv] 54)).heap.size) := Nat.lt_of_lt_of_le l1 hka.size
  have HV := Lib.hid hval
  have HL := Lib.hid hL
  have d0 : (w1.alloc (.cells #[.slice (some ⟨a1, 0, none⟩) 16 c1, .int .i64 gn, .int .i64 go, .slice (some ⟨a2, 0, none⟩) 1 cv] 54)).cell? ⟨w1.heap.size, 0, none⟩ = some (.slice (some ⟨a1, 0, none⟩) 16 c1) := (hb2.cell 0).trans rfl
  have d1 : (w1.alloc (.cells #[.slice (some ⟨a1, 0, none⟩) 16 c1, .int .i64 gn, .int .i64 go, .slice (some ⟨a2, 0, none⟩) 1 cv] 54)).cell? ⟨w1.heap.size, 1, none⟩ = some (.int .i64 gn) := (hb2.cell 1).trans rfl
  have d3 : (w1.alloc (.cells #[.slice (some ⟨a1, 0, none⟩) 16 c1, .int .i64 gn, .int .i64 go, .slice (some ⟨a2, 0, none⟩) 1 cv] 54)).cell? ⟨w1.heap.size, 3, none⟩ = some (.slice (some ⟨a2, 0, none⟩) 1 cv) := (hb2.cell 3).trans rfl
  have hm : Int.tmod gn 2 = gn % 2 := Int.tmod_eq_emod_of_nonneg hg0
  have HB2 := Lib.hid hb2
  have HBB := Lib.hid hbb
  clear hk2 hka hb2 hbb hcell hd l1 l2 hval hL H1
  by_cases hq : gn % 2 = 1
  · have hqb : (gn % 2 == 1) = true := by simp [hq]
    go_wp2_with fail
    go_ret
    exact ⟨rfl, HK5.out⟩
  · have hqb : (gn % 2 == 1) = false := by simp [hq]
    cases d
    · go_wp2_with fail
      have HVV := Lib.hid (HV.out (by simp))
      obtain ⟨b2, hb2e⟩ : ∃ q, w1.heap.size = q := ⟨_, rfl⟩
      obtain ⟨w5, hw5⟩ : ∃ q, (w1.alloc (.cells #[.slice (some ⟨a1, 0, none⟩) 16 c1, .int .i64 gn, .int .i64 go, .slice (some ⟨a2, 0, none⟩) 1 cv] 54)) = q := ⟨_, rfl⟩
      have hsz : b1 < w5.heap.size ∧ b2 < w5.heap.size := ⟨by rw [← hw5]; exact HBB.out.lt, by rw [← hw5, ← hb2e]; exact HB2.out.lt⟩
      rw [hw5] at HBB HB2 HK5 hcell5 hl5
      rw [hb2e] at HB2
      rw [hw5]
      try rw [hb2e]
      clear hw5 hb2e HV d0 d1 d3 hd5
      have HSA5 := Lib.hid (HSA.out.keeps HK5.out)
      have HSB5 := Lib.hid (HSB.out.keeps HK5.out)
      clear HSA HSB HB1 HK1
      go_loopw [6] (fun i wl => ∃ j : Nat, j ≤ P.length ∧ i = .int .i64 j ∧ Keeps [] w5 wl) (fun i _ => P.length - (intOf i).toNat)
      case atStart => exact ⟨0, Nat.zero_le _, rfl, Keeps.refl _ _⟩
      case round =>
        obtain ⟨j, hj, rfl, hkl⟩ := hrel
        have hw1 : IntKind.i64.wrap ((j : Int) + 1) = (j : Int) + 1 := by rw [IntKind.wrap_i64]; omega
        have e1 := HBB.out.keeps hkl (by simp)
        have e2 := HB2.out.keeps hkl (by simp)
        obtain ⟨wl, hwl⟩ : ∃ q, q = wr := ⟨_, rfl⟩
        have HKL := Lib.hid hkl
        by_cases hlt : (j : Int) < (P.length : Int)
        · obtain ⟨⟨pc, pv⟩, hp⟩ : ∃ p, P[j]? = some p := ⟨_, List.getElem?_eq_getElem (by omega)⟩
          have hmem : (pc, pv) ∈ P := List.mem_of_getElem? hp
          obtain ⟨p0, p1⟩ := HOK.out _ hmem
          have hpv := HVV.out _ hmem
          simp only at p0 p1 hpv
          obtain ⟨q, rfl⟩ : ∃ q : Nat, pc = q := ⟨pc.toNat, by omega⟩
          have hLq : L[q]? = some pv := by
            unfold nth at hpv
            rw [if_pos p0, Int.toNat_natCast] at hpv
            exact hpv
          obtain ⟨ab, ao, rfl, ha, hac⟩ := (HSA5.out.keeps hkl).at_ (j := j) (x := (q : Int)) (by rw [List.getElem?_map, hp]; rfl)
          obtain ⟨bb, bo, rfl, hb, hbc⟩ := (HSB5.out.keeps hkl).at_ (j := j) (x := pv) (by rw [List.getElem?_map, hp]; rfl)
          have hcq := (keeps_cell hkl hl5.out (by simp)).trans (hcell5.out q pv hLq)
          have x0 : wr.cell? ⟨b1, 0, none⟩ = some (.slice (some ⟨ab, ao, none⟩) P.length ca) := (e1.cell 0).trans rfl
          have x1 : wr.cell? ⟨b1, 1, none⟩ = some (.slice (some ⟨bb, bo, none⟩) P.length cb) := (e1.cell 1).trans rfl
          have y0 : wr.cell? ⟨b2, 0, none⟩ = some (.slice (some ⟨a1, 0, none⟩) 16 c1) := (e2.cell 0).trans rfl
          have hne : (pv != pv) = false := by simp
          have q16 : (q : Int) < 16 := by omega
          have j0 : (0 : Int) ≤ (j : Int) := by omega
          clear hpv hmem hLq hp e1 e2 hkl hwl
          go_wp2_with fail
          go_quiet (fail)
          go_wp2_with fail
          exact ⟨⟨j + 1, by omega, by simp, HKL.out.trans (show Keeps [] wr _ by simp) (by simp)⟩, by simp [intOf]; omega⟩
        · have x0 : wr.cell? ⟨b1, 0, none⟩ = some (.slice A P.length ca) := (e1.cell 0).trans rfl
          clear hwl
          go_wp2_with fail
          go_ret
          exact ⟨rfl, HK5.out.trans hkl (by simp)⟩
    · go_wp2_with fail
      go_ret
      exact ⟨rfl, HK5.out⟩
end Go.Proofs.Ytelljfhhjapgnaa
