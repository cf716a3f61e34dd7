/- Rows of quashlaw01.thing: what they hold. -/
import Derived.Test.YtlpgcfgnimchaaaMDefs
namespace Go.Proofs.Ytlpgcfgnimchaaa
/-- What one cell of the row holds. -/
structure Th where
  s : ByteArray
  a : Int
  b : Int
deriving DecidableEq
def Th.zero : Th := ⟨⟨#[]⟩, 0, 0⟩
namespace RowS
open Go.RowKit
set_option linter.unusedVariables false

def cells (x : Th) : List Value := [.string x.s, .int .i64 x.a, .int .i64 x.b]
/-- That the types of a row, of its cells, of a meter and of an access differ. -/
structure Ty (R T : TypeId) : Prop where
  rt : R ≠ T
  ra : R ≠ 59
  re : R ≠ 31
  et : 31 ≠ T
  ea : 31 ≠ 59
/-- A row in block r, its cells in block b. -/
structure At (R : TypeId) (w : World) (r b : Nat) (kind : Int) (mp : Option Nat) (l : List Th) : Prop where
  blk : Blk w r R #[PM mp, .int .i64 kind, .slice (some ⟨b, 0, none⟩) l.length l.length]
  row : Blk w b 31 (l.flatMap cells).toArray
  fits : l.length ≤ 4096

theorem cells_length (l : List Th) : (l.flatMap cells).length = l.length * 3 := by
  induction l with
  | nil => rfl
  | cons x l ih => simp only [List.flatMap_cons, List.length_append, List.length_cons, ih]; simp [cells]; omega
theorem cells_get (l : List Th) (i : Nat) (x : Th) (h : l[i]? = some x) (j : Nat) (u : Value) (hu : (cells x)[j]? = some u) : (l.flatMap cells)[i * 3 + j]? = some u := by
  induction l generalizing i with
  | nil => simp at h
  | cons y l ih =>
    have hj : j < (cells x).length := (List.getElem?_eq_some_iff.1 hu).1
    rw [List.flatMap_cons]
    cases i with
    | zero =>
      simp at h; subst h
      rw [Nat.zero_mul, Nat.zero_add, List.getElem?_append_left hj]
      exact hu
    | succ i =>
      have e : (i + 1) * 3 + j = (cells y).length + (i * 3 + j) := by simp [cells]; omega
      rw [e, List.getElem?_append_right (by omega), Nat.add_sub_cancel_left]
      exact ih i (by simpa using h)
theorem cells_set (l : List Th) (i : Nat) (x : Th) : (((l.flatMap cells).set (i * 3) (.string x.s)).set (i * 3 + 1) (.int .i64 x.a)).set (i * 3 + 2) (.int .i64 x.b) = (l.set i x).flatMap cells := by
  induction l generalizing i with
  | nil => simp
  | cons y l ih =>
    cases i with
    | zero => simp [cells]
    | succ i =>
      have e : (i + 1) * 3 = i * 3 + 1 + 1 + 1 := by omega
      rw [e]
      simp only [List.flatMap_cons, cells, List.cons_append, List.nil_append, List.set_cons_succ]
      rw [← ih i]
      skip
theorem At.keeps {R : TypeId} {w w' : World} {S : List Nat} {r b : Nat} {kind : Int} {mp : Option Nat} {l : List Th} (h : At R w r b kind mp l) (hk : Keeps S w w') (h1 : r ∉ S) (h2 : b ∉ S) : At R w' r b kind mp l :=
  ⟨h.blk.keeps hk h1, h.row.keeps hk h2, h.fits⟩
theorem At.foot {R T : TypeId} (ty : Ty R T) {w : World} {r b : Nat} {kind : Int} {mp : Option Nat} {l : List Th} (h : At R w r b kind mp l) {mp' : Option Nat} {lb : Nat} {s : MS} (hm : MetAt T w mp' lb s) : r ∉ foot mp' lb ∧ b ∉ foot mp' lb :=
  ⟨apart hm h.blk ty.rt ty.ra, apart hm h.row ty.et ty.ea⟩
theorem At.noted {R T : TypeId} {w w' : World} {r b : Nat} {kind : Int} {mp : Option Nat} {l : List Th} (h : At R w r b kind mp l) {mp' : Option Nat} {lb : Nat} {s : MS} (ha : r ∉ Go.Proofs.Ytlpgcfgnimchaaa.foot mp' lb ∧ b ∉ Go.Proofs.Ytlpgcfgnimchaaa.foot mp' lb) (hn : Noted T mp' lb s w w') : At R w' r b kind mp l := by
  obtain ⟨_, _, hk, _⟩ := hn
  exact h.keeps hk ha.1 ha.2
theorem At.cell {R : TypeId} {w : World} {r b : Nat} {kind : Int} {mp : Option Nat} {l : List Th} (h : At R w r b kind mp l) {k : Nat} {x : Th} (hx : l[k]? = some x) :
    w.cell? ⟨b, k * 3, none⟩ = some (.string x.s) ∧ w.cell? ⟨b, k * 3 + 1, none⟩ = some (.int .i64 x.a) ∧ w.cell? ⟨b, k * 3 + 2, none⟩ = some (.int .i64 x.b) := by
  have hc := fun j u (hu : (cells x)[j]? = some u) => (h.row.cell (k * 3 + j)).trans (by simpa using cells_get l k x hx j u hu)
  exact ⟨hc 0 _ rfl, hc 1 _ rfl, hc 2 _ rfl⟩
/-- What a call of a method leaves: the row with these cells, the meter with these counts. -/
def Left (R T : TypeId) (r b : Nat) (kind : Int) (mp : Option Nat) (l : List Th) (lb : Nat) (s : MS) (w w' : World) : Prop :=
  At R w' r b kind mp l ∧ ∃ lb', MetAt T w' mp lb' s ∧ Keeps (b :: foot mp lb) w w' ∧ (lb' = lb ∨ w.heap.size ≤ lb')
theorem left_noted {R T : TypeId} (ty : Ty R T) {w w' : World} {r b : Nat} {kind : Int} {mp : Option Nat} {l : List Th} {lb : Nat} {s s' : MS} (hr : At R w r b kind mp l) (hm : MetAt T w mp lb s) (hn : Noted T mp lb s' w w') : Left R T r b kind mp l lb s' w w' := by
  have h1 := hr.noted (hr.foot ty hm) hn
  obtain ⟨lb', h2, h3, h4⟩ := hn
  exact ⟨h1, lb', h2, h3.mono (by simp +contextual), h4⟩
theorem Left.keeps {R T : TypeId} (ty : Ty R T) {w w' w2 : World} {r b : Nat} {kind : Int} {mp : Option Nat} {l : List Th} {lb : Nat} {s : MS} (h : Left R T r b kind mp l lb s w w') (hk : Keeps [] w' w2) : Left R T r b kind mp l lb s w w2 := by
  obtain ⟨h1, lb', h2, h3, h4⟩ := h
  exact ⟨h1.keeps hk (by simp) (by simp), lb', h2.keeps hk (by simp), h3.trans hk (by simp), h4⟩
theorem left_set {R T : TypeId} (ty : Ty R T) {w w' : World} {r b : Nat} {kind : Int} {mp : Option Nat} {l : List Th} {lb : Nat} {s s' : MS} (hr : At R w r b kind mp l) (hm : MetAt T w mp lb s) (hn : Noted T mp lb s' w w') (k : Nat) (x : Th) :
    Left R T r b kind mp (l.set k x) lb s' w (((w'.setCell ⟨b, k * 3, none⟩ (.string x.s)).setCell ⟨b, k * 3 + 1, none⟩ (.int .i64 x.a)).setCell ⟨b, k * 3 + 2, none⟩ (.int .i64 x.b)) := by
  have h1 := hr.noted (hr.foot ty hm) hn
  have hne := (hr.foot ty hm).2
  obtain ⟨lb', h2, h3, h4⟩ := hn
  have hbr : r ≠ b := h1.blk.ne_ h1.row ty.re
  have hkb : Keeps [b] w' (((w'.setCell ⟨b, k * 3, none⟩ (.string x.s)).setCell ⟨b, k * 3 + 1, none⟩ (.int .i64 x.a)).setCell ⟨b, k * 3 + 2, none⟩ (.int .i64 x.b)) := (((Keeps.refl _ _).setCell (.inl (by simp)) _).setCell (.inl (by simp)) _).setCell (.inl (by simp)) _
  have hb' : b ∉ foot mp lb' := (h1.foot ty h2).2
  refine ⟨⟨?_, ?_, ?_⟩, lb', ?_, ?_, h4⟩
  · have := h1.blk.keeps hkb (by simpa using hbr)
    simpa using this
  · have e : (((l.flatMap cells).toArray.setIfInBounds (k * 3) (.string x.s)).setIfInBounds (k * 3 + 1) (.int .i64 x.a)).setIfInBounds (k * 3 + 2) (.int .i64 x.b) = ((l.set k x).flatMap cells).toArray := by
      rw [← cells_set]; simp
    refine (congrArg (Blk _ b 31) e).mp ?_
    exact ((h1.row.set_ (k * 3) (.string x.s)).set_ (k * 3 + 1) (.int .i64 x.a)).set_ (k * 3 + 2) (.int .i64 x.b)
  · simpa using h1.fits
  · exact h2.keeps hkb (fun q hq hq' => by simp at hq'; subst hq'; exact hb' hq)
  · exact (h3.mono (T := b :: foot mp lb) (by simp +contextual)).trans hkb (fun q hq => .inl (by simp at hq; simp [hq]))

theorem cells_one (l : List Th) : ∀ u ∈ l.flatMap cells, u.oneCell' = true := by
  intro u hu
  rw [List.mem_flatMap] at hu
  obtain ⟨x, _, hx⟩ := hu
  simp only [cells, List.mem_cons, List.not_mem_nil, or_false] at hx
  rcases hx with rfl | rfl | rfl <;> rfl
theorem At.own {R : TypeId} {w : World} {r b : Nat} {kind : Int} {mp : Option Nat} {l : List Th} (h : At R w r b kind mp l) : w.ownsRow 0 31 3 (.slice (some ⟨b, 0, none⟩) l.length l.length) l.length (l.flatMap cells) :=
  ⟨cells_length l, .inr ⟨b, l.length, _, rfl, Nat.zero_le _, h.row, Nat.le_refl _, by have := h.fits; unfold maxLen; omega, by simpa using cells_length l, List.take_of_length_le (by simpa using Nat.le_of_eq (cells_length l))⟩⟩

/-- The program's rows. -/
abbrev R : TypeId := 79
end RowS
end Go.Proofs.Ytlpgcfgnimchaaa
