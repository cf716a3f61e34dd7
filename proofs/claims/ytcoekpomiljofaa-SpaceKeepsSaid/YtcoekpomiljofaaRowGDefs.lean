/- Rows of api.Gate: what they hold. -/
import Derived.Test.YtcoekpomiljofaaMDefs
namespace Go.Proofs.Ytcoekpomiljofaa
/-- What one cell of the row holds. -/
structure Gt where
  number : Int
  owner : Int
deriving DecidableEq
def Gt.zero : Gt := ⟨0, 0⟩
namespace RowG
open Go.RowKit
set_option linter.unusedVariables false

def cells (x : Gt) : List Value := [.int .i64 x.number, .int .i64 x.owner]
/-- That the types of a row, of its cells, of a meter and of an access differ. -/
structure Ty (R T : TypeId) : Prop where
  rt : R ≠ T
  ra : R ≠ 61
  re : R ≠ 38
  et : 38 ≠ T
  ea : 38 ≠ 61
/-- A row in block r, its cells in block b. -/
structure At (R : TypeId) (w : World) (r b : Nat) (kind : Int) (mp : Option Nat) (l : List Gt) : Prop where
  blk : Blk w r R #[PM mp, .int .i64 kind, .slice (some ⟨b, 0, none⟩) l.length l.length]
  row : Blk w b 38 (l.flatMap cells).toArray
  fits : l.length ≤ 4096

theorem cells_length (l : List Gt) : (l.flatMap cells).length = l.length * 2 := by
  induction l with
  | nil => rfl
  | cons x l ih => simp only [List.flatMap_cons, List.length_append, List.length_cons, ih]; simp [cells]; omega
theorem cells_get (l : List Gt) (i : Nat) (x : Gt) (h : l[i]? = some x) (j : Nat) (u : Value) (hu : (cells x)[j]? = some u) : (l.flatMap cells)[i * 2 + j]? = some u := by
  induction l generalizing i with
  | nil => simp at h
  | cons y l ih =>
    have hj : j < (cells x).length := (List.getElem?_eq_some_iff.1 hu).1
    rw [List.flatMap_cons]
    cases i with
    | zero =>
      simp at h; subst h
      rw [Nat.zero_mul, Nat.zero_add, List.getElem?_append_left hj]
      exact hu
    | succ i =>
      have e : (i + 1) * 2 + j = (cells y).length + (i * 2 + j) := by simp [cells]; omega
      rw [e, List.getElem?_append_right (by omega), Nat.add_sub_cancel_left]
      exact ih i (by simpa using h)
theorem cells_set (l : List Gt) (i : Nat) (x : Gt) : ((l.flatMap cells).set (i * 2) (.int .i64 x.number)).set (i * 2 + 1) (.int .i64 x.owner) = (l.set i x).flatMap cells := by
  induction l generalizing i with
  | nil => simp
  | cons y l ih =>
    cases i with
    | zero => simp [cells]
    | succ i =>
      have e : (i + 1) * 2 = i * 2 + 1 + 1 := by omega
      rw [e]
      simp only [List.flatMap_cons, cells, List.cons_append, List.nil_append, List.set_cons_succ]
      rw [← ih i]
      skip
theorem At.keeps {R : TypeId} {w w' : World} {S : List Nat} {r b : Nat} {kind : Int} {mp : Option Nat} {l : List Gt} (h : At R w r b kind mp l) (hk : Keeps S w w') (h1 : r ∉ S) (h2 : b ∉ S) : At R w' r b kind mp l :=
  ⟨h.blk.keeps hk h1, h.row.keeps hk h2, h.fits⟩
theorem At.foot {R T : TypeId} (ty : Ty R T) {w : World} {r b : Nat} {kind : Int} {mp : Option Nat} {l : List Gt} (h : At R w r b kind mp l) {mp' : Option Nat} {lb : Nat} {s : MS} (hm : MetAt T w mp' lb s) : r ∉ foot mp' lb ∧ b ∉ foot mp' lb :=
  ⟨apart hm h.blk ty.rt ty.ra, apart hm h.row ty.et ty.ea⟩
theorem At.noted {R T : TypeId} {w w' : World} {r b : Nat} {kind : Int} {mp : Option Nat} {l : List Gt} (h : At R w r b kind mp l) {mp' : Option Nat} {lb : Nat} {s : MS} (ha : r ∉ Go.Proofs.Ytcoekpomiljofaa.foot mp' lb ∧ b ∉ Go.Proofs.Ytcoekpomiljofaa.foot mp' lb) (hn : Noted T mp' lb s w w') : At R w' r b kind mp l := by
  obtain ⟨_, _, hk, _⟩ := hn
  exact h.keeps hk ha.1 ha.2
theorem At.cell {R : TypeId} {w : World} {r b : Nat} {kind : Int} {mp : Option Nat} {l : List Gt} (h : At R w r b kind mp l) {k : Nat} {x : Gt} (hx : l[k]? = some x) :
    w.cell? ⟨b, k * 2, none⟩ = some (.int .i64 x.number) ∧ w.cell? ⟨b, k * 2 + 1, none⟩ = some (.int .i64 x.owner) := by
  have hc := fun j u (hu : (cells x)[j]? = some u) => (h.row.cell (k * 2 + j)).trans (by simpa using cells_get l k x hx j u hu)
  exact ⟨hc 0 _ rfl, hc 1 _ rfl⟩
/-- What a call of a method leaves: the row with these cells, the meter with these counts. -/
def Left (R T : TypeId) (r b : Nat) (kind : Int) (mp : Option Nat) (l : List Gt) (lb : Nat) (s : MS) (w w' : World) : Prop :=
  At R w' r b kind mp l ∧ ∃ lb', MetAt T w' mp lb' s ∧ Keeps (b :: foot mp lb) w w' ∧ (lb' = lb ∨ w.heap.size ≤ lb')
theorem left_noted {R T : TypeId} (ty : Ty R T) {w w' : World} {r b : Nat} {kind : Int} {mp : Option Nat} {l : List Gt} {lb : Nat} {s s' : MS} (hr : At R w r b kind mp l) (hm : MetAt T w mp lb s) (hn : Noted T mp lb s' w w') : Left R T r b kind mp l lb s' w w' := by
  have h1 := hr.noted (hr.foot ty hm) hn
  obtain ⟨lb', h2, h3, h4⟩ := hn
  exact ⟨h1, lb', h2, h3.mono (by simp +contextual), h4⟩
theorem Left.keeps {R T : TypeId} (ty : Ty R T) {w w' w2 : World} {r b : Nat} {kind : Int} {mp : Option Nat} {l : List Gt} {lb : Nat} {s : MS} (h : Left R T r b kind mp l lb s w w') (hk : Keeps [] w' w2) : Left R T r b kind mp l lb s w w2 := by
  obtain ⟨h1, lb', h2, h3, h4⟩ := h
  exact ⟨h1.keeps hk (by simp) (by simp), lb', h2.keeps hk (by simp), h3.trans hk (by simp), h4⟩
theorem left_set {R T : TypeId} (ty : Ty R T) {w w' : World} {r b : Nat} {kind : Int} {mp : Option Nat} {l : List Gt} {lb : Nat} {s s' : MS} (hr : At R w r b kind mp l) (hm : MetAt T w mp lb s) (hn : Noted T mp lb s' w w') (k : Nat) (x : Gt) :
    Left R T r b kind mp (l.set k x) lb s' w ((w'.setCell ⟨b, k * 2, none⟩ (.int .i64 x.number)).setCell ⟨b, k * 2 + 1, none⟩ (.int .i64 x.owner)) := by
  have h1 := hr.noted (hr.foot ty hm) hn
  have hne := (hr.foot ty hm).2
  obtain ⟨lb', h2, h3, h4⟩ := hn
  have hbr : r ≠ b := h1.blk.ne_ h1.row ty.re
  have hkb : Keeps [b] w' ((w'.setCell ⟨b, k * 2, none⟩ (.int .i64 x.number)).setCell ⟨b, k * 2 + 1, none⟩ (.int .i64 x.owner)) := ((Keeps.refl _ _).setCell (.inl (by simp)) _).setCell (.inl (by simp)) _
  have hb' : b ∉ foot mp lb' := (h1.foot ty h2).2
  refine ⟨⟨?_, ?_, ?_⟩, lb', ?_, ?_, h4⟩
  · have := h1.blk.keeps hkb (by simpa using hbr)
    simpa using this
  · have e : ((l.flatMap cells).toArray.setIfInBounds (k * 2) (.int .i64 x.number)).setIfInBounds (k * 2 + 1) (.int .i64 x.owner) = ((l.set k x).flatMap cells).toArray := by
      rw [← cells_set]; simp
    refine (congrArg (Blk _ b 38) e).mp ?_
    exact (h1.row.set_ (k * 2) (.int .i64 x.number)).set_ (k * 2 + 1) (.int .i64 x.owner)
  · simpa using h1.fits
  · exact h2.keeps hkb (fun q hq hq' => by simp at hq'; subst hq'; exact hb' hq)
  · exact (h3.mono (T := b :: foot mp lb) (by simp +contextual)).trans hkb (fun q hq => .inl (by simp at hq; simp [hq]))

theorem cells_one (l : List Gt) : ∀ u ∈ l.flatMap cells, u.oneCell' = true := by
  intro u hu
  rw [List.mem_flatMap] at hu
  obtain ⟨x, _, hx⟩ := hu
  simp only [cells, List.mem_cons, List.not_mem_nil, or_false] at hx
  rcases hx with rfl | rfl <;> rfl
theorem At.own {R : TypeId} {w : World} {r b : Nat} {kind : Int} {mp : Option Nat} {l : List Gt} (h : At R w r b kind mp l) : w.ownsRow 0 38 2 (.slice (some ⟨b, 0, none⟩) l.length l.length) l.length (l.flatMap cells) :=
  ⟨cells_length l, .inr ⟨b, l.length, _, rfl, Nat.zero_le _, h.row, Nat.le_refl _, by have := h.fits; unfold maxLen; omega, by simpa using cells_length l, List.take_of_length_le (by simpa using Nat.le_of_eq (cells_length l))⟩⟩

/-- The program's rows. -/
abbrev R : TypeId := 108
end RowG
end Go.Proofs.Ytcoekpomiljofaa
