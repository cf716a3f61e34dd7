/- Rows of uint64: what they hold. -/
import Derived.Test.YtelljfhhjapgnaaMDefs
namespace Go.Proofs.Ytelljfhhjapgnaa
namespace RowU
open Go.RowKit
set_option linter.unusedVariables false

def cells (x : Int) : List Value := [.int .u64 x]
/-- That the types of a row, of its cells, of a meter and of an access differ. -/
structure Ty (R T : TypeId) : Prop where
  rt : R ≠ T
  ra : R ≠ 83
  re : R ≠ 30
  et : 30 ≠ T
  ea : 30 ≠ 83
/-- A row in block r, its cells in block b. -/
structure At (R : TypeId) (w : World) (r b : Nat) (kind : Int) (mp : Option Nat) (l : List Int) : Prop where
  blk : Blk w r R #[PM mp, .int .i64 kind, .slice (some ⟨b, 0, none⟩) l.length l.length]
  row : Blk w b 30 (l.flatMap cells).toArray
  fits : l.length ≤ 4096

theorem cells_length (l : List Int) : (l.flatMap cells).length = l.length := by
  induction l with
  | nil => rfl
  | cons x l ih => simpa [cells] using ih
theorem cells_map (l : List Int) : l.flatMap cells = l.map (Value.int .u64) := by
  induction l with
  | nil => rfl
  | cons x l ih => simpa [cells] using ih
theorem cells_get (l : List Int) (i : Nat) (x : Int) (h : l[i]? = some x) : (l.flatMap cells)[i]? = some (.int .u64 x) := by
  rw [cells_map, List.getElem?_map, h]; rfl
theorem cells_set (l : List Int) (i : Nat) (x : Int) : (l.flatMap cells).toArray.setIfInBounds i (.int .u64 x) = ((l.set i x).flatMap cells).toArray := by
  rw [cells_map, cells_map, List.map_set]
  simp
theorem At.keeps {R : TypeId} {w w' : World} {S : List Nat} {r b : Nat} {kind : Int} {mp : Option Nat} {l : List Int} (h : At R w r b kind mp l) (hk : Keeps S w w') (h1 : r ∉ S) (h2 : b ∉ S) : At R w' r b kind mp l :=
  ⟨h.blk.keeps hk h1, h.row.keeps hk h2, h.fits⟩
theorem At.foot {R T : TypeId} (ty : Ty R T) {w : World} {r b : Nat} {kind : Int} {mp : Option Nat} {l : List Int} (h : At R w r b kind mp l) {mp' : Option Nat} {lb : Nat} {s : MS} (hm : MetAt T w mp' lb s) : r ∉ foot mp' lb ∧ b ∉ foot mp' lb :=
  ⟨apart hm h.blk ty.rt ty.ra, apart hm h.row ty.et ty.ea⟩
theorem At.noted {R T : TypeId} {w w' : World} {r b : Nat} {kind : Int} {mp : Option Nat} {l : List Int} (h : At R w r b kind mp l) {mp' : Option Nat} {lb : Nat} {s : MS} (ha : r ∉ Go.Proofs.Ytelljfhhjapgnaa.foot mp' lb ∧ b ∉ Go.Proofs.Ytelljfhhjapgnaa.foot mp' lb) (hn : Noted T mp' lb s w w') : At R w' r b kind mp l := by
  obtain ⟨_, _, hk, _⟩ := hn
  exact h.keeps hk ha.1 ha.2
theorem At.cell {R : TypeId} {w : World} {r b : Nat} {kind : Int} {mp : Option Nat} {l : List Int} (h : At R w r b kind mp l) {k : Nat} {x : Int} (hx : l[k]? = some x) : w.cell? ⟨b, k, none⟩ = some (.int .u64 x) := by
  rw [h.row.cell k]
  simpa using cells_get l k x hx

/-- What a call of a method leaves: the row with these cells, the meter with these counts. -/
def Left (R T : TypeId) (r b : Nat) (kind : Int) (mp : Option Nat) (l : List Int) (lb : Nat) (s : MS) (w w' : World) : Prop :=
  At R w' r b kind mp l ∧ ∃ lb', MetAt T w' mp lb' s ∧ Keeps (b :: foot mp lb) w w' ∧ (lb' = lb ∨ w.heap.size ≤ lb')
theorem left_noted {R T : TypeId} (ty : Ty R T) {w w' : World} {r b : Nat} {kind : Int} {mp : Option Nat} {l : List Int} {lb : Nat} {s s' : MS} (hr : At R w r b kind mp l) (hm : MetAt T w mp lb s) (hn : Noted T mp lb s' w w') : Left R T r b kind mp l lb s' w w' := by
  have h1 := hr.noted (hr.foot ty hm) hn
  obtain ⟨lb', h2, h3, h4⟩ := hn
  exact ⟨h1, lb', h2, h3.mono (by simp +contextual), h4⟩
theorem left_set {R T : TypeId} (ty : Ty R T) {w w' : World} {r b : Nat} {kind : Int} {mp : Option Nat} {l : List Int} {lb : Nat} {s s' : MS} (hr : At R w r b kind mp l) (hm : MetAt T w mp lb s) (hn : Noted T mp lb s' w w') (k : Nat) (x : Int) :
    Left R T r b kind mp (l.set k x) lb s' w (w'.setCell ⟨b, k, none⟩ (.int .u64 x)) := by
  have h1 := hr.noted (hr.foot ty hm) hn
  have hne := (hr.foot ty hm).2
  obtain ⟨lb', h2, h3, h4⟩ := hn
  have hbr : r ≠ b := h1.blk.ne_ h1.row ty.re
  have hkb : Keeps [b] w' (w'.setCell ⟨b, k, none⟩ (.int .u64 x)) := (Keeps.refl _ _).setCell (.inl (by simp)) _
  have hb' : b ∉ foot mp lb' := (h1.foot ty h2).2
  refine ⟨⟨?_, ?_, ?_⟩, lb', ?_, ?_, h4⟩
  · have := h1.blk.keeps hkb (by simpa using hbr)
    simpa using this
  · have := h1.row.set_ k (.int .u64 x)
    rwa [cells_set] at this
  · simpa using h1.fits
  · exact h2.keeps hkb (fun q hq hq' => by simp at hq'; subst hq'; exact hb' hq)
  · exact (h3.mono (T := b :: foot mp lb) (by simp +contextual)).setCell (.inl (by simp)) _

theorem cells_one (l : List Int) : ∀ u ∈ l.flatMap cells, u.oneCell' = true := by
  intro u hu
  rw [cells_map, List.mem_map] at hu
  obtain ⟨x, _, rfl⟩ := hu
  rfl
theorem At.own {R : TypeId} {w : World} {r b : Nat} {kind : Int} {mp : Option Nat} {l : List Int} (h : At R w r b kind mp l) : w.ownsRow 0 30 1 (.slice (some ⟨b, 0, none⟩) l.length l.length) l.length (l.flatMap cells) :=
  ⟨by rw [cells_map]; simp, .inr ⟨b, l.length, _, rfl, Nat.zero_le _, h.row, Nat.le_refl _, by have := h.fits; unfold maxLen; omega, by rw [cells_map]; simp, by rw [cells_map]; exact List.take_of_length_le (by simp)⟩⟩


/-- The program's rows. -/
abbrev R : TypeId := 153
theorem ty : Ty R MT := ⟨by decide, by decide, by decide, by decide, by decide⟩
end RowU
end Go.Proofs.Ytelljfhhjapgnaa
