/- What a meter of package mem holds. -/
import Derived.Test.YtcoekpomiljofaaMake
import Derived.Test.YtcoekpomiljofaaProg
import Derived.RegionTactic
namespace Go.Proofs.Ytcoekpomiljofaa
open Go.RowKit
set_option linter.unusedVariables false

/-- An access. -/
structure Acc where
  step : Int
  thread : Int
  kind : Int
  place : Int
  op : Int
  ok : Bool
def Acc.cells (x : Acc) : List Value := [.int .i64 x.step, .int .i64 x.thread, .int .i64 x.kind, .int .i64 x.place, .int .i64 x.op, .bool x.ok]
/-- A meter. -/
structure MS where
  steps : Int
  thread : Int
  done : Int
  most : Int
  log : List Acc
def MS.zero : MS := ⟨0, 0, 0, 0, []⟩
def MS.begin (s : MS) (t : Int) : MS := { s with steps := wrap64 (s.steps + 1), thread := t, done := 0 }
/-- Go's max of two ints, as the walk writes it. -/
def imax (a b : Int) : Int := if a < b then b else a
theorem imax_eq (a b : Int) : (if a < b then b else a) = imax a b := rfl
def MS.note (s : MS) (k p o : Int) (b : Bool) : MS := { s with done := wrap64 (s.done + 1), most := imax s.most (wrap64 (s.done + 1)), log := s.log ++ [⟨s.steps, s.thread, k, p, o, b⟩] }

def logCells (l : List Acc) : List Value := l.flatMap Acc.cells
theorem logCells_snoc (l : List Acc) (x : Acc) : logCells (l ++ [x]) = logCells l ++ x.cells := by simp [logCells]
theorem logCells_length (l : List Acc) : (logCells l).length = l.length * 6 := by
  induction l with
  | nil => rfl
  | cons x l ih => simp only [logCells, List.flatMap_cons, List.length_append] at ih ⊢; simp [Acc.cells, ih]; omega

/-- The meter in block g, its log in block lb (while it is empty: lb is g). -/
structure MeterAt (T : TypeId) (w : World) (g lb : Nat) (s : MS) (v : Value) : Prop where
  blk : Blk w g T #[.int .i64 s.steps, .int .i64 s.thread, .int .i64 s.done, .int .i64 s.most, v]
  own : w.ownsRow 0 61 6 v s.log.length (logCells s.log)
  loc : (v.ownBlock = none ∧ lb = g) ∨ v.ownBlock = some lb

theorem Try.infoAcc : (Try.prog.info? 61).map (fun i => (i.zero, i.size, i.bytes)) = some (some (.agg #[.int .i64 0, .int .i64 0, .int .i64 0, .int .i64 0, .int .i64 0, .bool false]), 6, 48) := by kernel_rfl


/-- The types of the program's meter and of the document's. -/
abbrev MT : TypeId := 80

/-- A pointer to a meter, or nil. -/
def PM (mp : Option Nat) : Value := .pointer (mp.map fun g => ⟨g, 0, none⟩)
/-- The meter behind a pointer (nil: nothing is said). -/
def MetAt (T : TypeId) (w : World) (mp : Option Nat) (lb : Nat) (s : MS) : Prop :=
  match mp with
  | none => True
  | some g => ∃ v, MeterAt T w g lb s v
/-- The blocks that a meter may write. -/
def foot (mp : Option Nat) (lb : Nat) : List Nat :=
  match mp with
  | none => []
  | some g => [g, lb]
def Room (mp : Option Nat) (s : MS) : Prop := mp ≠ none → s.log.length < 2199023255552

/-- Blocks of other types are none of a meter's. -/
theorem apart {T : TypeId} {w : World} {mp : Option Nat} {lb : Nat} {s : MS} (hm : MetAt T w mp lb s) {k : Nat} {t : TypeId} {cs : Array Value} (hb : Blk w k t cs) (h1 : t ≠ T) (h2 : t ≠ 61) : k ∉ foot mp lb := by
  cases mp with
  | none => simp [foot]
  | some g =>
    obtain ⟨v, hg, ho, hc⟩ := hm
    have e1 : k ≠ g := hb.ne_ hg h1
    have e2 : k ≠ lb := by
      rcases hc with ⟨_, hc⟩ | hc
      · rw [hc]; exact e1
      · intro e; exact own_blk_ne ho hb (Ne.symm h2) (by rw [hc, e])
    simp [foot, e1, e2]

theorem MeterAt.keeps {T : TypeId} {w w' : World} {S : List Nat} {g lb : Nat} {s : MS} {v : Value} (h : MeterAt T w g lb s v) (hk : Keeps S w w') (h1 : g ∉ S) (h2 : lb ∉ S) : MeterAt T w' g lb s v :=
  ⟨h.blk.keeps hk h1, own_keeps h.own hk (fun k hv => by
    rcases h.loc with ⟨h3, _⟩ | h3
    · rw [h3] at hv; cases hv
    · rw [h3] at hv; injection hv with hv; rw [← hv]; exact h2), h.loc⟩
theorem MetAt.keeps {T : TypeId} {w w' : World} {S : List Nat} {mp : Option Nat} {lb : Nat} {s : MS} (h : MetAt T w mp lb s) (hk : Keeps S w w') (h1 : ∀ k, k ∈ foot mp lb → k ∉ S) : MetAt T w' mp lb s := by
  cases mp with
  | none => trivial
  | some g =>
    obtain ⟨v, hv⟩ := h
    exact ⟨v, hv.keeps hk (h1 g (by simp [foot])) (h1 lb (by simp [foot]))⟩
theorem MetAt.drew {T : TypeId} {w : World} {mp : Option Nat} {lb : Nat} {s : MS} (h : MetAt T w mp lb s) : MetAt T w.drew mp lb s := h.keeps (S := []) (Keeps.refl _ _).drew (by simp)
theorem MetAt.alloc {T : TypeId} {w : World} {mp : Option Nat} {lb : Nat} {s : MS} (h : MetAt T w mp lb s) (o : Obj) : MetAt T (w.alloc o) mp lb s := h.keeps (S := []) ((Keeps.refl _ _).alloc o) (by simp)

/-- What a call of note leaves. -/
def Noted (T : TypeId) (mp : Option Nat) (lb : Nat) (s : MS) (w w' : World) : Prop := ∃ lb', MetAt T w' mp lb' s ∧ Keeps (foot mp lb) w w' ∧ (lb' = lb ∨ w.heap.size ≤ lb')
theorem Noted.undrew {T : TypeId} {mp : Option Nat} {lb : Nat} {s : MS} {w w' : World} (h : Noted T mp lb s w.drew w') : Noted T mp lb s w w' := by
  obtain ⟨lb', h1, h2, h3⟩ := h
  exact ⟨lb', h1, h2.undrew, h3⟩
/-- The meter has not turned. -/
theorem Noted.rest {T : TypeId} {mp : Option Nat} {lb : Nat} {s : MS} {w w' : World} (h : MetAt T w mp lb s) (hk : Keeps [] w w') : Noted T mp lb s w w' := ⟨lb, h.keeps hk (by simp), hk.mono (by simp), .inl rfl⟩
theorem foot_lt {T : TypeId} {w : World} {mp : Option Nat} {lb : Nat} {s : MS} (h : MetAt T w mp lb s) {k : Nat} (hk : k ∈ foot mp lb) : k < w.heap.size := by
  cases mp with
  | none => simp [foot] at hk
  | some g =>
    obtain ⟨v, hb, ho, hc⟩ := h
    simp only [foot, List.mem_cons, List.not_mem_nil, or_false] at hk
    rcases hk with rfl | rfl
    · exact hb.lt
    · rcases hc with ⟨_, rfl⟩ | hc
      · exact hb.lt
      · exact own_lt ho hc
end Go.Proofs.Ytcoekpomiljofaa
