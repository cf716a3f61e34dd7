/- Rows of uint64: contracts of their methods. -/
import Derived.Test.YtcoekpomiljofaaMDefs
import Derived.Test.YtcoekpomiljofaaNote
import Derived.Test.YtcoekpomiljofaaMake
import Derived.Deep.RegionHeld3
import Derived.Outline
import Derived.Handy
namespace Go.Proofs.Ytcoekpomiljofaa
namespace RowU
open Go.RowKit
set_option linter.unusedVariables false

def cells (x : Int) : List Value := [.int .u64 x]
/-- That the types of a row, of its cells, of a meter and of an access differ. -/
structure Ty (R T : TypeId) : Prop where
  rt : R ≠ T
  ra : R ≠ 61
  re : R ≠ 55
  et : 55 ≠ T
  ea : 55 ≠ 61
/-- A row in block r, its cells in block b. -/
structure At (R : TypeId) (w : World) (r b : Nat) (kind : Int) (mp : Option Nat) (l : List Int) : Prop where
  blk : Blk w r R #[PM mp, .int .i64 kind, .slice (some ⟨b, 0, none⟩) l.length l.length]
  row : Blk w b 55 (l.flatMap cells).toArray
  fits : l.length ≤ 4096

theorem cells_length (l : List Int) : (l.flatMap cells).length = l.length := by
  induction l with
  | nil => rfl
  | cons x l ih => simpa [cells] using ih
theorem cells_map (l : List Int) : l.flatMap cells = l.map (Value.int .u64) := by
  induction l with
  | nil => rfl
  | cons x l ih => simpa [cells] using ih
theorem cells_get (l : List Int) (i : Nat) (x : Int) (h : l[i]? = some x) : (l.flatMap cells)[i]? = some (.int .u64 x) := by
  rw [cells_map, List.getElem?_map, h]; rfl
theorem cells_set (l : List Int) (i : Nat) (x : Int) : (l.flatMap cells).toArray.setIfInBounds i (.int .u64 x) = ((l.set i x).flatMap cells).toArray := by
  rw [cells_map, cells_map, List.map_set]
  simp
theorem At.keeps {R : TypeId} {w w' : World} {S : List Nat} {r b : Nat} {kind : Int} {mp : Option Nat} {l : List Int} (h : At R w r b kind mp l) (hk : Keeps S w w') (h1 : r ∉ S) (h2 : b ∉ S) : At R w' r b kind mp l :=
  ⟨h.blk.keeps hk h1, h.row.keeps hk h2, h.fits⟩
theorem At.foot {R T : TypeId} (ty : Ty R T) {w : World} {r b : Nat} {kind : Int} {mp : Option Nat} {l : List Int} (h : At R w r b kind mp l) {mp' : Option Nat} {lb : Nat} {s : MS} (hm : MetAt T w mp' lb s) : r ∉ foot mp' lb ∧ b ∉ foot mp' lb :=
  ⟨apart hm h.blk ty.rt ty.ra, apart hm h.row ty.et ty.ea⟩
theorem At.noted {R T : TypeId} {w w' : World} {r b : Nat} {kind : Int} {mp : Option Nat} {l : List Int} (h : At R w r b kind mp l) {mp' : Option Nat} {lb : Nat} {s : MS} (ha : r ∉ Go.Proofs.Ytcoekpomiljofaa.foot mp' lb ∧ b ∉ Go.Proofs.Ytcoekpomiljofaa.foot mp' lb) (hn : Noted T mp' lb s w w') : At R w' r b kind mp l := by
  obtain ⟨_, _, hk, _⟩ := hn
  exact h.keeps hk ha.1 ha.2
theorem At.cell {R : TypeId} {w : World} {r b : Nat} {kind : Int} {mp : Option Nat} {l : List Int} (h : At R w r b kind mp l) {k : Nat} {x : Int} (hx : l[k]? = some x) : w.cell? ⟨b, k, none⟩ = some (.int .u64 x) := by
  rw [h.row.cell k]
  simpa using cells_get l k x hx

/-- What a call of a method leaves: the row with these cells, the meter with these counts. -/
def Left (R T : TypeId) (r b : Nat) (kind : Int) (mp : Option Nat) (l : List Int) (lb : Nat) (s : MS) (w w' : World) : Prop :=
  At R w' r b kind mp l ∧ ∃ lb', MetAt T w' mp lb' s ∧ Keeps (b :: foot mp lb) w w' ∧ (lb' = lb ∨ w.heap.size ≤ lb')
theorem left_noted {R T : TypeId} (ty : Ty R T) {w w' : World} {r b : Nat} {kind : Int} {mp : Option Nat} {l : List Int} {lb : Nat} {s s' : MS} (hr : At R w r b kind mp l) (hm : MetAt T w mp lb s) (hn : Noted T mp lb s' w w') : Left R T r b kind mp l lb s' w w' := by
  have h1 := hr.noted (hr.foot ty hm) hn
  obtain ⟨lb', h2, h3, h4⟩ := hn
  exact ⟨h1, lb', h2, h3.mono (by simp +contextual), h4⟩
theorem left_set {R T : TypeId} (ty : Ty R T) {w w' : World} {r b : Nat} {kind : Int} {mp : Option Nat} {l : List Int} {lb : Nat} {s s' : MS} (hr : At R w r b kind mp l) (hm : MetAt T w mp lb s) (hn : Noted T mp lb s' w w') (k : Nat) (x : Int) :
    Left R T r b kind mp (l.set k x) lb s' w (w'.setCell ⟨b, k, none⟩ (.int .u64 x)) := by
  have h1 := hr.noted (hr.foot ty hm) hn
  have hne := (hr.foot ty hm).2
  obtain ⟨lb', h2, h3, h4⟩ := hn
  have hbr : r ≠ b := h1.blk.ne_ h1.row ty.re
  have hkb : Keeps [b] w' (w'.setCell ⟨b, k, none⟩ (.int .u64 x)) := (Keeps.refl _ _).setCell (.inl (by simp)) _
  have hb' : b ∉ foot mp lb' := (h1.foot ty h2).2
  refine ⟨⟨?_, ?_, ?_⟩, lb', ?_, ?_, h4⟩
  · have := h1.blk.keeps hkb (by simpa using hbr)
    simpa using this
  · have := h1.row.set_ k (.int .u64 x)
    rwa [cells_set] at this
  · simpa using h1.fits
  · exact h2.keeps hkb (fun q hq hq' => by simp at hq'; subst hq'; exact hb' hq)
  · exact (h3.mono (T := b :: foot mp lb) (by simp +contextual)).setCell (.inl (by simp)) _

theorem cells_one (l : List Int) : ∀ u ∈ l.flatMap cells, u.oneCell' = true := by
  intro u hu
  rw [cells_map, List.mem_map] at hu
  obtain ⟨x, _, rfl⟩ := hu
  rfl
theorem At.own {R : TypeId} {w : World} {r b : Nat} {kind : Int} {mp : Option Nat} {l : List Int} (h : At R w r b kind mp l) : w.ownsRow 0 55 1 (.slice (some ⟨b, 0, none⟩) l.length l.length) l.length (l.flatMap cells) :=
  ⟨by rw [cells_map]; simp, .inr ⟨b, l.length, _, rfl, Nat.zero_le _, h.row, Nat.le_refl _, by have := h.fits; unfold maxLen; omega, by rw [cells_map]; simp, by rw [cells_map]; exact List.take_of_length_le (by simp)⟩⟩


/-- The program's rows. -/
abbrev R : TypeId := 112
theorem ty : Ty R MT := ⟨by decide, by decide, by decide, by decide, by decide⟩
end RowU
end Go.Proofs.Ytcoekpomiljofaa

namespace Go.Proofs.Ytcoekpomiljofaa
namespace RowU
open Go.RowKit
set_option linter.unusedVariables false
attribute [local go_sem ↓] Go.wp_at_zero Go.wp_at_succ





theorem Try.infoU : (Try.prog.info? 55).map (fun i => (i.zero, i.size, i.bytes)) = some (some (.int .u64 0), 1, 8) := by kernel_rfl

theorem newRow_bad (w : World) (mp : Option Nat) (kind n : Int) (hn : n < 1 ∨ 4096 < n) :
    Calls Try.prog 36 #[PM mp, .int .i64 kind, .int .i64 n] w fun e w' => e = .returned (.tuple #[.pointer none, .int .i64 1]) ∧ w = w' := by
  rcases hn with hn | hn
  · go_enter Try.func36, Try.ntmps36
    go_wp2
    go_ret2
    exact ⟨rfl, rfl⟩
  · have h1 : decide (n < 1) = false := by simp; omega
    go_enter Try.func36, Try.ntmps36
    go_wp2
    go_ret2
    exact ⟨rfl, rfl⟩

theorem all_any (w : World) (r b : Nat) (kind : Int) (mp : Option Nat) (l : List Int) (hr : At R w r b kind mp l) :
    Calls Try.prog 41 #[.pointer (some ⟨r, 0, none⟩)] w fun e w' => ∃ v, e = .returned v ∧ NewRow 55 1 l.length (l.flatMap cells) [] w w' v := by
  have c2 : w.cell? ⟨r, 2, none⟩ = some (.slice (some ⟨b, 0, none⟩) l.length l.length) := (hr.blk.cell 2).trans rfl
  have hrl := hr.blk.lt
  have HO := Lib.hid hr.own
  have hf := hr.fits
  clear hr
  obtain ⟨i0, hi, hz0, hz1, hz2⟩ := info_parts Try.infoU
  have hmx : Hid (0 + l.length ≤ maxLen) := by unfold Hid maxLen; omega
  have hby : Hid ((0 + l.length) * 8 ≤ 140737488355328) := by unfold Hid; omega
  go_enter Try.func41, Try.ntmps41
  go_wp2_with (at_builtin; refine wpList_append_row rfl (.tmp 3) (.tmp 7) 103 rfl 55 i0 _ 1 8 Try.underlying103 hi hz0 hz1 hz2 rfl (by decide) (.slice (some ⟨w.heap.size, 0, none⟩) 0 0) 0 [] rfl (World.ownsRow_made _ _ _ (Nat.zero_le _) (by decide) rfl) (.slice (some ⟨b, 0, none⟩) l.length l.length) l.length (l.flatMap cells) rfl (HO.out.alloc _) (cells_one _) hmx.out hby.out ?_; intro v1 w1 hown1 hg1 hat1)
  go_ret
  refine ⟨v1, rfl, own_base (by simpa using hown1) ?_, (Keeps.refl _ _).alloc _ |>.grown hg1 ?_⟩
  · intro k hk
    rcases hat1 with e | e <;> rw [e] at hk <;> simp [Value.ownBlock] at hk <;> omega
  · simp [Value.ownBlock]
theorem newRow_ptr (w : World) (p : Option Addr) (kind : Int) (n : Nat) (h1 : 1 ≤ n) (h2 : n ≤ 4096) :
    Calls Try.prog 36 #[.pointer p, .int .i64 kind, .int .i64 n] w fun e w' =>
      e = .returned (.tuple #[.pointer (some ⟨w.heap.size + 1, 0, none⟩), .int .i64 0]) ∧ (Blk w' (w.heap.size + 1) 112 #[.pointer p, .int .i64 kind, .slice (some ⟨w.heap.size, 0, none⟩) n n] ∧ Blk w' w.heap.size 55 ((List.replicate n 0).flatMap cells).toArray) ∧ Keeps [] w w' ∧ w'.heap.size = w.heap.size + 2 := by
  obtain ⟨i0, hi, hz0, hz1, hz2⟩ := info_parts Try.infoU
  have hmk : ∀ w : World, (Instr.makeSlice 103 (.int .i64 (n : Int)) (.int .i64 (n : Int))).run Try.prog w = .ok (.slice (some ⟨w.heap.size, 0, none⟩) n n) (w.alloc (.cells ((List.replicate n 0).flatMap cells).toArray 55)) := fun w => by
    have := run_make (P := Try.prog) w 103 55 i0 _ Try.underlying103 hi hz0 .i64 .i64 n n (by omega) (Int.le_refl _) (by rw [hz2]; omega) (by omega)
    simp only [Int.toNat_natCast] at this
    rw [this, hz1, madeCells_rep cells 1 (by decide) (fun _ => rfl) 0 n (z := (Value.int .u64 0).cells) rfl]
  clear hi hz0 hz1 hz2
  have g1 : decide ((n : Int) < 1) = false := by simp; omega
  have g2 : decide ((4096 : Int) < (n : Int)) = false := by simp; omega
  go_enter Try.func36, Try.ntmps36
  go_wp2
  go_ret2
  exact ⟨rfl, ⟨new_at _ _ _ (by simp), (Blk.new _ _ _).alloc _⟩, by simp, by simp⟩

theorem newRow_ok (w : World) (mp : Option Nat) (kind : Int) (n : Nat) (h1 : 1 ≤ n) (h2 : n ≤ 4096) :
    Calls Try.prog 36 #[PM mp, .int .i64 kind, .int .i64 n] w fun e w' =>
      e = .returned (.tuple #[.pointer (some ⟨w.heap.size + 1, 0, none⟩), .int .i64 0]) ∧ At R w' (w.heap.size + 1) w.heap.size kind mp (List.replicate n 0) ∧ Keeps [] w w' ∧ w'.heap.size = w.heap.size + 2 :=
  (newRow_ptr w _ kind n h1 h2).mono fun e w' ⟨he, ⟨h3, h4⟩, h5, h6⟩ => ⟨he, ⟨by simpa [PM] using h3, h4, by simpa using h2⟩, h5, h6⟩

end RowU
end Go.Proofs.Ytcoekpomiljofaa
