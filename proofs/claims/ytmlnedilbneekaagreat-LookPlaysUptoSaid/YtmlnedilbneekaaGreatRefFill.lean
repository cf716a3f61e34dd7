/- The document's Fill. -/
import Derived.Test.YtmlnedilbneekaaGreatRefMeter
import Derived.Test.YtmlnedilbneekaaGreatRowIb
import Derived.Test.YtmlnedilbneekaaGreatMake
import Derived.Deep.RegionHeld3
import Derived.Outline
import Derived.Handy
import Derived.Test.YtmlnedilbneekaaGreatSrc
import Derived.BigQuiet
import Derived.Deep.QuietTactic
import Derived.RegionTactic
import Derived.BigRegion
namespace Go.Proofs.YtmlnedilbneekaaGreat
namespace RefI
open Go.RowKit RowI
set_option linter.unusedVariables false
set_option linter.unusedSimpArgs false
attribute [local go_sem ↓] Go.wp_at_zero Go.wp_at_succ

/-- The document's rows. -/
abbrev R : TypeId := 209
theorem ty : Ty R XT := ⟨by decide, by decide, by decide, by decide, by decide⟩
theorem Tryz.infoI : (Tryz.prog.info? 2).map (fun i => (i.zero, i.size, i.bytes)) = some (some (.int .i64 0), 1, 8) := by kernel_rfl

theorem new_ok (w : World) (g : Nat) (kind : Int) (n : Nat) (h1 : 1 ≤ n) (h2 : n ≤ 4096) :
    Calls Tryz.prog 46 #[PM (some g), .int .i64 kind, .int .i64 n] w fun e w' =>
      e = .returned (.pointer (some ⟨w.heap.size + 1, 0, none⟩)) ∧ At R w' (w.heap.size + 1) w.heap.size kind (some g) (List.replicate n 0) ∧ Keeps [] w w' ∧ w'.heap.size = w.heap.size + 2 := by
  obtain ⟨i0, hi, hz0, hz1, hz2⟩ := info_parts RefI.Tryz.infoI
  have hmk : ∀ w : World, (Instr.makeSlice 144 (.int .i64 (n : Int)) (.int .i64 (n : Int))).run Tryz.prog w = .ok (.slice (some ⟨w.heap.size, 0, none⟩) n n) (w.alloc (.cells ((List.replicate n 0).flatMap cells).toArray 2)) := fun w => by
    have := run_make (P := Tryz.prog) w 144 2 i0 _ Tryz.underlying144 hi hz0 .i64 .i64 n n (by omega) (Int.le_refl _) (by rw [hz2]; omega) (by omega)
    simp only [Int.toNat_natCast] at this
    rw [this, hz1, madeCells_rep cells 1 (by decide) (fun _ => rfl) 0 n (z := (Value.int .i64 0).cells) rfl]
  clear hi hz0 hz1 hz2
  show Calls _ _ #[.pointer (some ⟨g, 0, none⟩), .int .i64 kind, .int .i64 n] _ _
  go_enter Tryz.func46, Tryz.ntmps46
  go_wp2
  go_ret
  exact ⟨rfl, ⟨by have h := new_at (w.alloc (.cells ((List.replicate n 0).flatMap cells).toArray 2)) (.cells #[.pointer (some ⟨g, 0, none⟩), .int .i64 kind, .slice (some ⟨w.heap.size, 0, none⟩) n n] R) (w.heap.size + 1) (by simp); simpa [Blk, PM] using h, (Blk.new _ _ _).alloc _, by simpa using h2⟩, by simp, by simp⟩

theorem note_row (w : World) (r b : Nat) (kind : Int) (g : Nat) (l : List Int) (hr : At R w r b kind (some g) l) (lb : Nat) (s : MS) (hm : MetAt XT w (some g) lb s) (hl : Room (some g) s)
    (i o : Int) (y : Bool) :
    Calls Tryz.prog 132 #[.pointer (some ⟨r, 0, none⟩), .int .i64 i, .int .i64 o, .bool y] w fun e w' => e = .returned (.tuple #[]) ∧ Noted XT (some g) lb (s.note kind i o y) w w' := by
  have c0 : w.cell? ⟨r, 0, none⟩ = some (.pointer (some ⟨g, 0, none⟩)) := (hr.blk.cell 0).trans rfl
  have c1 : w.cell? ⟨r, 1, none⟩ = some (.int .i64 kind) := (hr.blk.cell 1).trans rfl
  have HR := Lib.hid hr
  have HM := Lib.hid hm
  have HL := Lib.hid hl
  clear hr hm hl
  go_enter Tryz.func132, Tryz.ntmps132
  go_wp2
  go_region_held3 (fun w' => w'.cell? ⟨r, 0, none⟩ = some (.pointer (some ⟨g, 0, none⟩)) ∧ w'.cell? ⟨r, 1, none⟩ = some (.int .i64 kind)) (first | exact ⟨d0, d1⟩ | go_keep) ((go_at_call 153; refine (RefM.note_any _ g lb s HM.out.drew _ _ _ _ (HL.out (by simp))).mono ?_; rintro e w1 ⟨rfl, hn1⟩; have hr1 := HR.out.noted (HR.out.foot ty HM.out) hn1.undrew; have d0 : w1.cell? ⟨r, 0, none⟩ = some (.pointer (some ⟨g, 0, none⟩)) := (hr1.blk.cell 0).trans rfl; have d1 : w1.cell? ⟨r, 1, none⟩ = some (.int .i64 kind) := (hr1.blk.cell 1).trans rfl; have HN := Lib.hid hn1.undrew; clear hn1 hr1))
  go_wp2
  go_end0
  exact ⟨rfl, HN.out⟩

theorem there_yes (w : World) (r b : Nat) (k n : Nat) (hk : k < n) (hn : n ≤ 4096) (c2 : w.cell? ⟨r, 2, none⟩ = some (.slice (some ⟨b, 0, none⟩) n n)) :
    Calls Tryz.prog 131 #[.pointer (some ⟨r, 0, none⟩), .int .i64 k] w fun e w' => e = .returned (.bool true) ∧ w = w' := by
  have hki : (k : Int) < (n : Int) := by omega
  go_enter Tryz.func131, Tryz.ntmps131
  go_wp2
  go_ret
  exact ⟨rfl, rfl⟩


theorem store_at (w : World) (r b : Nat) (kind : Int) (g : Nat) (l : List Int) (hr : At R w r b kind (some g) l) (lb : Nat) (s : MS) (hm : MetAt XT w (some g) lb s) (hl : Room (some g) s)
    (k : Nat) (x y : Int) (hx : l[k]? = some x) :
    Calls Tryz.prog 81 #[.pointer (some ⟨r, 0, none⟩), .int .i64 k, .int .i64 y] w fun e w' =>
      e = .returned (.int .i64 0) ∧ RowI.Left R XT r b kind (some g) (l.set k y) lb (s.note kind k 2 true) w w' := by
  have hk : k < l.length := (List.getElem?_eq_some_iff.1 hx).1
  have c2 : w.cell? ⟨r, 2, none⟩ = some (.slice (some ⟨b, 0, none⟩) l.length l.length) := (hr.blk.cell 2).trans rfl
  have c3 : w.cell? ⟨b, k, none⟩ = some (.int .i64 x) := hr.cell hx
  have HR := Lib.hid hr
  have HM := Lib.hid hm
  have HL := Lib.hid hl
  have HX := Lib.hid hx
  have hf := hr.fits
  have hki : (k : Int) < (l.length : Int) := by omega
  clear hr hm hl hx
  go_enter Tryz.func81, Tryz.ntmps81
  go_wp2_with (first | (go_at_call 131; refine (there_yes _ r b k l.length hk hf c2).mono ?_; rintro e w0 ⟨rfl, rfl⟩) | (go_at_call 132; refine (note_row _ r b kind g l HR.out lb s HM.out HL.out _ _ _).mono ?_; rintro e w1 ⟨rfl, hn1⟩; have hr1 := HR.out.noted (HR.out.foot ty HM.out) hn1; have d2 : w1.cell? ⟨r, 2, none⟩ = some (.slice (some ⟨b, 0, none⟩) l.length l.length) := (hr1.blk.cell 2).trans rfl; have d3 : w1.cell? ⟨b, k, none⟩ = some (.int .i64 x) := hr1.cell HX.out; have e3 : w1.frozen? ⟨b, k, none⟩ = false := hr1.row.frozen k; have HN := Lib.hid hn1; clear hn1 hr1))
  go_ret
  exact ⟨rfl, left_set ty HR.out HM.out HN.out k y⟩


theorem store_no (w : World) (r b : Nat) (kind : Int) (mp : Option Nat) (l : List Int) (hr : At R w r b kind mp l) (i x : Int) (hi : i < 0 ∨ (l.length : Int) ≤ i) :
    Calls Tryz.prog 81 #[.pointer (some ⟨r, 0, none⟩), .int .i64 i, .int .i64 x] w fun e w' => e = .returned (.int .i64 2) ∧ w = w' := by
  have c2 : w.cell? ⟨r, 2, none⟩ = some (.slice (some ⟨b, 0, none⟩) l.length l.length) := (hr.blk.cell 2).trans rfl
  have hf := hr.fits
  clear hr
  rcases hi with hi | hi
  · go_enter Tryz.func81, Tryz.ntmps81
    go_wp2
    go_ret
    exact ⟨rfl, rfl⟩
  · by_cases h0 : 0 ≤ i
    · have hd : decide (i < (l.length : Int)) = false := by simp; omega
      go_enter Tryz.func81, Tryz.ntmps81
      go_wp2
      go_ret
      exact ⟨rfl, rfl⟩
    · omega

end RefI
end Go.Proofs.YtmlnedilbneekaaGreat

namespace Go.Proofs.YtmlnedilbneekaaGreat
namespace RefI
open Go.RowKit RowI
set_option linter.unusedVariables false
set_option linter.unusedSimpArgs false


theorem At_set {R : TypeId} {w : World} {r b : Nat} {kind : Int} {mp : Option Nat} {l : List Int} (hRE : R ≠ 2) (h : At R w r b kind mp l) {k : Nat} (x : Int) : At R (w.setCell ⟨b, k, none⟩ (.int .i64 x)) r b kind mp (l.set k x) := by
  have hne : r ≠ b := h.blk.ne_ h.row hRE
  refine ⟨?_, ?_, by simpa using h.fits⟩
  · have := h.blk.far (p := ⟨b, k, none⟩) hne (.int .i64 x)
    simpa using this
  · have := h.row.set_ k (.int .i64 x)
    rwa [cells_set] at this
theorem At_drew {R : TypeId} {w : World} {r b : Nat} {kind : Int} {mp : Option Nat} {l : List Int} (h : At R w r b kind mp l) : At R w.drew r b kind mp l := h.keeps (S := []) (Keeps.refl _ _).drew (by simp) (by simp)

theorem splice_set (xs l : List Int) (k : Nat) (x : Int) (hx : xs[k]? = some x) (hk : k < l.length) : (xs.take k ++ l.drop k).set k x = xs.take (k + 1) ++ l.drop (k + 1) := by
  have hkx : k < xs.length := (List.getElem?_eq_some_iff.1 hx).1
  have e : (xs.take k).length = k := by simp; omega
  rw [List.set_append_right _ _ (by omega), e, Nat.sub_self, List.drop_eq_getElem_cons hk, List.set_cons_zero, List.take_add_one, hx]
  simp

end RefI
end Go.Proofs.YtmlnedilbneekaaGreat
