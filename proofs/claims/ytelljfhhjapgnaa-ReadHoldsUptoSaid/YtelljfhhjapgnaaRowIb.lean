/- Rows of int64: NewRow, Fill. -/
import Derived.Test.YtelljfhhjapgnaaRowI
namespace Go.Proofs.Ytelljfhhjapgnaa
namespace RowI
open Go.RowKit
set_option linter.unusedVariables false
theorem newRow_ptr (w : World) (p : Option Addr) (kind : Int) (n : Nat) (h1 : 1 ≤ n) (h2 : n ≤ 4096) :
    Calls Try.prog 66 #[.pointer p, .int .i64 kind, .int .i64 n] w fun e w' =>
      e = .returned (.tuple #[.pointer (some ⟨w.heap.size + 1, 0, none⟩), .int .i64 0]) ∧ (Blk w' (w.heap.size + 1) 127 #[.pointer p, .int .i64 kind, .slice (some ⟨w.heap.size, 0, none⟩) n n] ∧ Blk w' w.heap.size 2 ((List.replicate n 0).flatMap cells).toArray) ∧ Keeps [] w w' ∧ w'.heap.size = w.heap.size + 2 := by
  obtain ⟨i0, hi, hz0, hz1, hz2⟩ := info_parts Try.infoI
  have hmk : ∀ w : World, (Instr.makeSlice 22 (.int .i64 (n : Int)) (.int .i64 (n : Int))).run Try.prog w = .ok (.slice (some ⟨w.heap.size, 0, none⟩) n n) (w.alloc (.cells ((List.replicate n 0).flatMap cells).toArray 2)) := fun w => by
    have := run_make (P := Try.prog) w 22 2 i0 _ Try.underlying22 hi hz0 .i64 .i64 n n (by omega) (Int.le_refl _) (by rw [hz2]; omega) (by omega)
    simp only [Int.toNat_natCast] at this
    rw [this, hz1, madeCells_rep cells 1 (by decide) (fun _ => rfl) 0 n (z := (Value.int .i64 0).cells) rfl]
  clear hi hz0 hz1 hz2
  have g1 : decide ((n : Int) < 1) = false := by simp; omega
  have g2 : decide ((4096 : Int) < (n : Int)) = false := by simp; omega
  go_enter Try.func66, Try.ntmps66
  go_wp2
  go_ret2
  exact ⟨rfl, ⟨new_at _ _ _ (by simp), (Blk.new _ _ _).alloc _⟩, by simp, by simp⟩

theorem newRow_ok (w : World) (mp : Option Nat) (kind : Int) (n : Nat) (h1 : 1 ≤ n) (h2 : n ≤ 4096) :
    Calls Try.prog 66 #[PM mp, .int .i64 kind, .int .i64 n] w fun e w' =>
      e = .returned (.tuple #[.pointer (some ⟨w.heap.size + 1, 0, none⟩), .int .i64 0]) ∧ At R w' (w.heap.size + 1) w.heap.size kind mp (List.replicate n 0) ∧ Keeps [] w w' ∧ w'.heap.size = w.heap.size + 2 :=
  (newRow_ptr w _ kind n h1 h2).mono fun e w' ⟨he, ⟨h3, h4⟩, h5, h6⟩ => ⟨he, ⟨by simpa [PM] using h3, h4, by simpa using h2⟩, h5, h6⟩

theorem fill_many (w : World) (r b : Nat) (kind : Int) (mp : Option Nat) (l : List Int) (hr : At R w r b kind mp l) (A : Option Addr) (n c : Nat) (hn : l.length < n) (hm : n ≤ maxLen) :
    Calls Try.prog 37 #[.pointer (some ⟨r, 0, none⟩), .slice A n c] w fun e w' => e = .returned (.int .i64 3) ∧ w = w' := by
  have c2 : w.cell? ⟨r, 2, none⟩ = some (.slice (some ⟨b, 0, none⟩) l.length l.length) := (hr.blk.cell 2).trans rfl
  have hf := hr.fits
  unfold maxLen at hm
  clear hr
  go_enter Try.func37, Try.ntmps37
  go_wp2
  go_ret
  exact ⟨rfl, rfl⟩

set_option maxRecDepth 100000 in
theorem fill_ok (w : World) (r b : Nat) (kind : Int) (mp : Option Nat) (l : List Int) (hr : At R w r b kind mp l) (A : Option Addr) (n c : Nat) (xs : List Int) (hx : xs.length = n)
    (hA : 0 < n → ∃ ad, A = some ad ∧ ∀ j v, (xs.map (Value.int .i64))[j]? = some v → w.cell? (ad.add j) = some v) (hn : n ≤ l.length) :
    Calls Try.prog 37 #[.pointer (some ⟨r, 0, none⟩), .slice A n c] w fun e w' => e = .returned (.int .i64 0) ∧ At R w' r b kind mp (xs ++ l.drop n) ∧ Keeps [b] w w' := by
  have c2 : w.cell? ⟨r, 2, none⟩ = some (.slice (some ⟨b, 0, none⟩) l.length l.length) := (hr.blk.cell 2).trans rfl
  have hf := hr.fits
  have HR := Lib.hid hr
  have HA := Lib.hid hA
  have HX := Lib.hid hx
  have hnm : (n : Int) ≤ (l.length : Int) := by omega
  have hsz : (Try.prog.info? 2).map (·.size) = some 1 := by kernel_rfl
  have HS := Lib.hid hsz
  clear hr hA hx hsz
  go_enter Try.func37, Try.ntmps37
  go_wp2_with (refine wpList_copy_row (o := ⟨some 18, _, _, _, _, _⟩) rfl (.tmp 16) (.tmp 17) 22 22 rfl 2 Try.underlying22 HS.out b l.length l.length A n c rfl rfl (l.flatMap cells).toArray 2 HR.out.row (xs.map (Value.int .i64)) (by simp [HX.out, hn]) HA.out (by simp [cells_map, HX.out]; exact hn) (by simp [Value.oneCell']) ?_; intro w1 n1 hb1 hk1)
  go_ret
  have hne : r ≠ b := HR.out.blk.ne_ HR.out.row (by decide)
  refine ⟨rfl, ⟨?_, ?_, ?_⟩, hk1⟩
  · have := HR.out.blk.keeps hk1 (by simpa using hne)
    simpa [HX.out, Nat.add_sub_cancel' hn] using this
  · have := hb1.out
    simp only [List.length_map, HX.out, cells_map, ← List.map_drop, ← List.map_append] at this
    show _ = _
    rw [cells_map]
    exact this
  · simp [HX.out]; omega
end RowI
end Go.Proofs.Ytelljfhhjapgnaa
