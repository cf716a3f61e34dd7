/- Rows of uint64: contracts of their methods. -/
import Derived.Test.YtelljfhhjapgnaaNote
import Derived.Test.YtelljfhhjapgnaaMake
import Derived.Test.YtelljfhhjapgnaaRowUDefs
import Derived.Deep.RegionHeld3
import Derived.Outline
import Derived.Handy
namespace Go.Proofs.Ytelljfhhjapgnaa
namespace RowU
open Go.RowKit
set_option linter.unusedVariables false
attribute [local go_sem ↓] Go.wp_at_zero Go.wp_at_succ



theorem store_at (w : World) (r b : Nat) (kind : Int) (mp : Option Nat) (l : List Int) (hr : At R w r b kind mp l) (lb : Nat) (s : MS) (hm : MetAt MT w mp lb s) (hl : Room mp s)
    (k : Nat) (x : Int) (hk : k < l.length) :
    Calls Try.prog 87 #[.pointer (some ⟨r, 0, none⟩), .int .i64 k, .int .u64 x] w fun e w' =>
      e = .returned (.int .i64 0) ∧ Left R MT r b kind mp (l.set k x) lb (s.note kind k 2 true) w w' := by
  have c0 : w.cell? ⟨r, 0, none⟩ = some (PM mp) := (hr.blk.cell 0).trans rfl
  have c1 : w.cell? ⟨r, 1, none⟩ = some (.int .i64 kind) := (hr.blk.cell 1).trans rfl
  have c2 : w.cell? ⟨r, 2, none⟩ = some (.slice (some ⟨b, 0, none⟩) l.length l.length) := (hr.blk.cell 2).trans rfl
  have HR := Lib.hid hr
  have HM := Lib.hid hm
  have HL := Lib.hid hl
  have hf := hr.fits
  have hki : (k : Int) < (l.length : Int) := by omega
  obtain ⟨y, hy⟩ : ∃ y, l[k]? = some y := ⟨_, List.getElem?_eq_getElem hk⟩
  have HX := Lib.hid hy
  clear hr hm hl hy
  go_enter Try.func87, Try.ntmps87
  go_wp2
  go_region_held3 (fun w' => w'.cell? ⟨r, 0, none⟩ = some (PM mp) ∧ w'.cell? ⟨r, 1, none⟩ = some (.int .i64 kind)) (first | exact ⟨d0, d1⟩ | go_keep) ((go_at_call 78; refine (note_any _ mp lb s HM.out.drew _ _ _ _ HL.out).mono ?_; rintro e w1 ⟨rfl, hn1⟩; have hr1 := HR.out.noted (HR.out.foot ty HM.out) hn1.undrew; have d0 : w1.cell? ⟨r, 0, none⟩ = some (PM mp) := (hr1.blk.cell 0).trans rfl; have d1 : w1.cell? ⟨r, 1, none⟩ = some (.int .i64 kind) := (hr1.blk.cell 1).trans rfl; have d2 : w1.cell? ⟨r, 2, none⟩ = some (.slice (some ⟨b, 0, none⟩) l.length l.length) := (hr1.blk.cell 2).trans rfl; have d3 : w1.cell? ⟨b, k, none⟩ = some (.int .u64 y) := hr1.cell HX.out; have e3 : w1.frozen? ⟨b, k, none⟩ = false := hr1.row.frozen k; have HN := Lib.hid hn1.undrew; clear hn1 hr1))
  go_wp2
  go_ret
  exact ⟨rfl, left_set ty HR.out HM.out HN.out k x⟩

theorem store_no (w : World) (r b : Nat) (kind : Int) (mp : Option Nat) (l : List Int) (hr : At R w r b kind mp l) (i x : Int) (hi : i < 0 ∨ (l.length : Int) ≤ i) :
    Calls Try.prog 87 #[.pointer (some ⟨r, 0, none⟩), .int .i64 i, .int .u64 x] w fun e w' => e = .returned (.int .i64 2) ∧ w = w' := by
  have c2 : w.cell? ⟨r, 2, none⟩ = some (.slice (some ⟨b, 0, none⟩) l.length l.length) := (hr.blk.cell 2).trans rfl
  have hf := hr.fits
  clear hr
  rcases hi with hi | hi
  · go_enter Try.func87, Try.ntmps87
    go_wp2
    go_ret
    exact ⟨rfl, rfl⟩
  · by_cases h0 : 0 ≤ i
    · have hd : decide (i < (l.length : Int)) = false := by simp; omega
      go_enter Try.func87, Try.ntmps87
      go_wp2
      go_ret
      exact ⟨rfl, rfl⟩
    · omega

theorem Try.infoU : (Try.prog.info? 30).map (fun i => (i.zero, i.size, i.bytes)) = some (some (.int .u64 0), 1, 8) := by kernel_rfl

theorem newRow_bad (w : World) (mp : Option Nat) (kind n : Int) (hn : n < 1 ∨ 4096 < n) :
    Calls Try.prog 82 #[PM mp, .int .i64 kind, .int .i64 n] w fun e w' => e = .returned (.tuple #[.pointer none, .int .i64 1]) ∧ w = w' := by
  rcases hn with hn | hn
  · go_enter Try.func82, Try.ntmps82
    go_wp2
    go_ret2
    exact ⟨rfl, rfl⟩
  · have h1 : decide (n < 1) = false := by simp; omega
    go_enter Try.func82, Try.ntmps82
    go_wp2
    go_ret2
    exact ⟨rfl, rfl⟩

theorem all_any (w : World) (r b : Nat) (kind : Int) (mp : Option Nat) (l : List Int) (hr : At R w r b kind mp l) :
    Calls Try.prog 72 #[.pointer (some ⟨r, 0, none⟩)] w fun e w' => ∃ v, e = .returned v ∧ NewRow 30 1 l.length (l.flatMap cells) [] w w' v := by
  have c2 : w.cell? ⟨r, 2, none⟩ = some (.slice (some ⟨b, 0, none⟩) l.length l.length) := (hr.blk.cell 2).trans rfl
  have hrl := hr.blk.lt
  have HO := Lib.hid hr.own
  have hf := hr.fits
  clear hr
  obtain ⟨i0, hi, hz0, hz1, hz2⟩ := info_parts Try.infoU
  have hmx : Hid (0 + l.length ≤ maxLen) := by unfold Hid maxLen; omega
  have hby : Hid ((0 + l.length) * 8 ≤ 140737488355328) := by unfold Hid; omega
  go_enter Try.func72, Try.ntmps72
  go_wp2_with (at_builtin; refine wpList_append_row rfl (.tmp 3) (.tmp 7) 130 rfl 30 i0 _ 1 8 Try.underlying130 hi hz0 hz1 hz2 rfl (by decide) (.slice (some ⟨w.heap.size, 0, none⟩) 0 0) 0 [] rfl (World.ownsRow_made _ _ _ (Nat.zero_le _) (by decide) rfl) (.slice (some ⟨b, 0, none⟩) l.length l.length) l.length (l.flatMap cells) rfl (HO.out.alloc _) (cells_one _) hmx.out hby.out ?_; intro v1 w1 hown1 hg1 hat1)
  go_ret
  refine ⟨v1, rfl, own_base (by simpa using hown1) ?_, (Keeps.refl _ _).alloc _ |>.grown hg1 ?_⟩
  · intro k hk
    rcases hat1 with e | e <;> rw [e] at hk <;> simp [Value.ownBlock] at hk <;> omega
  · simp [Value.ownBlock]
theorem newRow_ptr (w : World) (p : Option Addr) (kind : Int) (n : Nat) (h1 : 1 ≤ n) (h2 : n ≤ 4096) :
    Calls Try.prog 82 #[.pointer p, .int .i64 kind, .int .i64 n] w fun e w' =>
      e = .returned (.tuple #[.pointer (some ⟨w.heap.size + 1, 0, none⟩), .int .i64 0]) ∧ (Blk w' (w.heap.size + 1) 153 #[.pointer p, .int .i64 kind, .slice (some ⟨w.heap.size, 0, none⟩) n n] ∧ Blk w' w.heap.size 30 ((List.replicate n 0).flatMap cells).toArray) ∧ Keeps [] w w' ∧ w'.heap.size = w.heap.size + 2 := by
  obtain ⟨i0, hi, hz0, hz1, hz2⟩ := info_parts Try.infoU
  have hmk : ∀ w : World, (Instr.makeSlice 130 (.int .i64 (n : Int)) (.int .i64 (n : Int))).run Try.prog w = .ok (.slice (some ⟨w.heap.size, 0, none⟩) n n) (w.alloc (.cells ((List.replicate n 0).flatMap cells).toArray 30)) := fun w => by
    have := run_make (P := Try.prog) w 130 30 i0 _ Try.underlying130 hi hz0 .i64 .i64 n n (by omega) (Int.le_refl _) (by rw [hz2]; omega) (by omega)
    simp only [Int.toNat_natCast] at this
    rw [this, hz1, madeCells_rep cells 1 (by decide) (fun _ => rfl) 0 n (z := (Value.int .u64 0).cells) rfl]
  clear hi hz0 hz1 hz2
  have g1 : decide ((n : Int) < 1) = false := by simp; omega
  have g2 : decide ((4096 : Int) < (n : Int)) = false := by simp; omega
  go_enter Try.func82, Try.ntmps82
  go_wp2
  go_ret2
  exact ⟨rfl, ⟨new_at _ _ _ (by simp), (Blk.new _ _ _).alloc _⟩, by simp, by simp⟩

theorem newRow_ok (w : World) (mp : Option Nat) (kind : Int) (n : Nat) (h1 : 1 ≤ n) (h2 : n ≤ 4096) :
    Calls Try.prog 82 #[PM mp, .int .i64 kind, .int .i64 n] w fun e w' =>
      e = .returned (.tuple #[.pointer (some ⟨w.heap.size + 1, 0, none⟩), .int .i64 0]) ∧ At R w' (w.heap.size + 1) w.heap.size kind mp (List.replicate n 0) ∧ Keeps [] w w' ∧ w'.heap.size = w.heap.size + 2 :=
  (newRow_ptr w _ kind n h1 h2).mono fun e w' ⟨he, ⟨h3, h4⟩, h5, h6⟩ => ⟨he, ⟨by simpa [PM] using h3, h4, by simpa using h2⟩, h5, h6⟩

end RowU
end Go.Proofs.Ytelljfhhjapgnaa
