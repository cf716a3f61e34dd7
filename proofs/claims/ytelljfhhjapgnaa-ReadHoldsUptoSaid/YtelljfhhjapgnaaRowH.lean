/- Rows of api.Head: contracts of their methods. -/
import Derived.Test.YtelljfhhjapgnaaNote
import Derived.Test.YtelljfhhjapgnaaMake
import Derived.Test.YtelljfhhjapgnaaRowHDefs
import Derived.Deep.RegionHeld3
import Derived.RegionTactic
import Derived.BigRegion
import Derived.Outline
import Derived.Handy
namespace Go.Proofs.Ytelljfhhjapgnaa
namespace RowH
open Go.RowKit
set_option linter.unusedVariables false
attribute [local go_sem ↓] Go.wp_at_zero Go.wp_at_succ
theorem ty : Ty R MT := ⟨by decide, by decide, by decide, by decide, by decide⟩
theorem Try.info : (Try.prog.info? 47).map (fun i => (i.zero, i.size, i.bytes)) = some (some (.agg #[.int .i64 0, .int .i64 0, .int .i64 0, .int .i64 0, .bool false, .int .i64 0]), 6, 48) := by kernel_rfl

theorem newRow_ptr (w : World) (p : Option Addr) (kind : Int) (n : Nat) (h1 : 1 ≤ n) (h2 : n ≤ 4096) :
    Calls Try.prog 81 #[.pointer p, .int .i64 kind, .int .i64 n] w fun e w' =>
      e = .returned (.tuple #[.pointer (some ⟨w.heap.size + 1, 0, none⟩), .int .i64 0]) ∧ (Blk w' (w.heap.size + 1) 155 #[.pointer p, .int .i64 kind, .slice (some ⟨w.heap.size, 0, none⟩) n n] ∧ Blk w' w.heap.size 47 ((List.replicate n Hd.zero).flatMap cells).toArray) ∧ Keeps [] w w' ∧ w'.heap.size = w.heap.size + 2 := by
  obtain ⟨i0, hi, hz0, hz1, hz2⟩ := info_parts Try.info
  have hmk : ∀ w : World, (Instr.makeSlice 136 (.int .i64 (n : Int)) (.int .i64 (n : Int))).run Try.prog w = .ok (.slice (some ⟨w.heap.size, 0, none⟩) n n) (w.alloc (.cells ((List.replicate n Hd.zero).flatMap cells).toArray 47)) := fun w => by
    have := run_make (P := Try.prog) w 136 47 i0 _ Try.underlying136 hi hz0 .i64 .i64 n n (by omega) (Int.le_refl _) (by rw [hz2]; omega) (by omega)
    simp only [Int.toNat_natCast] at this
    rw [this, hz1, madeCells_rep cells 6 (by decide) (fun _ => rfl) Hd.zero n (z := (Value.agg #[.int .i64 0, .int .i64 0, .int .i64 0, .int .i64 0, .bool false, .int .i64 0]).cells) rfl]
  clear hi hz0 hz1 hz2
  have g1 : decide ((n : Int) < 1) = false := by simp; omega
  have g2 : decide ((4096 : Int) < (n : Int)) = false := by simp; omega
  go_enter Try.func81, Try.ntmps81
  go_wp2
  go_ret2
  exact ⟨rfl, ⟨new_at _ _ _ (by simp), (Blk.new _ _ _).alloc _⟩, by simp, by simp⟩
theorem newRow_ok (w : World) (mp : Option Nat) (kind : Int) (n : Nat) (h1 : 1 ≤ n) (h2 : n ≤ 4096) :
    Calls Try.prog 81 #[PM mp, .int .i64 kind, .int .i64 n] w fun e w' =>
      e = .returned (.tuple #[.pointer (some ⟨w.heap.size + 1, 0, none⟩), .int .i64 0]) ∧ At R w' (w.heap.size + 1) w.heap.size kind mp (List.replicate n Hd.zero) ∧ Keeps [] w w' ∧ w'.heap.size = w.heap.size + 2 :=
  (newRow_ptr w _ kind n h1 h2).mono fun e w' ⟨he, ⟨h3, h4⟩, h5, h6⟩ => ⟨he, ⟨by simpa [PM] using h3, h4, by simpa using h2⟩, h5, h6⟩

theorem all_any (w : World) (r b : Nat) (kind : Int) (mp : Option Nat) (l : List Hd) (hr : At R w r b kind mp l) :
    Calls Try.prog 73 #[.pointer (some ⟨r, 0, none⟩)] w fun e w' => ∃ v, e = .returned v ∧ NewRow 47 6 l.length (l.flatMap cells) [] w w' v := by
  have c2 : w.cell? ⟨r, 2, none⟩ = some (.slice (some ⟨b, 0, none⟩) l.length l.length) := (hr.blk.cell 2).trans rfl
  have hrl := hr.blk.lt
  have HO := Lib.hid hr.own
  have hf := hr.fits
  clear hr
  obtain ⟨i0, hi, hz0, hz1, hz2⟩ := info_parts Try.info
  have hmx : Hid (0 + l.length ≤ maxLen) := by unfold Hid maxLen; omega
  have hby : Hid ((0 + l.length) * 48 ≤ 140737488355328) := by unfold Hid; omega
  go_enter Try.func73, Try.ntmps73
  go_wp2_with (at_builtin; refine wpList_append_row rfl (.tmp 3) (.tmp 7) 136 rfl 47 i0 _ 6 48 Try.underlying136 hi hz0 hz1 hz2 rfl (by decide) (.slice (some ⟨w.heap.size, 0, none⟩) 0 0) 0 [] rfl (World.ownsRow_made _ _ _ (Nat.zero_le _) (by decide) rfl) (.slice (some ⟨b, 0, none⟩) l.length l.length) l.length (l.flatMap cells) rfl (HO.out.alloc _) (cells_one _) hmx.out hby.out ?_; intro v1 w1 hown1 hg1 hat1)
  go_ret
  refine ⟨v1, rfl, own_base (by simpa using hown1) ?_, (Keeps.refl _ _).alloc _ |>.grown hg1 ?_⟩
  · intro k hk
    rcases hat1 with e | e <;> rw [e] at hk <;> simp [Value.ownBlock] at hk <;> omega
  · simp [Value.ownBlock]

/-- The world in which two blocks of nothing were made. -/
def ZW (w : World) : World := (w.alloc (.cells #[.int .i64 0, .int .i64 0, .int .i64 0, .int .i64 0, .bool false, .int .i64 0] 47)).alloc (.cells #[.int .i64 0, .int .i64 0, .int .i64 0, .int .i64 0, .bool false, .int .i64 0] 47)

theorem kept_note {T : TypeId} {mp : Option Nat} {lb : Nat} {s s0 : MS} {w0 w w1 : World} {g : Nat} {t : TypeId} {cs : Array Value} (hm : MetAt T w0 mp lb s0) (hn : Noted T mp lb s w w1) (hb : Blk w g t cs) (hg : w0.heap.size ≤ g) : Blk w1 g t cs := by
  obtain ⟨_, _, hk, _⟩ := hn
  exact hb.keeps hk (fun h => by have := foot_lt hm h; omega)
theorem Left.post {R T : TypeId} {w wa w1 w2 : World} {r b : Nat} {kind : Int} {mp : Option Nat} {l0 l : List Hd} {lb : Nat} {s0 s : MS} (hr : At R w r b kind mp l0) (hm : MetAt T w mp lb s0) (hk : Keeps [] w wa) (h : Left R T r b kind mp l lb s wa w1)
    {S : List Nat} (hS : ∀ z, z ∈ S → w.heap.size ≤ z ∧ z < wa.heap.size) (hk2 : Keeps S w1 w2) : Left R T r b kind mp l lb s w w2 := by
  obtain ⟨h1, lb', h2, h3, h4⟩ := h
  have r0 := hr.blk.lt
  have r1 := hr.row.lt
  have hz := hk.size
  refine ⟨h1.keeps hk2 (fun q => by have := hS _ q; omega) (fun q => by have := hS _ q; omega), lb', h2.keeps hk2 ?_, ((hk.mono (T := b :: foot mp lb) (by simp)).trans h3 (fun x hx => .inl hx)).trans hk2 (fun x hx => .inr (hS x hx).1), by omega⟩
  intro q hq hq2
  have h5 := hS q hq2
  cases mp with
  | none => simp [foot] at hq
  | some g =>
    have h6 := foot_lt hm (k := g) (by simp [foot])
    have h7 := foot_lt hm (k := lb) (by simp [foot])
    simp only [foot, List.mem_cons, List.not_mem_nil, or_false] at hq
    omega

set_option maxHeartbeats 1000000 in
theorem load_at (w : World) (r b : Nat) (kind : Int) (mp : Option Nat) (l : List Hd) (hr : At R w r b kind mp l) (lb : Nat) (s : MS) (hm : MetAt MT w mp lb s) (hl : Room mp s)
    (k : Nat) (x : Hd) (hx : l[k]? = some x) :
    Calls Try.prog 94 #[.pointer (some ⟨r, 0, none⟩), .int .i64 k] w fun e w' =>
      e = .returned (.tuple #[.agg #[.int .i64 x.gen, .int .i64 x.state, .int .i64 x.stamp, .int .i64 x.thread, .bool x.doomed, .int .i64 x.who], .int .i64 0]) ∧ Left R MT r b kind mp l lb (s.note kind k 1 true) w w' := by
  have hk : k < l.length := (List.getElem?_eq_some_iff.1 hx).1
  have kwa : Keeps [] w (ZW w) := ((Keeps.refl [] w).alloc _).alloc _
  have bZ := Lib.hid (show Blk (ZW w) w.heap.size 47 #[.int .i64 0, .int .i64 0, .int .i64 0, .int .i64 0, .bool false, .int .i64 0] from (Blk.new _ _ _).alloc _)
  have HR1 := Lib.hid (hr.keeps kwa (by simp) (by simp))
  have HM1 := Lib.hid (hm.keeps kwa (by simp))
  have KWA := Lib.hid kwa
  have a2 : (ZW w).cell? ⟨r, 2, none⟩ = some (.slice (some ⟨b, 0, none⟩) l.length l.length) := (HR1.out.blk.cell 2).trans rfl
  unfold ZW at a2
  have HR := Lib.hid hr
  have HM := Lib.hid hm
  have HL := Lib.hid hl
  have HX := Lib.hid hx
  have hf := hr.fits
  have hki : (k : Int) < (l.length : Int) := by omega
  clear hr hm hl hx
  clear kwa
  go_enter Try.func94, Try.ntmps94
  go_wp2
  rw [show (w.alloc (.cells #[.int .i64 0, .int .i64 0, .int .i64 0, .int .i64 0, .bool false, .int .i64 0] 47)).alloc (.cells #[.int .i64 0, .int .i64 0, .int .i64 0, .int .i64 0, .bool false, .int .i64 0] 47) = ZW w from rfl]
  have hsz : Hid (w.heap.size < (ZW w).heap.size) := by unfold Hid ZW; simp; omega
  clear a2
  generalize ZW w = wa at *
  have a0 : wa.cell? ⟨r, 0, none⟩ = some (PM mp) := (HR1.out.blk.cell 0).trans rfl
  have a1 : wa.cell? ⟨r, 1, none⟩ = some (.int .i64 kind) := (HR1.out.blk.cell 1).trans rfl
  go_region_held3 (fun w' => w'.cell? ⟨r, 0, none⟩ = some (PM mp) ∧ w'.cell? ⟨r, 1, none⟩ = some (.int .i64 kind)) (first | exact ⟨d0, d1⟩ | go_keep) ((go_at_call 78; refine (note_any _ mp lb s HM1.out.drew _ _ _ _ HL.out).mono ?_; rintro e w1 ⟨rfl, hn1⟩; have hr1 := HR1.out.noted (HR1.out.foot ty HM1.out) hn1.undrew; have d0 : w1.cell? ⟨r, 0, none⟩ = some (PM mp) := (hr1.blk.cell 0).trans rfl; have d1 : w1.cell? ⟨r, 1, none⟩ = some (.int .i64 kind) := (hr1.blk.cell 1).trans rfl; have d2 : w1.cell? ⟨r, 2, none⟩ = some (.slice (some ⟨b, 0, none⟩) l.length l.length) := (hr1.blk.cell 2).trans rfl; have hce := hr1.cell HX.out; have g0 : w1.cell? ⟨b, k * 6, none⟩ = some (.int .i64 x.gen) := hce.1; have g1 : w1.cell? ⟨b, k * 6 + 1, none⟩ = some (.int .i64 x.state) := hce.2.1; have g2 : w1.cell? ⟨b, k * 6 + 2, none⟩ = some (.int .i64 x.stamp) := hce.2.2.1; have g3 : w1.cell? ⟨b, k * 6 + 3, none⟩ = some (.int .i64 x.thread) := hce.2.2.2.1; have g4 : w1.cell? ⟨b, k * 6 + 4, none⟩ = some (.bool x.doomed) := hce.2.2.2.2.1; have g5 : w1.cell? ⟨b, k * 6 + 5, none⟩ = some (.int .i64 x.who) := hce.2.2.2.2.2; have e3 : w1.frozen? ⟨b, k * 6, none⟩ = false := hr1.row.frozen _; have e4 : w1.frozen? ⟨b, k * 6 + 1, none⟩ = false := hr1.row.frozen _; have e5 : w1.frozen? ⟨b, k * 6 + 2, none⟩ = false := hr1.row.frozen _; have e6 : w1.frozen? ⟨b, k * 6 + 3, none⟩ = false := hr1.row.frozen _; have e7 : w1.frozen? ⟨b, k * 6 + 4, none⟩ = false := hr1.row.frozen _; have e8 : w1.frozen? ⟨b, k * 6 + 5, none⟩ = false := hr1.row.frozen _; have bz1 := kept_note HM.out hn1.undrew bZ.out (Nat.le_refl _); have z0 : w1.cell? ⟨w.heap.size, 0, none⟩ = some (.int .i64 0) := (bz1.cell 0).trans rfl; have y0 := bz1.frozen 0; have z1 : w1.cell? ⟨w.heap.size, 1, none⟩ = some (.int .i64 0) := (bz1.cell 1).trans rfl; have y1 := bz1.frozen 1; have z2 : w1.cell? ⟨w.heap.size, 2, none⟩ = some (.int .i64 0) := (bz1.cell 2).trans rfl; have y2 := bz1.frozen 2; have z3 : w1.cell? ⟨w.heap.size, 3, none⟩ = some (.int .i64 0) := (bz1.cell 3).trans rfl; have y3 := bz1.frozen 3; have z4 : w1.cell? ⟨w.heap.size, 4, none⟩ = some (.bool false) := (bz1.cell 4).trans rfl; have y4 := bz1.frozen 4; have z5 : w1.cell? ⟨w.heap.size, 5, none⟩ = some (.int .i64 0) := (bz1.cell 5).trans rfl; have y5 := bz1.frozen 5; clear bz1; have HN := Lib.hid hn1.undrew; clear hn1 hr1 hce))
  go_wp2
  refine bodyPost_ret (v := .tuple #[.agg #[.int .i64 x.gen, .int .i64 x.state, .int .i64 x.stamp, .int .i64 x.thread, .bool x.doomed, .int .i64 x.who], .int .i64 0]) (by simp [results, Try.results94, go_sem, z0, z1, z2, z3, z4, z5]) rfl ⟨rfl, ?_⟩
  refine Left.post HR.out HM.out KWA.out (left_noted ty HR1.out HM1.out HN.out) (S := [w.heap.size]) (fun z hz => by simp at hz; subst hz; exact ⟨Nat.le_refl _, hsz.out⟩) ?_
  exact ((((((Keeps.refl _ _).setCell (.inl (by simp)) _).setCell (.inl (by simp)) _).setCell (.inl (by simp)) _).setCell (.inl (by simp)) _).setCell (.inl (by simp)) _).setCell (.inl (by simp)) _

theorem len_any (w : World) (r b : Nat) (kind : Int) (mp : Option Nat) (l : List Hd) (hr : At R w r b kind mp l) :
    Calls Try.prog 89 #[.pointer (some ⟨r, 0, none⟩)] w fun e w' => e = .returned (.int .i64 l.length) ∧ w = w' := by
  have c2 : w.cell? ⟨r, 2, none⟩ = some (.slice (some ⟨b, 0, none⟩) l.length l.length) := (hr.blk.cell 2).trans rfl
  have hf := hr.fits
  clear hr
  go_enter Try.func89, Try.ntmps89
  go_wp2
  go_ret
  exact ⟨rfl, rfl⟩

theorem load_no (w : World) (r b : Nat) (kind : Int) (mp : Option Nat) (l : List Hd) (hr : At R w r b kind mp l) (i : Int) (hi : i < 0 ∨ (l.length : Int) ≤ i) :
    Calls Try.prog 94 #[.pointer (some ⟨r, 0, none⟩), .int .i64 i] w fun e w' => e = .returned (.tuple #[.agg #[.int .i64 Hd.zero.gen, .int .i64 Hd.zero.state, .int .i64 Hd.zero.stamp, .int .i64 Hd.zero.thread, .bool Hd.zero.doomed, .int .i64 Hd.zero.who], .int .i64 2]) ∧ Keeps [] w w' := by
  have kwa : Keeps [] w (ZW w) := ((Keeps.refl [] w).alloc _).alloc _
  have c2 : (ZW w).cell? ⟨r, 2, none⟩ = some (.slice (some ⟨b, 0, none⟩) l.length l.length) := ((hr.blk.keeps kwa (by simp)).cell 2).trans rfl
  have bZ := Lib.hid (Blk.new w 47 #[.int .i64 0, .int .i64 0, .int .i64 0, .int .i64 0, .bool false, .int .i64 0])
  unfold ZW at c2
  have hf := hr.fits
  clear hr kwa
  rcases hi with hi | hi
  · go_enter Try.func94, Try.ntmps94
    go_wp2
    refine bodyPost_ret (v := .tuple #[.agg #[.int .i64 Hd.zero.gen, .int .i64 Hd.zero.state, .int .i64 Hd.zero.stamp, .int .i64 Hd.zero.thread, .bool Hd.zero.doomed, .int .i64 Hd.zero.who], .int .i64 2]) (by simp [results, Try.results94, go_sem, Hd.zero]) rfl ⟨rfl, ?_⟩
    simp
  · by_cases h0 : 0 ≤ i
    · have hd : decide (i < (l.length : Int)) = false := by simp; omega
      go_enter Try.func94, Try.ntmps94
      go_wp2
      refine bodyPost_ret (v := .tuple #[.agg #[.int .i64 Hd.zero.gen, .int .i64 Hd.zero.state, .int .i64 Hd.zero.stamp, .int .i64 Hd.zero.thread, .bool Hd.zero.doomed, .int .i64 Hd.zero.who], .int .i64 2]) (by simp [results, Try.results94, go_sem, Hd.zero]) rfl ⟨rfl, ?_⟩
      simp
    · omega
end RowH
end Go.Proofs.Ytelljfhhjapgnaa
