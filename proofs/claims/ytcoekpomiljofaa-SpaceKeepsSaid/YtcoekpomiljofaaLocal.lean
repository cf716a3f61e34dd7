/- What lies beside a space: blocks and rows that its calls leave alone. -/
import Derived.Test.YtcoekpomiljofaaSpace
import Derived.Deep.AppendLies
import Derived.Deep.RegionLaw
import Derived.Deep.DrawnRows
import Derived.Outline
import Derived.Handy
namespace Go.Proofs.Ytcoekpomiljofaa
open Go.RowKit
set_option linter.unusedVariables false
section
variable {w0 w w' w'' : World} {z : Sb} {F : List Nat} {S S' : Sp} {k : Nat}
/-- The space's own block, whatever its events' slice is. -/
theorem SP.cells (h : SP w0 w z F S) : w.cell? ⟨z.p, 0, none⟩ = some (PT z.m) ∧ w.cell? ⟨z.p, 7, none⟩ = some (PT z.r) ∧ w.cell? ⟨z.p, 8, none⟩ = some (PT z.q) ∧ w.cell? ⟨z.p, 9, none⟩ = some (PT z.t.q) := by
  obtain ⟨lb, v, hs, _⟩ := h.ex
  exact ⟨(hs.blk.cell 0).trans rfl, (hs.blk.cell 7).trans rfl, (hs.blk.cell 8).trans rfl, (hs.blk.cell 9).trans rfl⟩
theorem SP.plt (h : SP w0 w z F S) : z.p < w.heap.size := by
  obtain ⟨lb, v, hs, _⟩ := h.ex
  exact hs.blk.lt
theorem SP.cfg (h : SP w0 w z F S) : w.cell? ⟨z.p, 1, none⟩ = some (.int .i64 S.c.cells) ∧ w.cell? ⟨z.p, 2, none⟩ = some (.int .i64 S.c.slots) ∧ w.cell? ⟨z.p, 3, none⟩ = some (.int .i64 S.c.bits) ∧ w.cell? ⟨z.p, 4, none⟩ = some (.int .i64 S.c.tag) ∧ w.cell? ⟨z.p, 5, none⟩ = some (.int .i64 S.c.bias) ∧ w.cell? ⟨z.p, 6, none⟩ = some (.int .i64 S.c.defer) := by
  obtain ⟨lb, v, hs, _⟩ := h.ex
  exact ⟨(hs.blk.cell 1).trans rfl, (hs.blk.cell 2).trans rfl, (hs.blk.cell 3).trans rfl, (hs.blk.cell 4).trans rfl, (hs.blk.cell 5).trans rfl, (hs.blk.cell 6).trans rfl⟩
theorem sp_gate (h : SP w0 w z F S) : Calls Try.prog 14 #[PT z.p] w fun e w' => e = .returned (PT z.q) ∧ w = w' := by
  obtain ⟨_, _, c8, _⟩ := h.cells
  clear h
  go_enter Try.func14, Try.ntmps14
  go_wp2
  go_ret
  exact ⟨rfl, rfl⟩
theorem sp_slots (h : SP w0 w z F S) : Calls Try.prog 15 #[PT z.p] w fun e w' => e = .returned (PT z.t.q) ∧ w = w' := by
  obtain ⟨_, _, _, c9⟩ := h.cells
  clear h
  go_enter Try.func15, Try.ntmps15
  go_wp2
  go_ret
  exact ⟨rfl, rfl⟩
theorem sp_steps (h : SP w0 w z F S) : Calls Try.prog 33 #[PT z.m] w fun e w' => e = .returned (.int .i64 S.met.steps) ∧ w = w' := by
  obtain ⟨lb, v, hs, _⟩ := h.ex
  exact steps_some w z.m lb _ hs.met
theorem sp_done (h : SP w0 w z F S) : Calls Try.prog 18 #[PT z.m] w fun e w' => e = .returned (.int .i64 S.met.done) ∧ w = w' := by
  obtain ⟨lb, v, hs, _⟩ := h.ex
  exact done_some w z.m lb _ hs.met
theorem sp_log (h : SP w0 w z F S) (hl : S.met.log.length ≤ 2199023255552) : Calls Try.prog 12 #[PT z.m] w fun e w' => ∃ v, e = .returned v ∧ NewRow 61 6 S.met.log.length (logCells S.met.log) [] w w' v := by
  obtain ⟨lb, v, hs, _⟩ := h.ex
  exact log_some w z.m lb _ hs.met hl
theorem sp_begin (h : SP w0 w z F S) (t : Int) : Calls Try.prog 25 #[PT z.m, .int .i64 t] w fun e w' => e = .returned (.tuple #[]) ∧ Went w0 w w' z F (S.begin t) := by
  obtain ⟨lb, v, hs, hF⟩ := h.ex
  exact (begin_any w (some z.m) lb S.met hs.met t).mono fun e w' ⟨he, h1, h2⟩ => ⟨he, h.went hF (hs.turned h1 h2 (.inl rfl))⟩
theorem sp_turn (h : SP w0 w z F S) (t : Int) : Calls Try.prog 7 #[PT z.p, .int .i64 t] w fun e w' => e = .returned (.tuple #[]) ∧ Went w0 w w' z F (S.begin t) := by
  obtain ⟨c0, _, _, _⟩ := h.cells
  have H := Lib.hid h
  clear h
  go_enter Try.func7, Try.ntmps7
  go_wp2_with fail
  refine (sp_begin H.out t).mono ?_
  rintro e w1 ⟨rfl, hw⟩
  have HW := Lib.hid hw
  clear hw
  go_wp2_with fail
  go_end0
  exact ⟨rfl, HW.out⟩
theorem sp_step (h : SP w0 w z F S) : Calls Try.prog 17 #[PT z.p] w fun e w' => e = .returned (.int .i64 S.met.steps) ∧ w = w' := by
  obtain ⟨c0, _, _, _⟩ := h.cells
  have H := Lib.hid h
  clear h
  go_enter Try.func17, Try.ntmps17
  go_wp2_with fail
  refine (sp_steps H.out).mono ?_
  rintro e w1 ⟨rfl, rfl⟩
  go_wp2_with fail
  go_ret
  exact ⟨rfl, rfl⟩
theorem row_load (h : SP w0 w z F S) (hf : Fit k S) (hk : k ≤ 1099511627776) (i : Int) : Calls Try.prog 26 #[PT z.r, .int .i64 i] w fun e w' => e = .returned (.tuple #[.int .i64 (S.load i).1.1, .int .i64 (S.load i).1.2]) ∧ Went w0 w w' z F (S.load i).2 := by
  obtain ⟨lb, v, hs, hF⟩ := h.ex
  unfold Sp.load
  split
  · rename_i x hn
    obtain ⟨h0, h1, hx⟩ := nth_len hn
    obtain ⟨i, rfl⟩ : ∃ n : Nat, i = n := ⟨i.toNat, by omega⟩
    simp only [Int.toNat_natCast] at hx ⊢
    exact (RowI.load_at w z.r z.b 1 (some z.m) S.cells hs.row lb S.met hs.met (hf.room hk _) i x hx).mono fun e w' ⟨he, hl⟩ => ⟨he, h.went hF (hs.rowed hl)⟩
  · rename_i hn
    exact (RowI.load_no w z.r z.b 1 (some z.m) S.cells hs.row i (nth_none hn)).mono fun e w' ⟨he, hk⟩ => ⟨he, h.stay (hk ▸ Keeps.refl _ _)⟩
theorem sp_load (h : SP w0 w z F S) (hf : Fit k S) (hk : k ≤ 1099511627776) (i : Int) : Calls Try.prog 8 #[PT z.p, .int .i64 i] w fun e w' => e = .returned (.tuple #[.int .i64 (S.load i).1.1, .int .i64 (S.load i).1.2]) ∧ Went w0 w w' z F (S.load i).2 := by
  obtain ⟨_, c7, _, _⟩ := h.cells
  have H := Lib.hid (And.intro h hf)
  clear h hf
  go_enter Try.func8, Try.ntmps8
  go_wp2_with fail
  refine (row_load H.out.1 H.out.2 hk i).mono ?_
  rintro e w1 ⟨rfl, hw⟩
  have HW := Lib.hid hw
  clear hw
  go_wp2_with fail
  go_ret2
  exact ⟨rfl, HW.out⟩
/-- A slice of ints that can be read. -/
def Src (w : World) (A : Option Addr) (xs : List Int) : Prop := 0 < xs.length → ∃ ad, A = some ad ∧ ∀ j v, (xs.map (Value.int .i64))[j]? = some v → w.cell? (ad.add j) = some v
theorem row_fill (h : SP w0 w z F S) (A : Option Addr) (xs : List Int) (c : Nat) (hA : Src w A xs) (hm : xs.length ≤ maxLen) : Calls Try.prog 24 #[PT z.r, .slice A xs.length c] w fun e w' => e = .returned (.int .i64 (S.fill xs).1) ∧ Went w0 w w' z F (S.fill xs).2 := by
  obtain ⟨lb, v, hs, hF⟩ := h.ex
  unfold Sp.fill
  split
  · rename_i hl
    exact (RowI.fill_ok w z.r z.b 1 (some z.m) S.cells hs.row A xs.length c xs rfl hA hl).mono fun e w' ⟨he, h1, h2⟩ => ⟨he, h.went hF (hs.filled h1 h2)⟩
  · rename_i hl
    exact (RowI.fill_many w z.r z.b 1 (some z.m) S.cells hs.row A xs.length c (by omega) hm).mono fun e w' ⟨he, hk⟩ => ⟨he, h.stay (hk ▸ Keeps.refl _ _)⟩
theorem sp_fill (h : SP w0 w z F S) (A : Option Addr) (xs : List Int) (c : Nat) (hA : Src w A xs) (hm : xs.length ≤ maxLen) : Calls Try.prog 6 #[PT z.p, .slice A xs.length c] w fun e w' => e = .returned (.int .i64 (S.fill xs).1) ∧ Went w0 w w' z F (S.fill xs).2 := by
  obtain ⟨_, c7, _, _⟩ := h.cells
  have H := Lib.hid (And.intro h hA)
  clear h hA
  go_enter Try.func6, Try.ntmps6
  go_wp2_with fail
  refine (row_fill H.out.1 A xs c H.out.2 hm).mono ?_
  rintro e w1 ⟨rfl, hw⟩
  have HW := Lib.hid hw
  clear hw
  go_wp2_with fail
  go_ret
  exact ⟨rfl, HW.out⟩
end
end Go.Proofs.Ytcoekpomiljofaa

namespace Go.Proofs.Ytcoekpomiljofaa
open Go.RowKit
set_option linter.unusedVariables false
theorem own_slice {w : World} {base : Nat} {t : TypeId} {size n : Nat} {v : Value} {xs : List Value} (h : w.ownsRow base t size v n xs) (hn : 0 < n) : ∃ a c, v = .slice (some ⟨a, 0, none⟩) n c ∧ base ≤ a := by
  rcases h.2 with ⟨_, h0⟩ | ⟨a, cap, cur, rfl, hb, _⟩
  · omega
  · exact ⟨a, cap, rfl, hb⟩
/-- The cells of a row, told. -/
def OwnC (w : World) (a c : Nat) (l : List Int) : Prop := w.ownsRow 0 2 1 (.slice (some ⟨a, 0, none⟩) l.length c) l.length (l.flatMap RowI.cells)
/-- The slots of a table, told. -/
def OwnS (w : World) (a c n : Nat) (l : List Sl) : Prop := w.ownsRow 0 59 8 (.slice (some ⟨a, 0, none⟩) n c) n (l.flatMap Sl.cells)
section
variable {w0 w w' w'' wB : World} {z : Sb} {F : List Nat} {S S' : Sp} {k : Nat}
theorem OwnC.keeps {X : List Nat} {a c : Nat} {l : List Int} (h : OwnC w a c l) (hk : Keeps X w w') (ha : a ∉ X) : OwnC w' a c l := own_keeps h hk (fun q hq => by simp [Value.ownBlock] at hq; subst hq; exact ha)
theorem OwnS.keeps {X : List Nat} {a c n : Nat} {l : List Sl} (h : OwnS w a c n l) (hk : Keeps X w w') (ha : a ∉ X) : OwnS w' a c n l := own_keeps h hk (fun q hq => by simp [Value.ownBlock] at hq; subst hq; exact ha)
theorem OwnC.lt {a c : Nat} {l : List Int} (h : OwnC w a c l) : a < w.heap.size := (World.ownsRow.lt h a rfl).2
theorem OwnS.lt {a c n : Nat} {l : List Sl} (h : OwnS w a c n l) : a < w.heap.size := (World.ownsRow.lt h a rfl).2
theorem Fit.ncells (hf : Fit k S) : 1 ≤ S.cells.length ∧ S.cells.length ≤ 256 := by have := hf.c.1; have := hf.cells; omega
theorem Fit.nslots (hf : Fit k S) : 1 ≤ S.H.length ∧ S.H.length ≤ 8 := by have := hf.c.2.1; have := hf.slots; omega
theorem row_all (h : SP w0 w z F S) (hf : Fit k S) : Calls Try.prog 27 #[PT z.r] w fun e w' => ∃ a c, e = .returned (.slice (some ⟨a, 0, none⟩) S.cells.length c) ∧ OwnC w' a c S.cells ∧ w.heap.size ≤ a ∧ Keeps [] w w' := by
  obtain ⟨lb, v, hs, hF⟩ := h.ex
  have hn := hf.ncells
  exact (RowI.all_any w z.r z.b 1 (some z.m) S.cells hs.row).mono fun e w' ⟨v, he, h1, h2⟩ => by
    obtain ⟨a, c, rfl, ha⟩ := own_slice h1 (by omega)
    exact ⟨a, c, he, own_base h1 (fun _ _ => Nat.zero_le _), ha, h2⟩
theorem tab_now (h : SP w0 w z F S) (hf : Fit k S) : Calls Try.prog 29 #[PT z.t.q] w fun e w' => ∃ a c, e = .returned (.slice (some ⟨a, 0, none⟩) S.H.length c) ∧ OwnS w' a c S.H.length (slL S.H S.W) ∧ w.heap.size ≤ a ∧ Keeps [] w w' := by
  obtain ⟨lb, v, hs, hF⟩ := h.ex
  have hn := hf.nslots
  have hl := slL_len S.H S.W hf.words
  exact (slots_now w z.t _ S.H S.W hs.tab).mono fun e w' ⟨v, he, h1, h2⟩ => by
    rw [hl] at h1
    obtain ⟨a, c, rfl, ha⟩ := own_slice h1 (by omega)
    exact ⟨a, c, he, own_base h1 (fun _ _ => Nat.zero_le _), ha, h2⟩
theorem held3 {f : FuncId} {args : Array Value} {w1 w : World} {Q : Ending → World → Prop} (hk : Keeps [] w1 w) (hc : Calls Try.prog f args w fun e w' => Q e w' ∧ Keeps [] w w') : Calls Try.prog f args w fun e w' => Q e w' ∧ Keeps [] w w' ∧ Keeps [] w1 w' := hc.mono fun e w' ⟨h1, h2⟩ => ⟨h1, h2, hk.trans h2 (by simp)⟩
theorem g_now (h : SP w0 w z F S) : Calls Try.prog 28 #[PT z.q] w fun e w' => e = .returned (.agg #[.int .i64 S.gate.number, .int .i64 S.gate.owner]) ∧ Keeps [] w w' := by
  obtain ⟨lb, v, hs, hF⟩ := h.ex
  exact gate_now w z.q z.gr z.gb _ S.gate hs.gate
set_option maxRecDepth 100000 in
set_option maxHeartbeats 4000000 in
theorem sp_view (h : SP w0 w z F S) (hf : Fit k S) : Calls Try.prog 10 #[PT z.p] w fun e w' => ∃ a1 c1 a2 c2, e = .returned (.agg #[.slice (some ⟨a1, 0, none⟩) S.cells.length c1, .int .i64 S.gate.number, .int .i64 S.gate.owner, .slice (some ⟨a2, 0, none⟩) S.H.length c2]) ∧ OwnC w' a1 c1 S.cells ∧ OwnS w' a2 c2 S.H.length (slL S.H S.W) ∧ w.heap.size ≤ a1 ∧ w.heap.size ≤ a2 ∧ Keeps [] w w' := by
  have hk1 : Keeps [] w (w.alloc (.cells #[.slice none 0 0, .int .i64 0, .int .i64 0, .slice none 0 0] 41)) := by simp
  have H1 := Lib.hid (h.calm hk1)
  have HF := Lib.hid hf
  have HB := Lib.hid (Blk.new w 41 #[.slice none 0 0, .int .i64 0, .int .i64 0, .slice none 0 0])
  have HK1 := Lib.hid hk1
  have hlt := h.plt
  have hne : z.p ≠ w.heap.size := by omega
  have hne' : w.heap.size ≠ z.p := by omega
  clear h hf hk1
  go_enter Try.func10, Try.ntmps10
  go_wp2_with fail
  obtain ⟨w1, hw1⟩ : ∃ w1, w.alloc (.cells #[.slice none 0 0, .int .i64 0, .int .i64 0, .slice none 0 0] 41) = w1 := ⟨_, rfl⟩
  have hz1 : w1.heap.size = w.heap.size + 1 := by rw [← hw1]; simp
  rw [hw1] at H1 HB HK1 ⊢
  clear hw1
  have hkB : Keeps [] w1 w1 := Keeps.refl _ _
  have HC := Lib.hid (show ∀ w', Keeps [] w1 w' → w'.cell? ⟨z.p, 7, none⟩ = some (PT z.r) ∧ w'.cell? ⟨z.p, 8, none⟩ = some (PT z.q) ∧ w'.cell? ⟨z.p, 9, none⟩ = some (PT z.t.q) from fun w' hk => (H1.out.calm hk).cells.2)
  have QA := Lib.hid (fun w (hk : Keeps [] w1 w) => held3 hk ((row_all (H1.out.calm hk) HF.out).mono fun e w' ⟨a, c, he, h1, h2, h3⟩ => (⟨⟨a, c, he, h1, Nat.le_trans hk.size h2⟩, h3⟩ : (∃ a c, e = .returned (.slice (some ⟨a, 0, none⟩) S.cells.length c) ∧ OwnC w' a c S.cells ∧ w1.heap.size ≤ a) ∧ Keeps [] w w')))
  have QG := Lib.hid (fun w (hk : Keeps [] w1 w) => held3 hk (g_now (H1.out.calm hk)))
  have QT := Lib.hid (fun w (hk : Keeps [] w1 w) => held3 hk ((tab_now (H1.out.calm hk) HF.out).mono fun e w' ⟨a, c, he, h1, h2, h3⟩ => (⟨⟨a, c, he, h1, Nat.le_trans hk.size h2⟩, h3⟩ : (∃ a c, e = .returned (.slice (some ⟨a, 0, none⟩) S.H.length c) ∧ OwnS w' a c S.H.length (slL S.H S.W) ∧ w1.heap.size ≤ a) ∧ Keeps [] w w')))
  go_region_held3 (fun w' => w'.cell? ⟨z.p, 7, none⟩ = some (PT z.r) ∧ w'.cell? ⟨z.p, 8, none⟩ = some (PT z.q) ∧ w'.cell? ⟨z.p, 9, none⟩ = some (PT z.t.q)) (first | exact HC.out _ (by first | assumption | exact Keeps.drew (by assumption)) | go_keep) ((first
    | (go_at_call 27; refine (QA.out _ (by first | assumption | exact Keeps.drew (by assumption))).mono ?_; rintro e wc ⟨⟨a1, c1, rfl, oC, la1⟩, hs, hkc⟩; (try replace oT := OwnS.keeps oT (Keeps.undrew hs) (by simp)); (try replace oT := OwnS.keeps oT hs (by simp)); obtain ⟨x7, x8, x9⟩ := HC.out wc hkc; have z0 : wc.cell? ⟨w.heap.size, 0, none⟩ = some (.slice none 0 0) := ((HB.out.keeps hkc (by simp)).cell 0).trans rfl; have z1 : wc.cell? ⟨w.heap.size, 1, none⟩ = some (.int .i64 0) := ((HB.out.keeps hkc (by simp)).cell 1).trans rfl; have z2 : wc.cell? ⟨w.heap.size, 2, none⟩ = some (.int .i64 0) := ((HB.out.keeps hkc (by simp)).cell 2).trans rfl; have z3 : wc.cell? ⟨w.heap.size, 3, none⟩ = some (.slice none 0 0) := ((HB.out.keeps hkc (by simp)).cell 3).trans rfl; have y0 := (HB.out.keeps hkc (by simp)).frozen 0; have y1 := (HB.out.keeps hkc (by simp)).frozen 1; have y2 := (HB.out.keeps hkc (by simp)).frozen 2; have y3 := (HB.out.keeps hkc (by simp)).frozen 3; clear hs)
    | (go_at_call 28; refine (QG.out _ (by first | assumption | exact Keeps.drew (by assumption))).mono ?_; rintro e wc ⟨rfl, hs, hkc⟩; (try replace oT := OwnS.keeps oT (Keeps.undrew hs) (by simp)); (try replace oT := OwnS.keeps oT hs (by simp)); (try replace oC := OwnC.keeps oC (Keeps.undrew hs) (by simp)); (try replace oC := OwnC.keeps oC hs (by simp)); obtain ⟨x7, x8, x9⟩ := HC.out wc hkc; have z0 : wc.cell? ⟨w.heap.size, 0, none⟩ = some (.slice none 0 0) := ((HB.out.keeps hkc (by simp)).cell 0).trans rfl; have z1 : wc.cell? ⟨w.heap.size, 1, none⟩ = some (.int .i64 0) := ((HB.out.keeps hkc (by simp)).cell 1).trans rfl; have z2 : wc.cell? ⟨w.heap.size, 2, none⟩ = some (.int .i64 0) := ((HB.out.keeps hkc (by simp)).cell 2).trans rfl; have z3 : wc.cell? ⟨w.heap.size, 3, none⟩ = some (.slice none 0 0) := ((HB.out.keeps hkc (by simp)).cell 3).trans rfl; have y0 := (HB.out.keeps hkc (by simp)).frozen 0; have y1 := (HB.out.keeps hkc (by simp)).frozen 1; have y2 := (HB.out.keeps hkc (by simp)).frozen 2; have y3 := (HB.out.keeps hkc (by simp)).frozen 3; clear hs)
    | (go_at_call 29; refine (QT.out _ (by first | assumption | exact Keeps.drew (by assumption))).mono ?_; rintro e wc ⟨⟨a2, c2, rfl, oT, la2⟩, hs, hkc⟩; (try replace oC := OwnC.keeps oC (Keeps.undrew hs) (by simp)); (try replace oC := OwnC.keeps oC hs (by simp)); obtain ⟨x7, x8, x9⟩ := HC.out wc hkc; have z0 : wc.cell? ⟨w.heap.size, 0, none⟩ = some (.slice none 0 0) := ((HB.out.keeps hkc (by simp)).cell 0).trans rfl; have z1 : wc.cell? ⟨w.heap.size, 1, none⟩ = some (.int .i64 0) := ((HB.out.keeps hkc (by simp)).cell 1).trans rfl; have z2 : wc.cell? ⟨w.heap.size, 2, none⟩ = some (.int .i64 0) := ((HB.out.keeps hkc (by simp)).cell 2).trans rfl; have z3 : wc.cell? ⟨w.heap.size, 3, none⟩ = some (.slice none 0 0) := ((HB.out.keeps hkc (by simp)).cell 3).trans rfl; have y0 := (HB.out.keeps hkc (by simp)).frozen 0; have y1 := (HB.out.keeps hkc (by simp)).frozen 1; have y2 := (HB.out.keeps hkc (by simp)).frozen 2; have y3 := (HB.out.keeps hkc (by simp)).frozen 3; clear hs)))
  all_goals
    go_wp2_with fail
    have q0 : a1 ∉ [w.heap.size] := by simp; omega
    have q1 : a2 ∉ [w.heap.size] := by simp; omega
    have kk : ∀ v0 v1 v2 v3 : Value, Keeps [w.heap.size] wc ((((wc.setCell ⟨w.heap.size, 0, none⟩ v0).setCell ⟨w.heap.size, 1, none⟩ v1).setCell ⟨w.heap.size, 2, none⟩ v2).setCell ⟨w.heap.size, 3, none⟩ v3) := fun v0 v1 v2 v3 => ((((Keeps.refl _ _).setCell (.inl (by simp)) _).setCell (.inl (by simp)) _).setCell (.inl (by simp)) _).setCell (.inl (by simp)) _
    refine bodyPost_ret (v := .agg #[.slice (some ⟨a1, 0, none⟩) S.cells.length c1, .int .i64 S.gate.number, .int .i64 S.gate.owner, .slice (some ⟨a2, 0, none⟩) S.H.length c2]) (by simp [results, Try.results10, go_sem, z0, z1, z2, z3]) rfl ⟨a1, c1, a2, c2, rfl, oC.keeps (kk _ _ _ _) q0, oT.keeps (kk _ _ _ _) q1, by omega, by omega, (HK1.out.trans hkc (by simp)).trans (kk _ _ _ _) (by simp)⟩
end
end Go.Proofs.Ytcoekpomiljofaa

namespace Go.Proofs.Ytcoekpomiljofaa
open Go.RowKit
set_option linter.unusedVariables false
attribute [local go_sem ↓] Go.wp_at_zero Go.wp_at_succ
theorem Try.infoEv : (Try.prog.info? 27).map (fun i => (i.zero, i.size, i.bytes)) = some (some (.agg #[.int .i64 0, .int .i64 0, .int .i64 0, .int .i64 0, .int .i64 0, .int .i64 0, .bool false, .int .i64 0, .int .i64 0, .int .i64 0]), 10, 80) := by kernel_rfl
def Ev.vals (v : Ev) : Array Value := #[.int .i64 v.kind, .int .i64 v.step, .int .i64 v.thread, .int .i64 v.stamp, .int .i64 v.cell, .int .i64 v.x, .bool v.mine, .int .i64 v.gate, .int .i64 v.e, .int .i64 v.who]
theorem ev_cells {w : World} {z : Nat} {v : Ev} (h : Blk w z 27 v.vals) : w.cell? ⟨z, 0, none⟩ = some (.int .i64 v.kind) ∧ w.cell? ⟨z, 1, none⟩ = some (.int .i64 v.step) ∧ w.cell? ⟨z, 2, none⟩ = some (.int .i64 v.thread) ∧ w.cell? ⟨z, 3, none⟩ = some (.int .i64 v.stamp) ∧ w.cell? ⟨z, 4, none⟩ = some (.int .i64 v.cell) ∧ w.cell? ⟨z, 5, none⟩ = some (.int .i64 v.x) ∧ w.cell? ⟨z, 6, none⟩ = some (.bool v.mine) ∧ w.cell? ⟨z, 7, none⟩ = some (.int .i64 v.gate) ∧ w.cell? ⟨z, 8, none⟩ = some (.int .i64 v.e) ∧ w.cell? ⟨z, 9, none⟩ = some (.int .i64 v.who) :=
  ⟨(h.cell 0).trans rfl, (h.cell 1).trans rfl, (h.cell 2).trans rfl, (h.cell 3).trans rfl, (h.cell 4).trans rfl, (h.cell 5).trans rfl, (h.cell 6).trans rfl, (h.cell 7).trans rfl, (h.cell 8).trans rfl, (h.cell 9).trans rfl⟩
theorem ev_one (l : List Ev) : ∀ u ∈ evCells l, u.oneCell' = true := by
  intro u hu
  simp only [evCells, List.mem_flatMap] at hu
  obtain ⟨x, _, hx⟩ := hu
  simp only [Ev.cells, List.mem_cons, List.not_mem_nil, or_false] at hx
  rcases hx with rfl | rfl | rfl | rfl | rfl | rfl | rfl | rfl | rfl | rfl <;> rfl
section
variable {w0 w w' w'' : World} {z : Sb} {F : List Nat} {S S' : Sp} {k : Nat}
theorem own_ev {w : World} {v : Value} {n : Nat} {xs : List Value} {o : Obj} (h : w.ownsRow 0 27 10 v n xs) : (w.alloc o).drew.ownsRow 0 27 10 v n xs := own_keeps h (S := []) (((Keeps.refl [] w).alloc _).drew) (by simp)
theorem grown_ev {w w1 : World} {v : Value} {n : Nat} {xs : List Value} {o : Obj} {g : Nat} {t : TypeId} {cs : Array Value} (h : w.ownsRow 0 27 10 v n xs) (hb : Blk w g t cs) (hne : 27 ≠ t) (hg : (w.alloc o).drew.grownBy w1 v.ownBlock) : Blk w1 g t cs :=
  (((hb.alloc o).drew).grown hg (fun e => own_blk_ne h hb hne e.symm))
theorem ev_close {w2 w3 : World} {lb g1 cap : Nat} {sv : Value} {u : Ev} {o : Obj} (hs : SpAt w2 z lb sv S) (hb : Blk w3 z.p 52 (spVals z S.c sv))
    (hown : w3.ownsRow 0 27 10 (.slice (some ⟨g1, 0, none⟩) (S.ev.length + 1) cap) (S.ev.length + 1) (evCells S.ev ++ u.cells)) (hg : (w2.alloc o).drew.grownBy w3 sv.ownBlock)
    (hat : sv.ownBlock = some g1 ∨ g1 = (w2.alloc o).drew.heap.size) :
    SpWent w2 (w3.setCell ⟨z.p, 10, none⟩ (.slice (some ⟨g1, 0, none⟩) (S.ev.length + 1) cap)) z lb sv { S with ev := S.ev ++ [u] } := by
  have hne : z.p ≠ g1 := fun e => own_blk_ne hown hb (by decide) (by simp [Value.ownBlock, e])
  have k0 : Keeps (z.p :: sv.ownBlock.toList) w2 (w3.setCell ⟨z.p, 10, none⟩ (.slice (some ⟨g1, 0, none⟩) (S.ev.length + 1) cap)) :=
    (((((Keeps.refl _ w2).alloc o).drew).grown hg (fun q hq => .inl (by simp [hq]))).setCell (.inl (by simp)) _)
  have hX : InT w2 (z.p :: sv.ownBlock.toList) [52, 27] := InT.cons hs.blk.tyOf (fun x hx => ⟨_, by simp, own_tyOf hs.ev (by simpa using hx)⟩)
  refine ⟨lb, .slice (some ⟨g1, 0, none⟩) (S.ev.length + 1) cap, ⟨?_, hs.met_keeps hX k0 (by decide) (by decide), hs.row_keeps hX k0 (by decide) (by decide), hs.gate_keeps hX k0 (by decide) (by decide) (by decide), hs.tab_keeps hX k0 (by decide) (by decide) (by decide) (by decide) (by decide), ?_⟩, foot_sub (fun x hx => by simp at hx; rcases hx with h | h <;> simp [h]) k0, .inl rfl, ?_⟩
  · have := hb.set_ 10 (.slice (some ⟨g1, 0, none⟩) (S.ev.length + 1) cap)
    simpa [spVals] using this
  · have := own_keeps hown (S := [z.p]) ((Keeps.refl [z.p] w3).setCell (p := ⟨z.p, 10, none⟩) (.inl (by simp)) (.slice (some ⟨g1, 0, none⟩) (S.ev.length + 1) cap)) (by simp [Value.ownBlock, Ne.symm hne])
    simpa [evCells] using this
  · intro q hq
    simp [Value.ownBlock] at hq
    subst hq
    rcases hat with h | h
    · exact .inl h
    · right
      rw [h]
      simp only [World.size_drew, World.size_alloc]
      omega
theorem Went.pre {w1 : World} (hk : Keeps [] w w1) (h : Went w0 w1 w' z F S') : Went w0 w w' z F S' := by
  obtain ⟨F', h1, h2, h3⟩ := h
  refine ⟨F', h1, (hk.mono (T := F) (by simp)).trans h2 (fun x hx => .inl hx), fun x hx => ?_⟩
  have := hk.size
  rcases h3 x hx with h4 | h4
  · exact .inl h4
  · exact .inr (by omega)
set_option maxRecDepth 100000 in
set_option maxHeartbeats 8000000 in
theorem sp_note (h : SP w0 w z F S) (hf : Fit k S) (hk : k ≤ 1099511627776) (v : Ev) : Calls Try.prog 9 #[PT z.p, .agg #[.int .i64 v.kind, .int .i64 v.step, .int .i64 v.thread, .int .i64 v.stamp, .int .i64 v.cell, .int .i64 v.x, .bool v.mine, .int .i64 v.gate, .int .i64 v.e, .int .i64 v.who]] w fun e w' => e = .returned (.tuple #[]) ∧ Went w0 w w' z F (S.note v) := by
  have hk1 : Keeps [] w (w.alloc (.cells v.vals 27)) := by simp
  have H1 := Lib.hid (h.calm hk1)
  have HB1 := Lib.hid (Blk.new w 27 v.vals)
  obtain ⟨w1, hw1⟩ : ∃ w1, w.alloc (.cells v.vals 27) = w1 := ⟨_, rfl⟩
  have HW1 := Lib.hid hw1
  have f1 := HB1.out.frozen 1
  have c1 := (ev_cells HB1.out).2.1
  rw [hw1] at H1 HB1 hk1
  have HL := Lib.hid h.lt
  have HLo := Lib.hid h.low
  have HS := Lib.hid (show w0.heap.size ≤ w.heap.size from h.keep.size)
  have HEV := Lib.hid hf.ev
  have HH := Lib.hid h
  clear h hf hw1
  unfold Ev.vals at c1 f1
  go_enter Try.func9, Try.ntmps9
  go_wp2_with fail
  have hq : Calls Try.prog 17 #[PT z.p] w1 fun e w' => e = .returned (.int .i64 S.met.steps) ∧ w1 = w' := sp_step H1.out
  rw [← HW1.out] at hq
  unfold Ev.vals at hq
  refine hq.mono ?_
  rintro e wq ⟨rfl, rfl⟩
  clear hq
  go_wp2_with fail
  clear HW1 f1 c1 H1 HB1 hk1 w1
  have hk2 : Keeps [] w (w.alloc (.cells #[.int .i64 v.kind, .int .i64 S.met.steps, .int .i64 v.thread, .int .i64 v.stamp, .int .i64 v.cell, .int .i64 v.x, .bool v.mine, .int .i64 v.gate, .int .i64 v.e, .int .i64 v.who] 27)) := by simp
  have H2 := Lib.hid (HH.out.calm hk2)
  have hb2 : Blk (w.alloc (.cells #[.int .i64 v.kind, .int .i64 S.met.steps, .int .i64 v.thread, .int .i64 v.stamp, .int .i64 v.cell, .int .i64 v.x, .bool v.mine, .int .i64 v.gate, .int .i64 v.e, .int .i64 v.who] 27)) w.heap.size 27 (v.at_ S.met.steps).vals := Blk.new w _ _
  obtain ⟨w2, hw2⟩ : ∃ w2, w.alloc (.cells #[.int .i64 v.kind, .int .i64 S.met.steps, .int .i64 v.thread, .int .i64 v.stamp, .int .i64 v.cell, .int .i64 v.x, .bool v.mine, .int .i64 v.gate, .int .i64 v.e, .int .i64 v.who] 27) = w2 := ⟨_, rfl⟩
  have hz2 : Hid (w2.heap.size = w.heap.size + 1) := by unfold Hid; rw [← hw2]; simp
  rw [hw2] at H2 hb2 hk2 ⊢
  clear hw2
  obtain ⟨u, hu⟩ : ∃ u, v.at_ S.met.steps = u := ⟨_, rfl⟩
  rw [hu] at hb2
  have HU := Lib.hid hu
  obtain ⟨e0, e1, e2, e3, e4, e5, e6, e7, e8, e9⟩ := ev_cells hb2
  obtain ⟨q, hq⟩ : ∃ q, w.heap.size = q := ⟨_, rfl⟩
  have HQ := Lib.hid hq
  rw [hq] at e0 e1 e2 e3 e4 e5 e6 e7 e8 e9 ⊢
  obtain ⟨lb, sv, hs, hF⟩ := H2.out.ex
  have HSA := Lib.hid hs
  have c10 : w2.cell? ⟨z.p, 10, none⟩ = some sv := (hs.blk.cell 10).trans rfl
  have f10 := hs.blk.frozen 10
  have hplt := hs.blk.lt
  have hpne : z.p ≠ w2.heap.size := by omega
  have HO := Lib.hid hs.ev
  have HF := Lib.hid hF
  have HK2 := Lib.hid hk2
  clear hs hF hk2 hb2 hu hq
  obtain ⟨i0, hi, hz0, hz1, hz3⟩ := info_parts Try.infoEv
  have hmx : S.ev.length + 1 ≤ maxLen := by have := HEV.out; unfold maxLen; omega
  have hby : (S.ev.length + 1) * 80 ≤ 140737488355328 := by have := HEV.out; omega
  have HMX := Lib.hid hmx
  have HBY := Lib.hid hby
  have hpe : Hid (27 ≠ (52 : TypeId)) := by unfold Hid; decide
  clear hmx hby
  go_region_law (refine step_append_lies _ rfl (.tmp 11) (.tmp 13) 43 rfl 0 27 i0 _ 10 80 Try.underlying43 hi hz0 hz1 hz3 rfl (by decide) sv S.ev.length (evCells S.ev) rfl (own_ev HO.out) ⟨w2.heap.size, 0, none⟩ 1 1 (Ev.cells u) rfl rfl (by exact World.news_of_block (new_at _ _ _ (by simp))) (by simp [Ev.cells, Value.oneCell']) (by decide) HMX.out HBY.out (Nat.zero_le _) _ rfl ?_; intro g1 cap w3 hown hgrow hat hlt; have hb3 := grown_ev HO.out HSA.out.blk hpe.out hgrow; have d10 : w3.cell? ⟨z.p, 10, none⟩ = some sv := (hb3.cell 10).trans rfl; have f3 := hb3.frozen 10; have HB3 := Lib.hid hb3; clear hb3)
  all_goals
    go_wp2_with fail
    go_end0
    have hq := ev_close HSA.out HB3.out hown hgrow hat
    rw [← HU.out] at hq
    exact ⟨rfl, (H2.out.went HF.out hq).pre HK2.out⟩
/-- The events, told. -/
theorem sp_events (h : SP w0 w z F S) (hf : Fit k S) (hk : k ≤ 1099511627776) : Calls Try.prog 11 #[PT z.p] w fun e w' => ∃ v, e = .returned v ∧ NewRow 27 10 S.ev.length (evCells S.ev) [] w w' v := by
  obtain ⟨lb, sv, hs, _⟩ := h.ex
  have c10 : w.cell? ⟨z.p, 10, none⟩ = some sv := (hs.blk.cell 10).trans rfl
  have hplt := hs.blk.lt
  have hpne : z.p ≠ w.heap.size := by omega
  have HO := Lib.hid hs.ev
  have hl := hf.ev
  have hmx : Hid (0 + S.ev.length ≤ maxLen) := by unfold Hid maxLen; omega
  have hby : Hid ((0 + S.ev.length) * 80 ≤ 140737488355328) := by unfold Hid; omega
  clear hs h hf hl hk
  obtain ⟨i0, hi, hz0, hz1, hz2⟩ := info_parts Try.infoEv
  go_enter Try.func11, Try.ntmps11
  go_wp2_with (at_builtin; refine wpList_append_row rfl (.tmp 3) (.tmp 7) 43 rfl 27 i0 _ 10 80 Try.underlying43 hi hz0 hz1 hz2 rfl (by decide) (.slice (some ⟨w.heap.size, 0, none⟩) 0 0) 0 [] rfl (World.ownsRow_made _ _ _ (Nat.zero_le _) (by decide) rfl) sv S.ev.length (evCells S.ev) rfl (own_keeps HO.out ((Keeps.refl [] _).alloc _) (by simp)) (ev_one _) hmx.out hby.out ?_; intro v1 w1 hown1 hg1 hat1)
  go_ret
  refine ⟨v1, rfl, own_base (by simpa using hown1) ?_, (Keeps.refl _ _).alloc _ |>.grown hg1 ?_⟩
  · intro k hk
    rcases hat1 with e | e <;> rw [e] at hk <;> simp [Value.ownBlock] at hk <;> omega
  · simp [Value.ownBlock]
end
end Go.Proofs.Ytcoekpomiljofaa

namespace Go.Proofs.Ytcoekpomiljofaa
open Go.RowKit
set_option linter.unusedVariables false
/-- A block of the call's own, none of the space's. -/
structure Loc (w : World) (F : List Nat) (b : Nat) (t : TypeId) (cs : Array Value) : Prop where
  blk : Blk w b t cs
  off : b ∉ F
/-- A row of the call's own. -/
structure LocR (w : World) (F : List Nat) (a : Nat) (t : TypeId) (size n c : Nat) (xs : List Value) : Prop where
  own : w.ownsRow 0 t size (.slice (some ⟨a, 0, none⟩) n c) n xs
  off : a ∉ F
section
variable {w0 w w' w1 : World} {z : Sb} {F F' : List Nat} {S S' : Sp} {b : Nat} {t : TypeId} {cs : Array Value} {size n c : Nat} {xs : List Value}
theorem Loc.step (h : Loc w F b t cs) (hk : Keeps F w w') (hn : ∀ x, x ∈ F' → x ∈ F ∨ w.heap.size ≤ x) : Loc w' F' b t cs :=
  ⟨h.blk.keeps hk h.off, fun hx => by
    have := h.blk.lt
    rcases hn b hx with h1 | h1
    · exact h.off h1
    · omega⟩
theorem Loc.calm (h : Loc w F b t cs) (hk : Keeps [] w w') : Loc w' F b t cs := ⟨h.blk.keeps hk (by simp), h.off⟩
theorem Loc.far {X : List Nat} (h : Loc w F b t cs) (hk : Keeps X w w') (hX : b ∉ X) : Loc w' F b t cs := ⟨h.blk.keeps hk hX, h.off⟩
theorem Loc.lt (h : Loc w F b t cs) : b < w.heap.size := h.blk.lt
theorem LocR.lt (h : LocR w F b t size n c xs) : b < w.heap.size := (World.ownsRow.lt h.own b rfl).2
theorem LocR.step (h : LocR w F b t size n c xs) (hk : Keeps F w w') (hn : ∀ x, x ∈ F' → x ∈ F ∨ w.heap.size ≤ x) : LocR w' F' b t size n c xs :=
  ⟨own_keeps h.own hk (fun q hq => by simp [Value.ownBlock] at hq; subst hq; exact h.off), fun hx => by
    have := h.lt
    rcases hn b hx with h1 | h1
    · exact h.off h1
    · omega⟩
theorem LocR.far {X : List Nat} (h : LocR w F b t size n c xs) (hk : Keeps X w w') (hX : b ∉ X) : LocR w' F b t size n c xs := ⟨own_keeps h.own hk (fun q hq => by simp [Value.ownBlock] at hq; subst hq; exact hX), h.off⟩
theorem LocR.calm (h : LocR w F b t size n c xs) (hk : Keeps [] w w') : LocR w' F b t size n c xs := h.far hk (by simp)
theorem LocR.cell (h : LocR w F b t size n c xs) {i : Nat} {v : Value} (hx : xs[i]? = some v) : w.cell? ⟨b, i, none⟩ = some v := by
  have hl : xs.length = n * size := h.own.1
  have hi := (List.getElem?_eq_some_iff.1 hx).1
  exact (h.own.cellAt i (by omega)).trans hx
theorem LocR.frozen (h : LocR w F b t size n c xs) (i : Nat) : w.frozen? ⟨b, i, none⟩ = false := h.own.frozenAt i
theorem SP.fresh (h : SP w0 w z F S) {b : Nat} (hb : w.heap.size ≤ b) : b ∉ F := fun hx => by have := h.lt b hx; omega
theorem SP.local_ (h : SP w0 w z F S) (t : TypeId) (cs : Array Value) : Loc (w.alloc (.cells cs t)) F w.heap.size t cs := ⟨Blk.new _ _ _, h.fresh (Nat.le_refl _)⟩
/-- Made since an earlier world. -/
theorem SP.base (h : SP w1 w z F S) (hk : Keeps [] w0 w1) : SP w0 w z F S := ⟨h.ex, fun x hx => Nat.le_trans hk.size (h.low x hx), hk.trans h.keep (by simp)⟩
/-- Writes to a local block. -/
theorem SP.locals (h : SP w0 w z F S) {X : List Nat} (hk : Keeps X w w') (hX : ∀ x, x ∈ X → w0.heap.size ≤ x ∧ x ∉ F ∧ (∀ t, tyOf w x = some t → t ∉ spFix)) : SP w0 w' z F S := h.away hk hX
theorem slots_held {wB : World} (h : SP w0 wB z F S) (hk : Keeps [] wB w) : Calls Try.prog 15 #[PT z.p] w fun e w' => e = .returned (PT z.t.q) ∧ Keeps [] wB w' :=
  (sp_slots (h.calm hk)).mono fun e w' ⟨he, h2⟩ => ⟨he, h2 ▸ hk⟩
end
theorem ev_eq (w : World) (x y : Ev) : (Op.equalIn 10000 27 (.agg x.vals) (.agg y.vals)).run Try.prog w = .ok (decide (x = y)) w := by
  have e : decide (x = y) = ((x.kind == y.kind) && (x.step == y.step) && (x.thread == y.thread) && (x.stamp == y.stamp) && (x.cell == y.cell) && (x.x == y.x) && (x.mine == y.mine) && (x.gate == y.gate) && (x.e == y.e) && (x.who == y.who)) := by
    obtain ⟨x0, x1, x2, x3, x4, x5, x6, x7, x8, x9⟩ := x
    obtain ⟨y0, y1, y2, y3, y4, y5, y6, y7, y8, y9⟩ := y
    rw [Bool.eq_iff_iff]
    simp [and_assoc]
  rw [e]
  simp [go_sem, Ev.vals]
  repeat' split
  all_goals simp_all
end Go.Proofs.Ytcoekpomiljofaa
