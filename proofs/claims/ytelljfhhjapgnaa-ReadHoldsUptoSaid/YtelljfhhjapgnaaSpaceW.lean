/- Layer 8: the space's methods as functions on what it holds. -/
import Derived.Test.YtelljfhhjapgnaaSpace
import Derived.Deep.AppendLies
import Derived.Deep.RegionLaw
import Derived.Deep.DrawnRows
import Derived.Outline
import Derived.Handy
namespace Go.Proofs.Ytelljfhhjapgnaa
open Go.RowKit
set_option linter.unusedVariables false
section
variable {w0 w w' w'' : World} {z : Sb} {F : List Nat} {S S' : Sp} {k : Nat}
/-- The space's own block, whatever its events' slice is. -/
theorem SP.cells (h : SP w0 w z F S) : w.cell? ⟨z.p, 0, none⟩ = some (PT z.m) ∧ w.cell? ⟨z.p, 7, none⟩ = some (PT z.r) ∧ w.cell? ⟨z.p, 8, none⟩ = some (PT z.q) ∧ w.cell? ⟨z.p, 9, none⟩ = some (PT z.t.q) := by
  obtain ⟨lb, v, hs, _⟩ := h.ex
  exact ⟨(hs.blk.cell 0).trans rfl, (hs.blk.cell 7).trans rfl, (hs.blk.cell 8).trans rfl, (hs.blk.cell 9).trans rfl⟩
theorem SP.plt (h : SP w0 w z F S) : z.p < w.heap.size := by
  obtain ⟨lb, v, hs, _⟩ := h.ex
  exact hs.blk.lt
theorem SP.cfg (h : SP w0 w z F S) : w.cell? ⟨z.p, 1, none⟩ = some (.int .i64 S.c.cells) ∧ w.cell? ⟨z.p, 2, none⟩ = some (.int .i64 S.c.slots) ∧ w.cell? ⟨z.p, 3, none⟩ = some (.int .i64 S.c.bits) ∧ w.cell? ⟨z.p, 4, none⟩ = some (.int .i64 S.c.tag) ∧ w.cell? ⟨z.p, 5, none⟩ = some (.int .i64 S.c.bias) ∧ w.cell? ⟨z.p, 6, none⟩ = some (.int .i64 S.c.defer) := by
  obtain ⟨lb, v, hs, _⟩ := h.ex
  exact ⟨(hs.blk.cell 1).trans rfl, (hs.blk.cell 2).trans rfl, (hs.blk.cell 3).trans rfl, (hs.blk.cell 4).trans rfl, (hs.blk.cell 5).trans rfl, (hs.blk.cell 6).trans rfl⟩
theorem sp_gate (h : SP w0 w z F S) : Calls Try.prog 25 #[PT z.p] w fun e w' => e = .returned (PT z.q) ∧ w = w' := by
  obtain ⟨_, _, c8, _⟩ := h.cells
  clear h
  go_enter Try.func25, Try.ntmps25
  go_wp2
  go_ret
  exact ⟨rfl, rfl⟩
theorem sp_slots (h : SP w0 w z F S) : Calls Try.prog 20 #[PT z.p] w fun e w' => e = .returned (PT z.t.q) ∧ w = w' := by
  obtain ⟨_, _, _, c9⟩ := h.cells
  clear h
  go_enter Try.func20, Try.ntmps20
  go_wp2
  go_ret
  exact ⟨rfl, rfl⟩
theorem sp_len (h : SP w0 w z F S) : Calls Try.prog 74 #[PT z.t.q] w fun e w' => e = .returned (.int .i64 S.H.length) ∧ w = w' := by
  obtain ⟨lb, v, hs, _⟩ := h.ex
  exact slots_len w z.t _ _ _ hs.tab
theorem sp_done (h : SP w0 w z F S) : Calls Try.prog 31 #[PT z.m] w fun e w' => e = .returned (.int .i64 S.met.done) ∧ w = w' := by
  obtain ⟨lb, v, hs, _⟩ := h.ex
  exact done_some w z.m lb _ hs.met
theorem sp_log (h : SP w0 w z F S) (hl : S.met.log.length ≤ 2199023255552) : Calls Try.prog 30 #[PT z.m] w fun e w' => ∃ v, e = .returned v ∧ NewRow 83 6 S.met.log.length (logCells S.met.log) [] w w' v := by
  obtain ⟨lb, v, hs, _⟩ := h.ex
  exact log_some w z.m lb _ hs.met hl
theorem sp_begin (h : SP w0 w z F S) (t : Int) : Calls Try.prog 60 #[PT z.m, .int .i64 t] w fun e w' => e = .returned (.tuple #[]) ∧ Went w0 w w' z F (S.begin t) := by
  obtain ⟨lb, v, hs, hF⟩ := h.ex
  exact (begin_any w (some z.m) lb S.met hs.met t).mono fun e w' ⟨he, h1, h2⟩ => ⟨he, h.went hF (hs.turned h1 h2 (.inl rfl))⟩
theorem sp_turn (h : SP w0 w z F S) (t : Int) : Calls Try.prog 28 #[PT z.p, .int .i64 t] w fun e w' => e = .returned (.tuple #[]) ∧ Went w0 w w' z F (S.begin t) := by
  obtain ⟨c0, _, _, _⟩ := h.cells
  have H := Lib.hid h
  clear h
  go_enter Try.func28, Try.ntmps28
  go_wp2_with fail
  refine (sp_begin H.out t).mono ?_
  rintro e w1 ⟨rfl, hw⟩
  have HW := Lib.hid hw
  clear hw
  go_wp2_with fail
  go_end0
  exact ⟨rfl, HW.out⟩
theorem row_load (h : SP w0 w z F S) (hf : Fit k S) (hk : k ≤ 1099511627776) (i : Int) : Calls Try.prog 84 #[PT z.r, .int .i64 i] w fun e w' => e = .returned (.tuple #[.int .i64 (S.load i).1.1, .int .i64 (S.load i).1.2]) ∧ Went w0 w w' z F (S.load i).2 := by
  obtain ⟨lb, v, hs, hF⟩ := h.ex
  unfold Sp.load
  split
  · rename_i x hn
    obtain ⟨h0, h1, hx⟩ := nth_len hn
    obtain ⟨i, rfl⟩ : ∃ n : Nat, i = n := ⟨i.toNat, by omega⟩
    simp only [Int.toNat_natCast] at hx ⊢
    exact (RowI.load_at w z.r z.b 1 (some z.m) S.cells hs.row lb S.met hs.met (hf.room hk _) i x hx).mono fun e w' ⟨he, hl⟩ => ⟨he, h.went hF (hs.rowed hl)⟩
  · rename_i hn
    exact (RowI.load_no w z.r z.b 1 (some z.m) S.cells hs.row i (nth_none hn)).mono fun e w' ⟨he, hk⟩ => ⟨he, h.stay (hk ▸ Keeps.refl _ _)⟩
theorem sp_load (h : SP w0 w z F S) (hf : Fit k S) (hk : k ≤ 1099511627776) (i : Int) : Calls Try.prog 69 #[PT z.p, .int .i64 i] w fun e w' => e = .returned (.tuple #[.int .i64 (S.load i).1.1, .int .i64 (S.load i).1.2]) ∧ Went w0 w w' z F (S.load i).2 := by
  obtain ⟨_, c7, _, _⟩ := h.cells
  have H := Lib.hid (And.intro h hf)
  clear h hf
  go_enter Try.func69, Try.ntmps69
  go_wp2_with fail
  refine (row_load H.out.1 H.out.2 hk i).mono ?_
  rintro e w1 ⟨rfl, hw⟩
  have HW := Lib.hid hw
  clear hw
  go_wp2_with fail
  go_ret2
  exact ⟨rfl, HW.out⟩
theorem row_store (h : SP w0 w z F S) (hf : Fit k S) (hk : k ≤ 1099511627776) (i x : Int) : Calls Try.prog 63 #[PT z.r, .int .i64 i, .int .i64 x] w fun e w' => e = .returned (.int .i64 (S.store i x).1) ∧ Went w0 w w' z F (S.store i x).2 := by
  obtain ⟨lb, v, hs, hF⟩ := h.ex
  unfold Sp.store
  split
  · rename_i x0 hn
    obtain ⟨h0, h1, hx⟩ := nth_len hn
    obtain ⟨i, rfl⟩ : ∃ n : Nat, i = n := ⟨i.toNat, by omega⟩
    simp only [Int.toNat_natCast] at hx ⊢
    exact (RowI.store_at w z.r z.b 1 (some z.m) S.cells hs.row lb S.met hs.met (hf.room hk _) i x (by omega)).mono fun e w' ⟨he, hl⟩ => ⟨he, h.went hF (hs.rowed hl)⟩
  · rename_i hn
    exact (RowI.store_no w z.r z.b 1 (some z.m) S.cells hs.row i x (nth_none hn)).mono fun e w' ⟨he, hk⟩ => ⟨he, h.stay (hk ▸ Keeps.refl _ _)⟩
theorem sp_store (h : SP w0 w z F S) (hf : Fit k S) (hk : k ≤ 1099511627776) (i x : Int) : Calls Try.prog 34 #[PT z.p, .int .i64 i, .int .i64 x] w fun e w' => e = .returned (.int .i64 (S.store i x).1) ∧ Went w0 w w' z F (S.store i x).2 := by
  obtain ⟨_, c7, _, _⟩ := h.cells
  have H := Lib.hid (And.intro h hf)
  clear h hf
  go_enter Try.func34, Try.ntmps34
  go_wp2_with fail
  refine (row_store H.out.1 H.out.2 hk i x).mono ?_
  rintro e w1 ⟨rfl, hw⟩
  have HW := Lib.hid hw
  clear hw
  go_wp2_with fail
  go_ret
  exact ⟨rfl, HW.out⟩
/-- A slice of ints that can be read. -/
def Src (w : World) (A : Option Addr) (xs : List Int) : Prop := 0 < xs.length → ∃ ad, A = some ad ∧ ∀ j v, (xs.map (Value.int .i64))[j]? = some v → w.cell? (ad.add j) = some v
theorem row_fill (h : SP w0 w z F S) (A : Option Addr) (xs : List Int) (c : Nat) (hA : Src w A xs) (hm : xs.length ≤ maxLen) : Calls Try.prog 37 #[PT z.r, .slice A xs.length c] w fun e w' => e = .returned (.int .i64 (S.fill xs).1) ∧ Went w0 w w' z F (S.fill xs).2 := by
  obtain ⟨lb, v, hs, hF⟩ := h.ex
  unfold Sp.fill
  split
  · rename_i hl
    exact (RowI.fill_ok w z.r z.b 1 (some z.m) S.cells hs.row A xs.length c xs rfl hA hl).mono fun e w' ⟨he, h1, h2⟩ => ⟨he, h.went hF (hs.filled h1 h2)⟩
  · rename_i hl
    exact (RowI.fill_many w z.r z.b 1 (some z.m) S.cells hs.row A xs.length c (by omega) hm).mono fun e w' ⟨he, hk⟩ => ⟨he, h.stay (hk ▸ Keeps.refl _ _)⟩
theorem sp_fill (h : SP w0 w z F S) (A : Option Addr) (xs : List Int) (c : Nat) (hA : Src w A xs) (hm : xs.length ≤ maxLen) : Calls Try.prog 10 #[PT z.p, .slice A xs.length c] w fun e w' => e = .returned (.int .i64 (S.fill xs).1) ∧ Went w0 w w' z F (S.fill xs).2 := by
  obtain ⟨_, c7, _, _⟩ := h.cells
  have H := Lib.hid (And.intro h hA)
  clear h hA
  go_enter Try.func10, Try.ntmps10
  go_wp2_with fail
  refine (row_fill H.out.1 A xs c H.out.2 hm).mono ?_
  rintro e w1 ⟨rfl, hw⟩
  have HW := Lib.hid hw
  clear hw
  go_wp2_with fail
  go_ret
  exact ⟨rfl, HW.out⟩
theorem sp_config (h : SP w0 w z F S) : Calls Try.prog 41 #[PT z.p] w fun e w' => e = .returned (.agg #[.int .i64 S.c.cells, .int .i64 S.c.slots, .int .i64 S.c.bits, .int .i64 S.c.tag, .int .i64 S.c.bias, .int .i64 S.c.defer]) ∧ Keeps [] w w' := by
  have hk : Keeps [] w (w.alloc (.cells #[.int .i64 0, .int .i64 0, .int .i64 0, .int .i64 0, .int .i64 0, .int .i64 0] 77)) := by simp
  obtain ⟨c1, c2, c3, c4, c5, c6⟩ := (h.calm hk).cfg
  have hlt := h.plt
  clear h
  go_enter Try.func41, Try.ntmps41
  go_wp2
  refine bodyPost_ret (v := .agg #[.int .i64 S.c.cells, .int .i64 S.c.slots, .int .i64 S.c.bits, .int .i64 S.c.tag, .int .i64 S.c.bias, .int .i64 S.c.defer]) (by simp [results, Try.results41, go_sem]) rfl ⟨rfl, ?_⟩
  simp
end
end Go.Proofs.Ytelljfhhjapgnaa
