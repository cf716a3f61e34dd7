/- Layer 8: View, Note, Events. -/
import Derived.Test.YtelljfhhjapgnaaSpaceW
namespace Go.Proofs.Ytelljfhhjapgnaa
open Go.RowKit
set_option linter.unusedVariables false
theorem own_slice {w : World} {base : Nat} {t : TypeId} {size n : Nat} {v : Value} {xs : List Value} (h : w.ownsRow base t size v n xs) (hn : 0 < n) : ∃ a c, v = .slice (some ⟨a, 0, none⟩) n c ∧ base ≤ a := by
  rcases h.2 with ⟨_, h0⟩ | ⟨a, cap, cur, rfl, hb, _⟩
  · omega
  · exact ⟨a, cap, rfl, hb⟩
/-- The cells of a row, told. -/
def OwnC (w : World) (a c : Nat) (l : List Int) : Prop := w.ownsRow 0 2 1 (.slice (some ⟨a, 0, none⟩) l.length c) l.length (l.flatMap RowI.cells)
/-- The slots of a table, told. -/
def OwnS (w : World) (a c n : Nat) (l : List Sl) : Prop := w.ownsRow 0 49 8 (.slice (some ⟨a, 0, none⟩) n c) n (l.flatMap Sl.cells)
section
variable {w0 w w' w'' wB : World} {z : Sb} {F : List Nat} {S S' : Sp} {k : Nat}
theorem OwnC.keeps {X : List Nat} {a c : Nat} {l : List Int} (h : OwnC w a c l) (hk : Keeps X w w') (ha : a ∉ X) : OwnC w' a c l := own_keeps h hk (fun q hq => by simp [Value.ownBlock] at hq; subst hq; exact ha)
theorem OwnS.keeps {X : List Nat} {a c n : Nat} {l : List Sl} (h : OwnS w a c n l) (hk : Keeps X w w') (ha : a ∉ X) : OwnS w' a c n l := own_keeps h hk (fun q hq => by simp [Value.ownBlock] at hq; subst hq; exact ha)
theorem OwnC.lt {a c : Nat} {l : List Int} (h : OwnC w a c l) : a < w.heap.size := (World.ownsRow.lt h a rfl).2
theorem OwnS.lt {a c n : Nat} {l : List Sl} (h : OwnS w a c n l) : a < w.heap.size := (World.ownsRow.lt h a rfl).2
theorem Fit.ncells (hf : Fit k S) : 1 ≤ S.cells.length ∧ S.cells.length ≤ 256 := by have := hf.c.1; have := hf.cells; omega
theorem Fit.nslots (hf : Fit k S) : 1 ≤ S.H.length ∧ S.H.length ≤ 8 := by have := hf.c.2.1; have := hf.slots; omega
theorem row_all (h : SP w0 w z F S) (hf : Fit k S) : Calls Try.prog 44 #[PT z.r] w fun e w' => ∃ a c, e = .returned (.slice (some ⟨a, 0, none⟩) S.cells.length c) ∧ OwnC w' a c S.cells ∧ w.heap.size ≤ a ∧ Keeps [] w w' := by
  obtain ⟨lb, v, hs, hF⟩ := h.ex
  have hn := hf.ncells
  exact (RowI.all_any w z.r z.b 1 (some z.m) S.cells hs.row).mono fun e w' ⟨v, he, h1, h2⟩ => by
    obtain ⟨a, c, rfl, ha⟩ := own_slice h1 (by omega)
    exact ⟨a, c, he, own_base h1 (fun _ _ => Nat.zero_le _), ha, h2⟩
theorem tab_now (h : SP w0 w z F S) (hf : Fit k S) : Calls Try.prog 45 #[PT z.t.q] w fun e w' => ∃ a c, e = .returned (.slice (some ⟨a, 0, none⟩) S.H.length c) ∧ OwnS w' a c S.H.length (slL S.H S.W) ∧ w.heap.size ≤ a ∧ Keeps [] w w' := by
  obtain ⟨lb, v, hs, hF⟩ := h.ex
  have hn := hf.nslots
  have hl := slL_len S.H S.W hf.words
  exact (slots_now w z.t _ S.H S.W hs.tab).mono fun e w' ⟨v, he, h1, h2⟩ => by
    rw [hl] at h1
    obtain ⟨a, c, rfl, ha⟩ := own_slice h1 (by omega)
    exact ⟨a, c, he, own_base h1 (fun _ _ => Nat.zero_le _), ha, h2⟩
theorem held3 {f : FuncId} {args : Array Value} {w1 w : World} {Q : Ending → World → Prop} (hk : Keeps [] w1 w) (hc : Calls Try.prog f args w fun e w' => Q e w' ∧ Keeps [] w w') : Calls Try.prog f args w fun e w' => Q e w' ∧ Keeps [] w w' ∧ Keeps [] w1 w' := hc.mono fun e w' ⟨h1, h2⟩ => ⟨h1, h2, hk.trans h2 (by simp)⟩
theorem g_now (h : SP w0 w z F S) : Calls Try.prog 29 #[PT z.q] w fun e w' => e = .returned (.agg #[.int .i64 S.gate.number, .int .i64 S.gate.owner]) ∧ Keeps [] w w' := by
  obtain ⟨lb, v, hs, hF⟩ := h.ex
  exact gate_now w z.q z.gr z.gb _ S.gate hs.gate
set_option maxRecDepth 100000 in
set_option maxHeartbeats 4000000 in
theorem sp_view (h : SP w0 w z F S) (hf : Fit k S) : Calls Try.prog 19 #[PT z.p] w fun e w' => ∃ a1 c1 a2 c2, e = .returned (.agg #[.slice (some ⟨a1, 0, none⟩) S.cells.length c1, .int .i64 S.gate.number, .int .i64 S.gate.owner, .slice (some ⟨a2, 0, none⟩) S.H.length c2]) ∧ OwnC w' a1 c1 S.cells ∧ OwnS w' a2 c2 S.H.length (slL S.H S.W) ∧ w.heap.size ≤ a1 ∧ w.heap.size ≤ a2 ∧ Keeps [] w w' := by
  have hk1 : Keeps [] w (w.alloc (.cells #[.slice none 0 0, .int .i64 0, .int .i64 0, .slice none 0 0] 54)) := by simp
  have H1 := Lib.hid (h.calm hk1)
  have HF := Lib.hid hf
  have HB := Lib.hid (Blk.new w 54 #[.slice none 0 0, .int .i64 0, .int .i64 0, .slice none 0 0])
  have HK1 := Lib.hid hk1
  have hlt := h.plt
  have hne : z.p ≠ w.heap.size := by omega
  have hne' : w.heap.size ≠ z.p := by omega
  clear h hf hk1
  go_enter Try.func19, Try.ntmps19
  go_wp2_with fail
  obtain ⟨w1, hw1⟩ : ∃ w1, w.alloc (.cells #[.slice none 0 0, .int .i64 0, .int .i64 0, .slice none 0 0] 54) = w1 := ⟨_, rfl⟩
  have hz1 : w1.heap.size = w.heap.size + 1 := by rw [← hw1]; simp
  rw [hw1] at H1 HB HK1 ⊢
  clear hw1
  have hkB : Keeps [] w1 w1 := Keeps.refl _ _
  have HC := Lib.hid (show ∀ w', Keeps [] w1 w' → w'.cell? ⟨z.p, 7, none⟩ = some (PT z.r) ∧ w'.cell? ⟨z.p, 8, none⟩ = some (PT z.q) ∧ w'.cell? ⟨z.p, 9, none⟩ = some (PT z.t.q) from fun w' hk => (H1.out.calm hk).cells.2)
  have QA := Lib.hid (fun w (hk : Keeps [] w1 w) => held3 hk ((row_all (H1.out.calm hk) HF.out).mono fun e w' ⟨a, c, he, h1, h2, h3⟩ => (⟨⟨a, c, he, h1, Nat.le_trans hk.size h2⟩, h3⟩ : (∃ a c, e = .returned (.slice (some ⟨a, 0, none⟩) S.cells.length c) ∧ OwnC w' a c S.cells ∧ w1.heap.size ≤ a) ∧ Keeps [] w w')))
  have QG := Lib.hid (fun w (hk : Keeps [] w1 w) => held3 hk (g_now (H1.out.calm hk)))
  have QT := Lib.hid (fun w (hk : Keeps [] w1 w) => held3 hk ((tab_now (H1.out.calm hk) HF.out).mono fun e w' ⟨a, c, he, h1, h2, h3⟩ => (⟨⟨a, c, he, h1, Nat.le_trans hk.size h2⟩, h3⟩ : (∃ a c, e = .returned (.slice (some ⟨a, 0, none⟩) S.H.length c) ∧ OwnS w' a c S.H.length (slL S.H S.W) ∧ w1.heap.size ≤ a) ∧ Keeps [] w w')))
  go_region_held3 (fun w' => w'.cell? ⟨z.p, 7, none⟩ = some (PT z.r) ∧ w'.cell? ⟨z.p, 8, none⟩ = some (PT z.q) ∧ w'.cell? ⟨z.p, 9, none⟩ = some (PT z.t.q)) (first | exact HC.out _ (by first | assumption | exact Keeps.drew (by assumption)) | go_keep) ((first
    | (go_at_call 44; refine (QA.out _ (by first | assumption | exact Keeps.drew (by assumption))).mono ?_; rintro e wc ⟨⟨a1, c1, rfl, oC, la1⟩, hs, hkc⟩; (try replace oT := OwnS.keeps oT (Keeps.undrew hs) (by simp)); (try replace oT := OwnS.keeps oT hs (by simp)); obtain ⟨x7, x8, x9⟩ := HC.out wc hkc; have z0 : wc.cell? ⟨w.heap.size, 0, none⟩ = some (.slice none 0 0) := ((HB.out.keeps hkc (by simp)).cell 0).trans rfl; have z1 : wc.cell? ⟨w.heap.size, 1, none⟩ = some (.int .i64 0) := ((HB.out.keeps hkc (by simp)).cell 1).trans rfl; have z2 : wc.cell? ⟨w.heap.size, 2, none⟩ = some (.int .i64 0) := ((HB.out.keeps hkc (by simp)).cell 2).trans rfl; have z3 : wc.cell? ⟨w.heap.size, 3, none⟩ = some (.slice none 0 0) := ((HB.out.keeps hkc (by simp)).cell 3).trans rfl; have y0 := (HB.out.keeps hkc (by simp)).frozen 0; have y1 := (HB.out.keeps hkc (by simp)).frozen 1; have y2 := (HB.out.keeps hkc (by simp)).frozen 2; have y3 := (HB.out.keeps hkc (by simp)).frozen 3; clear hs)
    | (go_at_call 29; refine (QG.out _ (by first | assumption | exact Keeps.drew (by assumption))).mono ?_; rintro e wc ⟨rfl, hs, hkc⟩; (try replace oT := OwnS.keeps oT (Keeps.undrew hs) (by simp)); (try replace oT := OwnS.keeps oT hs (by simp)); (try replace oC := OwnC.keeps oC (Keeps.undrew hs) (by simp)); (try replace oC := OwnC.keeps oC hs (by simp)); obtain ⟨x7, x8, x9⟩ := HC.out wc hkc; have z0 : wc.cell? ⟨w.heap.size, 0, none⟩ = some (.slice none 0 0) := ((HB.out.keeps hkc (by simp)).cell 0).trans rfl; have z1 : wc.cell? ⟨w.heap.size, 1, none⟩ = some (.int .i64 0) := ((HB.out.keeps hkc (by simp)).cell 1).trans rfl; have z2 : wc.cell? ⟨w.heap.size, 2, none⟩ = some (.int .i64 0) := ((HB.out.keeps hkc (by simp)).cell 2).trans rfl; have z3 : wc.cell? ⟨w.heap.size, 3, none⟩ = some (.slice none 0 0) := ((HB.out.keeps hkc (by simp)).cell 3).trans rfl; have y0 := (HB.out.keeps hkc (by simp)).frozen 0; have y1 := (HB.out.keeps hkc (by simp)).frozen 1; have y2 := (HB.out.keeps hkc (by simp)).frozen 2; have y3 := (HB.out.keeps hkc (by simp)).frozen 3; clear hs)
    | (go_at_call 45; refine (QT.out _ (by first | assumption | exact Keeps.drew (by assumption))).mono ?_; rintro e wc ⟨⟨a2, c2, rfl, oT, la2⟩, hs, hkc⟩; (try replace oC := OwnC.keeps oC (Keeps.undrew hs) (by simp)); (try replace oC := OwnC.keeps oC hs (by simp)); obtain ⟨x7, x8, x9⟩ := HC.out wc hkc; have z0 : wc.cell? ⟨w.heap.size, 0, none⟩ = some (.slice none 0 0) := ((HB.out.keeps hkc (by simp)).cell 0).trans rfl; have z1 : wc.cell? ⟨w.heap.size, 1, none⟩ = some (.int .i64 0) := ((HB.out.keeps hkc (by simp)).cell 1).trans rfl; have z2 : wc.cell? ⟨w.heap.size, 2, none⟩ = some (.int .i64 0) := ((HB.out.keeps hkc (by simp)).cell 2).trans rfl; have z3 : wc.cell? ⟨w.heap.size, 3, none⟩ = some (.slice none 0 0) := ((HB.out.keeps hkc (by simp)).cell 3).trans rfl; have y0 := (HB.out.keeps hkc (by simp)).frozen 0; have y1 := (HB.out.keeps hkc (by simp)).frozen 1; have y2 := (HB.out.keeps hkc (by simp)).frozen 2; have y3 := (HB.out.keeps hkc (by simp)).frozen 3; clear hs)))
  all_goals
    go_wp2_with fail
    have q0 : a1 ∉ [w.heap.size] := by simp; omega
    have q1 : a2 ∉ [w.heap.size] := by simp; omega
    have kk : ∀ v0 v1 v2 v3 : Value, Keeps [w.heap.size] wc ((((wc.setCell ⟨w.heap.size, 0, none⟩ v0).setCell ⟨w.heap.size, 1, none⟩ v1).setCell ⟨w.heap.size, 2, none⟩ v2).setCell ⟨w.heap.size, 3, none⟩ v3) := fun v0 v1 v2 v3 => ((((Keeps.refl _ _).setCell (.inl (by simp)) _).setCell (.inl (by simp)) _).setCell (.inl (by simp)) _).setCell (.inl (by simp)) _
    refine bodyPost_ret (v := .agg #[.slice (some ⟨a1, 0, none⟩) S.cells.length c1, .int .i64 S.gate.number, .int .i64 S.gate.owner, .slice (some ⟨a2, 0, none⟩) S.H.length c2]) (by simp [results, Try.results19, go_sem, z0, z1, z2, z3]) rfl ⟨a1, c1, a2, c2, rfl, oC.keeps (kk _ _ _ _) q0, oT.keeps (kk _ _ _ _) q1, by omega, by omega, (HK1.out.trans hkc (by simp)).trans (kk _ _ _ _) (by simp)⟩
end
end Go.Proofs.Ytelljfhhjapgnaa
