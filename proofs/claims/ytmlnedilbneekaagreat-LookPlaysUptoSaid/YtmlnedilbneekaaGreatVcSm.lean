/- quashref12.Same of two lists that are the same; == of two slots, two victims that are the same. -/
import Derived.Test.YtmlnedilbneekaaGreatLookE
import Derived.Test.YtmlnedilbneekaaGreatSpF
import Derived.Deep.QuietTactic
import Derived.BigQuiet
namespace Go.Proofs.YtmlnedilbneekaaGreat
open Go.RowKit
set_option linter.unusedVariables false
theorem vc_same (w : World) (a b c d : Int) : (Op.equalIn 10000 113 (.agg #[.int .i64 a, .int .i64 b, .int .i64 c, .int .i64 d]) (.agg #[.int .i64 a, .int .i64 b, .int .i64 c, .int .i64 d])).run Tryz.prog w = .ok true w := by
  simp [go_sem]
theorem slot_same (w : World) (a b c d : Int) (e : Bool) (f g h : Int) : (Op.equalIn 10000 224 (.agg #[.int .i64 a, .int .i64 b, .int .i64 c, .int .i64 d, .bool e, .int .i64 f, .int .u64 g, .int .u64 h]) (.agg #[.int .i64 a, .int .i64 b, .int .i64 c, .int .i64 d, .bool e, .int .i64 f, .int .u64 g, .int .u64 h])).run Tryz.prog w = .ok true w := by
  simp [go_sem, sig_same9]
/-- The cells of a list of victims. -/
theorem vc_cells {w : World} {v : Value} {l : List Vc} {n : Nat} (h : w.ownsRow 0 113 4 v n (vcCells l)) (hn : l.length = n) (hp : 0 < n) : ∃ g c, v = .slice (some ⟨g, 0, none⟩) n c ∧ g < w.heap.size ∧ ∀ (j : Nat) (x : Vc), l[j]? = some x → w.cell? ⟨g, j * 4, none⟩ = some (.int .i64 x.slot) ∧ w.cell? ⟨g, j * 4 + 1, none⟩ = some (.int .i64 x.gen) ∧ w.cell? ⟨g, j * 4 + 2, none⟩ = some (.int .i64 x.stamp) ∧ w.cell? ⟨g, j * 4 + 3, none⟩ = some (.int .i64 x.thread) := by
  obtain ⟨g, c, rfl, _, hl⟩ := h.form hp
  refine ⟨g, c, rfl, hl, fun j x hx => ?_⟩
  obtain ⟨h0, h1, h2, h3⟩ := vc_at l j x hx
  have hj := (List.getElem?_eq_some_iff.1 hx).1
  have hc : ∀ i u, (vcCells l)[i]? = some u → w.cell? ⟨g, i, none⟩ = some u := fun i u hu => by
    have hi := (List.getElem?_eq_some_iff.1 hu).1
    rw [vcCells_len] at hi
    exact (h.cellAt i (by omega)).trans hu
  exact ⟨hc _ _ h0, hc _ _ h1, hc _ _ h2, hc _ _ h3⟩
set_option maxRecDepth 100000 in
set_option maxHeartbeats 4000000 in
theorem vc_same_yes (w : World) (v1 v2 : Value) (l : List Vc) (n : Nat) (hn : l.length = n) (hb : n ≤ 1099511627776) (h1 : w.ownsRow 0 113 4 v1 n (vcCells l)) (h2 : w.ownsRow 0 113 4 v2 n (vcCells l)) :
    Calls Tryz.prog 54 #[v1, v2] w fun e w' => e = .returned (.bool true) ∧ Keeps [] w w' := by
  obtain ⟨A1, c1, rfl⟩ := own_form h1
  obtain ⟨A2, c2, rfl⟩ := own_form h2
  have H1 := Lib.hid h1
  have H2 := Lib.hid h2
  have HN := Lib.hid hn
  have HB := Lib.hid hb
  clear h1 h2 hn hb
  go_enter Tryz.func54, Tryz.ntmps54
  go_wp2_with fail
  go_loopw [5] (fun i wr => ∃ j : Nat, j ≤ n ∧ i = .int .i64 j ∧ Keeps [] w wr) (fun i _ => n - (intOf i).toNat)
  case atStart => exact ⟨0, Nat.zero_le _, rfl, Keeps.refl _ _⟩
  case round =>
    obtain ⟨j, hj, rfl, hk⟩ := hrel
    have HK := Lib.hid hk
    clear hk
    by_cases hlt : (j : Int) < (n : Int)
    · have q0 : (0 : Int) ≤ (j : Int) := by omega
      obtain ⟨x, hx⟩ : ∃ x, l[j]? = some x := ⟨_, List.getElem?_eq_getElem (by have := HN.out; omega)⟩
      obtain ⟨g1, d1, e1, _, k1⟩ := vc_cells (own_keeps H1.out HK.out (by simp)) HN.out (by omega)
      obtain ⟨g2, d2, e2, _, k2⟩ := vc_cells (own_keeps H2.out HK.out (by simp)) HN.out (by omega)
      injection e1 with e1 _ e1'
      injection e2 with e2 _ e2'
      subst e1 e1' e2 e2'
      obtain ⟨p0, p1, p2, p3⟩ := k1 j x hx
      obtain ⟨r0, r1, r2, r3⟩ := k2 j x hx
      have hv := fun w => vc_same w x.slot x.gen x.stamp x.thread
      have hw : IntKind.i64.wrap ((j : Int) + 1) = (j : Int) + 1 := by have := HB.out; rw [IntKind.wrap_i64]; omega
      clear k1 k2 hx
      go_wp2_with fail
      go_quiet (fail)
      go_wp2_with fail
      exact ⟨⟨j + 1, by omega, by simp, by first | exact HK.out.drew | exact HK.out.drewN _⟩, by simp [intOf]; omega⟩
    · go_wp2_with fail
      go_ret
      exact ⟨rfl, HK.out⟩
end Go.Proofs.YtmlnedilbneekaaGreat
