/- The document's Meets and Within. -/
import Derived.Test.YtmlnedilbneekaaGreatSigRTouched
namespace Go.Proofs.YtmlnedilbneekaaGreat
open Go.RowKit
set_option linter.unusedVariables false
/-- No bit below k. -/
structure NoneB (s : Sg) (k : Nat) : Prop where
  out : ∀ i, i < k → s.has i = false
/-- The blocks of the two parameters. -/
def StC (w : World) (a b : Sg) (wr : World) : Prop :=
  Blk wr w.heap.size 47 #[.int .u64 (a.a : Int), .int .u64 (a.b : Int)] ∧ Blk wr (w.heap.size + 1) 47 #[.int .u64 (b.a : Int), .int .u64 (b.b : Int)] ∧ Keeps [] w wr
theorem StC.start (w : World) (a b : Sg) : StC w a b ((w.alloc (.cells #[.int .u64 (a.a : Int), .int .u64 (a.b : Int)] 47)).alloc (.cells #[.int .u64 (b.a : Int), .int .u64 (b.b : Int)] 47)) :=
  ⟨(Blk.new _ _ _).alloc _, new_at _ _ _ (by simp), ((Keeps.refl _ _).alloc _).alloc _⟩
theorem StC.keeps {w wr w' : World} {a b : Sg} (h : StC w a b wr) (hk : Keeps [] wr w') : StC w a b w' :=
  ⟨h.1.keeps hk (by simp), h.2.1.keeps hk (by simp), h.2.2.trans hk (by simp)⟩
theorem StC.cells {w wr : World} {a b : Sg} (h : StC w a b wr) :
    wr.cell? ⟨w.heap.size, 0, none⟩ = some (.int .u64 (a.a : Int)) ∧ wr.cell? ⟨w.heap.size, 1, none⟩ = some (.int .u64 (a.b : Int)) ∧ wr.cell? ⟨w.heap.size + 1, 0, none⟩ = some (.int .u64 (b.a : Int)) ∧ wr.cell? ⟨w.heap.size + 1, 1, none⟩ = some (.int .u64 (b.b : Int)) :=
  ⟨(h.1.cell 0).trans rfl, (h.1.cell 1).trans rfl, (h.2.1.cell 0).trans rfl, (h.2.1.cell 1).trans rfl⟩

set_option maxRecDepth 4000 in
set_option maxHeartbeats 1000000 in
theorem rmeets_any (w : World) (a b : Sg) (oa : a.ok) (ob : b.ok) :
    Calls Tryz.prog 119 #[a.val, b.val] w fun e w' => e = .returned (.bool (!(a.meet b).none)) ∧ Keeps [] w w' := by
  have OA := Lib.hid oa
  have OB := Lib.hid ob
  clear oa ob
  unfold Sg.val
  go_enter Tryz.func119, Tryz.ntmps119
  go_wp2_with fail
  go_loopw [5] (fun i wr => ∃ k : Nat, k ≤ 128 ∧ i = .int .i64 k ∧ NoneB (a.meet b) k ∧ StC w a b wr) (fun i _ => 128 - (intOf i).toNat)
  case atStart => exact ⟨0, by omega, rfl, ⟨fun i hi => by omega⟩, StC.start w a b⟩
  case round =>
    obtain ⟨k, hk, rfl, HALL, hst⟩ := hrel
    have H := Lib.hid hst
    obtain ⟨x0, x1, x2, x3⟩ := hst.cells
    clear hst
    by_cases hlt : (k : Int) < 128
    · have hlt' : k < 128 := by omega
      have k0 : (0 : Int) ≤ (k : Int) := by omega
      have qa := has_any wr a OA.out k hlt'
      have hpk := Lib.hid (has_meet a b k)
      have HB := fun w1 : World => has_any w1 b OB.out k hlt'
      unfold Sg.val at qa HB
      cases h1 : a.has k
      · rw [h1] at qa
        have HPK := Lib.hid (show (a.meet b).has k = false by rw [hpk.out, h1]; rfl)
        have QA := Lib.hid qa
        clear qa HB h1 hpk hlt'
        go_wp2_with fail
        refine QA.out.mono ?_
        rintro e w2 ⟨rfl, k1⟩
        have H2 := Lib.hid (H.out.keeps k1)
        clear k1
        go_wp2_with fail
        go_roundw
        case rel => exact ⟨k + 1, by omega, by go_num, ⟨fun i hi => by
            by_cases e : i = k
            · subst e; exact HPK.out
            · exact HALL.out i (by omega)⟩, H2.out⟩
        case measure => simp [intOf]; omega
      · rw [h1] at qa
        have QA := Lib.hid qa
        have H1a := Lib.hid h1
        clear qa h1 hlt'
        cases h2 : b.has k
        · simp only [h2] at HB
          have QB := Lib.hid HB
          have HPK := Lib.hid (show (a.meet b).has k = false by rw [hpk.out, H1a.out, h2]; rfl)
          clear HB h2 hpk
          go_wp2_with fail
          refine QA.out.mono ?_
          rintro e w1 ⟨rfl, k1⟩
          have H1 := Lib.hid (H.out.keeps k1)
          clear x0 x1 x2 x3 k1
          obtain ⟨x0, x1, x2, x3⟩ := H1.out.cells
          go_wp2_with fail
          refine (QB.out _).mono ?_
          rintro e w2 ⟨rfl, k2⟩
          have H2 := Lib.hid (H1.out.keeps k2)
          clear x0 x1 x2 x3 k2
          go_wp2_with fail
          go_roundw
          case rel => exact ⟨k + 1, by omega, by go_num, ⟨fun i hi => by
            by_cases e : i = k
            · subst e; exact HPK.out
            · exact HALL.out i (by omega)⟩, H2.out⟩
          case measure => simp [intOf]; omega
        · simp only [h2] at HB
          have QB := Lib.hid HB
          have HPK := Lib.hid (show (a.meet b).has k = true by rw [hpk.out, H1a.out, h2]; rfl)
          clear HB h2 hpk
          go_wp2_with fail
          refine QA.out.mono ?_
          rintro e w1 ⟨rfl, k1⟩
          have H1 := Lib.hid (H.out.keeps k1)
          clear x0 x1 x2 x3 k1
          obtain ⟨x0, x1, x2, x3⟩ := H1.out.cells
          go_wp2_with fail
          refine (QB.out _).mono ?_
          rintro e w2 ⟨rfl, k2⟩
          have H2 := Lib.hid (H1.out.keeps k2)
          clear x0 x1 x2 x3 k2
          go_wp2_with fail
          have hn := some_of (Sg.meet_ok b OA.out) k (by omega) HPK.out
          go_ret
          exact ⟨by rw [hn]; rfl, H2.out.2.2⟩
    · have ek : k = 128 := by omega
      subst ek
      go_wp2_with fail
      have hn := none_of_all (Sg.meet_ok b OA.out) (fun i hi => HALL.out i hi)
      go_ret
      exact ⟨by rw [hn]; rfl, H.out.2.2⟩

end Go.Proofs.YtmlnedilbneekaaGreat
