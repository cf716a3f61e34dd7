/- The document's Meet and Minus. -/
import Derived.Test.YtlpgcfgnimchaaaDoorSigRSet
namespace Go.Proofs.YtlpgcfgnimchaaaDoor
open Go.RowKit
set_option linter.unusedVariables false

set_option maxRecDepth 4000 in
set_option maxHeartbeats 1000000 in
theorem rmeet_any (w : World) (a b : Sg) (oa : a.ok) (ob : b.ok) :
    Calls Tryd.prog 24 #[a.val, b.val] w fun e w' => e = .returned (a.meet b).val ∧ Keeps [] w w' := by
  rw [← fold_meet a b oa ob]
  obtain ⟨P, hP⟩ : ∃ P, P = (fun i => a.has i && b.has i) := ⟨_, rfl⟩
  rw [← hP]
  have HP := Lib.hid hP
  have OA := Lib.hid oa
  have OB := Lib.hid ob
  clear hP oa ob
  unfold Sg.val
  go_enter Tryd.func24, Tryd.ntmps24
  go_wp2_with fail
  go_loopw [6] (fun i wr => ∃ k : Nat, k ≤ 128 ∧ i = .int .i64 k ∧ StB w a b (foldB P Sg.zero k) wr) (fun i _ => 128 - (intOf i).toNat)
  case atStart => exact ⟨0, by omega, rfl, StB.start w a b⟩
  case round =>
    obtain ⟨k, hk, rfl, hst⟩ := hrel
    have hok : (foldB P Sg.zero k).ok := foldB_ok _ _ zero_ok _ hk
    obtain ⟨s, hs⟩ : ∃ s, foldB P Sg.zero k = s := ⟨_, rfl⟩
    rw [hs] at hst hok
    have H := Lib.hid hst
    have HS := Lib.hid hs
    have HOK := Lib.hid hok
    obtain ⟨x0, x1, x2, x3, x4, x5, x6, x7, x8, x9, y0, y1⟩ := hst.cells
    clear hst hs hok
    by_cases hlt : (k : Int) < 128
    · have hlt' : k < 128 := by omega
      have k0 : (0 : Int) ≤ (k : Int) := by omega
      have qa := has_any wr a OA.out k hlt'
      unfold Sg.val at qa
      have hpk : Hid (P k = (a.has k && b.has k)) := by rw [HP.out]; exact Lib.hid rfl
      have HB := fun w1 : World => has_any w1 b OB.out k hlt'
      unfold Sg.val at HB
      cases h1 : a.has k
      · rw [h1] at qa
        have HPK := Lib.hid (show P k = false by rw [hpk.out, h1]; rfl)
        have QA := Lib.hid qa
        clear qa HB h1 hpk hlt'
        go_wp2_with fail
        refine QA.out.mono ?_
        rintro e w1 ⟨rfl, k1⟩
        have H1 := Lib.hid (H.out.keeps k1)
        clear k1
        go_wp2_with fail
        go_roundw
        case rel => exact ⟨k + 1, by omega, by go_num, by rw [foldB_no HPK.out, HS.out]; exact H1.out⟩
        case measure => simp [intOf]; omega
      · rw [h1] at qa
        have QA := Lib.hid qa
        have H1a := Lib.hid h1
        clear qa h1 hlt'
        cases h2 : b.has k
        · simp only [h2] at HB
          have QB := Lib.hid HB
          have HPK := Lib.hid (show P k = false by rw [hpk.out, H1a.out, h2]; rfl)
          clear HB h2 hpk
          go_wp2_with fail
          refine QA.out.mono ?_
          rintro e w1 ⟨rfl, k1⟩
          have H1 := Lib.hid (H.out.keeps k1)
          clear x0 x1 x2 x3 x4 x5 x6 x7 x8 x9 y0 y1 k1
          obtain ⟨x0, x1, x2, x3, x4, x5, x6, x7, x8, x9, y0, y1⟩ := H1.out.cells
          go_wp2_with fail
          refine (QB.out _).mono ?_
          rintro e w2 ⟨rfl, k2⟩
          have H2 := Lib.hid (H1.out.keeps k2)
          clear x0 x1 x2 x3 x4 x5 x6 x7 x8 x9 y0 y1 k2
          obtain ⟨x0, x1, x2, x3, x4, x5, x6, x7, x8, x9, y0, y1⟩ := H2.out.cells
          go_wp2_with fail
          go_roundw
          case rel => exact ⟨k + 1, by omega, by go_num, by rw [foldB_no HPK.out, HS.out]; exact H2.out⟩
          case measure => simp [intOf]; omega
        · simp only [h2] at HB
          have QB := Lib.hid HB
          have HPK := Lib.hid (show P k = true by rw [hpk.out, H1a.out, h2]; rfl)
          clear HB h2 hpk
          go_wp2_with fail
          refine QA.out.mono ?_
          rintro e w1 ⟨rfl, k1⟩
          have H1 := Lib.hid (H.out.keeps k1)
          clear x0 x1 x2 x3 x4 x5 x6 x7 x8 x9 y0 y1 k1
          obtain ⟨x0, x1, x2, x3, x4, x5, x6, x7, x8, x9, y0, y1⟩ := H1.out.cells
          go_wp2_with fail
          refine (QB.out _).mono ?_
          rintro e w2 ⟨rfl, k2⟩
          have H2 := Lib.hid (H1.out.keeps k2)
          clear x0 x1 x2 x3 x4 x5 x6 x7 x8 x9 y0 y1 k2
          obtain ⟨x0, x1, x2, x3, x4, x5, x6, x7, x8, x9, y0, y1⟩ := H2.out.cells
          go_wp2_with fail
          have qw := with_any w2 s HOK.out k (by omega)
          unfold Sg.val at qw
          have QW := Lib.hid qw
          clear qw
          refine (QW.out).mono ?_
          rintro e w3 ⟨rfl, k3⟩
          have H3 := Lib.hid (H2.out.keeps k3)
          clear x0 x1 x2 x3 x4 x5 x6 x7 x8 x9 y0 y1 k3 QW
          obtain ⟨x0, x1, x2, x3, x4, x5, x6, x7, x8, x9, y0, y1⟩ := H3.out.cells
          go_wp2_with fail
          go_roundw
          case rel => exact ⟨k + 1, by omega, by go_num, by rw [foldB_yes HPK.out, HS.out]; exact H3.out.next (s.set k)⟩
          case measure => simp [intOf]; omega
    · have ek : k = 128 := by omega
      subst ek
      go_wp2_with fail
      refine bodyPost_ret (v := .agg #[.int .u64 (s.a : Int), .int .u64 (s.b : Int)]) (by simp [results, Tryd.results24, go_sem, x4, x5]) rfl ⟨by rw [HS.out], ?_⟩
      exact (H.out.2.2.2.2.setCell (.inr (by show _ ≤ _ + 1 + 1; omega)) _).setCell (.inr (by show _ ≤ _ + 1 + 1; omega)) _

set_option maxRecDepth 4000 in
set_option maxHeartbeats 1000000 in
theorem rminus_any (w : World) (a b : Sg) (oa : a.ok) (ob : b.ok) :
    Calls Tryd.prog 26 #[a.val, b.val] w fun e w' => e = .returned (a.minus b).val ∧ Keeps [] w w' := by
  rw [← fold_minus a b oa ob]
  obtain ⟨P, hP⟩ : ∃ P, P = (fun i => a.has i && !b.has i) := ⟨_, rfl⟩
  rw [← hP]
  have HP := Lib.hid hP
  have OA := Lib.hid oa
  have OB := Lib.hid ob
  clear hP oa ob
  unfold Sg.val
  go_enter Tryd.func26, Tryd.ntmps26
  go_wp2_with fail
  go_loopw [6] (fun i wr => ∃ k : Nat, k ≤ 128 ∧ i = .int .i64 k ∧ StB w a b (foldB P Sg.zero k) wr) (fun i _ => 128 - (intOf i).toNat)
  case atStart => exact ⟨0, by omega, rfl, StB.start w a b⟩
  case round =>
    obtain ⟨k, hk, rfl, hst⟩ := hrel
    have hok : (foldB P Sg.zero k).ok := foldB_ok _ _ zero_ok _ hk
    obtain ⟨s, hs⟩ : ∃ s, foldB P Sg.zero k = s := ⟨_, rfl⟩
    rw [hs] at hst hok
    have H := Lib.hid hst
    have HS := Lib.hid hs
    have HOK := Lib.hid hok
    obtain ⟨x0, x1, x2, x3, x4, x5, x6, x7, x8, x9, y0, y1⟩ := hst.cells
    clear hst hs hok
    by_cases hlt : (k : Int) < 128
    · have hlt' : k < 128 := by omega
      have k0 : (0 : Int) ≤ (k : Int) := by omega
      have qa := has_any wr a OA.out k hlt'
      unfold Sg.val at qa
      have hpk : Hid (P k = (a.has k && !b.has k)) := by rw [HP.out]; exact Lib.hid rfl
      have HB := fun w1 : World => has_any w1 b OB.out k hlt'
      unfold Sg.val at HB
      cases h1 : a.has k
      · rw [h1] at qa
        have HPK := Lib.hid (show P k = false by rw [hpk.out, h1]; rfl)
        have QA := Lib.hid qa
        clear qa HB h1 hpk hlt'
        go_wp2_with fail
        refine QA.out.mono ?_
        rintro e w1 ⟨rfl, k1⟩
        have H1 := Lib.hid (H.out.keeps k1)
        clear k1
        go_wp2_with fail
        go_roundw
        case rel => exact ⟨k + 1, by omega, by go_num, by rw [foldB_no HPK.out, HS.out]; exact H1.out⟩
        case measure => simp [intOf]; omega
      · rw [h1] at qa
        have QA := Lib.hid qa
        have H1a := Lib.hid h1
        clear qa h1 hlt'
        cases h2 : b.has k
        · simp only [h2] at HB
          have QB := Lib.hid HB
          have HPK := Lib.hid (show P k = true by rw [hpk.out, H1a.out, h2]; rfl)
          clear HB h2 hpk
          go_wp2_with fail
          refine QA.out.mono ?_
          rintro e w1 ⟨rfl, k1⟩
          have H1 := Lib.hid (H.out.keeps k1)
          clear x0 x1 x2 x3 x4 x5 x6 x7 x8 x9 y0 y1 k1
          obtain ⟨x0, x1, x2, x3, x4, x5, x6, x7, x8, x9, y0, y1⟩ := H1.out.cells
          go_wp2_with fail
          refine (QB.out _).mono ?_
          rintro e w2 ⟨rfl, k2⟩
          have H2 := Lib.hid (H1.out.keeps k2)
          clear x0 x1 x2 x3 x4 x5 x6 x7 x8 x9 y0 y1 k2
          obtain ⟨x0, x1, x2, x3, x4, x5, x6, x7, x8, x9, y0, y1⟩ := H2.out.cells
          go_wp2_with fail
          have qw := with_any w2 s HOK.out k (by omega)
          unfold Sg.val at qw
          have QW := Lib.hid qw
          clear qw
          refine (QW.out).mono ?_
          rintro e w3 ⟨rfl, k3⟩
          have H3 := Lib.hid (H2.out.keeps k3)
          clear x0 x1 x2 x3 x4 x5 x6 x7 x8 x9 y0 y1 k3 QW
          obtain ⟨x0, x1, x2, x3, x4, x5, x6, x7, x8, x9, y0, y1⟩ := H3.out.cells
          go_wp2_with fail
          go_roundw
          case rel => exact ⟨k + 1, by omega, by go_num, by rw [foldB_yes HPK.out, HS.out]; exact H3.out.next (s.set k)⟩
          case measure => simp [intOf]; omega
        · simp only [h2] at HB
          have QB := Lib.hid HB
          have HPK := Lib.hid (show P k = false by rw [hpk.out, H1a.out, h2]; rfl)
          clear HB h2 hpk
          go_wp2_with fail
          refine QA.out.mono ?_
          rintro e w1 ⟨rfl, k1⟩
          have H1 := Lib.hid (H.out.keeps k1)
          clear x0 x1 x2 x3 x4 x5 x6 x7 x8 x9 y0 y1 k1
          obtain ⟨x0, x1, x2, x3, x4, x5, x6, x7, x8, x9, y0, y1⟩ := H1.out.cells
          go_wp2_with fail
          refine (QB.out _).mono ?_
          rintro e w2 ⟨rfl, k2⟩
          have H2 := Lib.hid (H1.out.keeps k2)
          clear x0 x1 x2 x3 x4 x5 x6 x7 x8 x9 y0 y1 k2
          obtain ⟨x0, x1, x2, x3, x4, x5, x6, x7, x8, x9, y0, y1⟩ := H2.out.cells
          go_wp2_with fail
          go_roundw
          case rel => exact ⟨k + 1, by omega, by go_num, by rw [foldB_no HPK.out, HS.out]; exact H2.out⟩
          case measure => simp [intOf]; omega
    · have ek : k = 128 := by omega
      subst ek
      go_wp2_with fail
      refine bodyPost_ret (v := .agg #[.int .u64 (s.a : Int), .int .u64 (s.b : Int)]) (by simp [results, Tryd.results26, go_sem, x4, x5]) rfl ⟨by rw [HS.out], ?_⟩
      exact (H.out.2.2.2.2.setCell (.inr (by show _ ≤ _ + 1 + 1; omega)) _).setCell (.inr (by show _ ≤ _ + 1 + 1; omega)) _
end Go.Proofs.YtlpgcfgnimchaaaDoor
