/- The document's Join. -/
import Derived.Test.YtlpgcfgnimchaaaDoorSigRSet
namespace Go.Proofs.YtlpgcfgnimchaaaDoor
open Go.RowKit
set_option linter.unusedVariables false

set_option maxRecDepth 4000 in
set_option maxHeartbeats 1000000 in
theorem rjoin_any (w : World) (a b : Sg) (oa : a.ok) (ob : b.ok) :
    Calls Tryd.prog 22 #[a.val, b.val] w fun e w' => e = .returned (a.join b).val ∧ Keeps [] w w' := by
  rw [← fold_join a b oa ob]
  have OA := Lib.hid oa
  have OB := Lib.hid ob
  clear oa ob
  unfold Sg.val
  go_enter Tryd.func22, Tryd.ntmps22
  go_wp2_with fail
  go_loopw [5] (fun i wr => ∃ k : Nat, k ≤ 128 ∧ i = .int .i64 k ∧ St3 w (foldB b.has a k).a (foldB b.has a k).b b.a b.b wr) (fun i _ => 128 - (intOf i).toNat)
  case atStart => exact ⟨0, by omega, rfl, St3.start w a.a a.b b.a b.b⟩
  case round =>
    obtain ⟨k, hk, rfl, hst⟩ := hrel
    have hok : (foldB b.has a k).ok := foldB_ok _ _ OA.out _ hk
    obtain ⟨s, hs⟩ : ∃ s, foldB b.has a k = s := ⟨_, rfl⟩
    rw [hs] at hst hok
    have H := Lib.hid hst
    have HS := Lib.hid hs
    have HOK := Lib.hid hok
    obtain ⟨x0, x1, x2, x3, x4, x5, x6, x7, x8, x9⟩ := hst.cells
    clear hst hs hok
    by_cases hlt : (k : Int) < 128
    · have hlt' : k < 128 := by omega
      have k0 : (0 : Int) ≤ (k : Int) := by omega
      have qb := has_any wr b OB.out k hlt'
      unfold Sg.val at qb
      cases h1 : b.has k
      · rw [h1] at qb
        have HPK := Lib.hid h1
        have QB := Lib.hid qb
        clear qb h1 hlt'
        go_wp2_with fail
        refine QB.out.mono ?_
        rintro e w1 ⟨rfl, k1⟩
        have H1 := Lib.hid (H.out.keeps k1)
        clear k1
        go_wp2_with fail
        go_roundw
        case rel => exact ⟨k + 1, by omega, by go_num, by rw [foldB_no HPK.out, HS.out]; exact H1.out⟩
        case measure => simp [intOf]; omega
      · rw [h1] at qb
        have HPK := Lib.hid h1
        have QB := Lib.hid qb
        clear qb h1 hlt'
        go_wp2_with fail
        refine QB.out.mono ?_
        rintro e w2 ⟨rfl, k1⟩
        have H2 := Lib.hid (H.out.keeps k1)
        clear k1 x0 x1 x2 x3 x4 x5 x6 x7 x8 x9
        obtain ⟨x0, x1, x2, x3, x4, x5, x6, x7, x8, x9⟩ := H2.out.cells
        go_wp2_with fail
        have qw := with_any w2 s HOK.out k (by omega)
        unfold Sg.val at qw
        have QW := Lib.hid qw
        clear qw
        refine (QW.out).mono ?_
        rintro e w3 ⟨rfl, k3⟩
        have H3 := Lib.hid (H2.out.keeps k3)
        clear x0 x1 x2 x3 x4 x5 x6 x7 x8 x9 k3 QW
        obtain ⟨x0, x1, x2, x3, x4, x5, x6, x7, x8, x9⟩ := H3.out.cells
        go_wp2_with fail
        go_roundw
        case rel => exact ⟨k + 1, by omega, by go_num, by rw [foldB_yes HPK.out, HS.out]; exact H3.out.next (s.set k).a (s.set k).b⟩
        case measure => simp [intOf]; omega
    · have ek : k = 128 := by omega
      subst ek
      go_wp2_with fail
      refine bodyPost_ret (v := .agg #[.int .u64 (s.a : Int), .int .u64 (s.b : Int)]) (by simp [results, Tryd.results22, go_sem, x4, x5]) rfl ⟨by rw [HS.out], ?_⟩
      exact (H.out.2.2.2.setCell (.inr (by show _ ≤ _ + 1 + 1; omega)) _).setCell (.inr (by show _ ≤ _ + 1 + 1; omega)) _
end Go.Proofs.YtlpgcfgnimchaaaDoor
