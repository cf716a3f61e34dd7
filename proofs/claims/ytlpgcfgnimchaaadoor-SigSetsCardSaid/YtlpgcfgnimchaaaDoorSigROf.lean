/- quashref02.Of: contracts. -/
import Derived.Test.YtlpgcfgnimchaaaDoorSigOf
namespace Go.Proofs.YtlpgcfgnimchaaaDoor
open Go.RowKit
set_option linter.unusedVariables false

theorem rof_arg (w : World) (A : Option Addr) (m c : Nat) (n : Int) (hn : n < 1 ∨ 128 < n) :
    Calls Tryd.prog 14 #[.slice A m c, .int .i64 n] w fun e w' => e = .returned (.tuple #[Sg.zero.val, .int .i64 1]) ∧ Keeps [] w w' := by
  have hd : decide (n < 1) = true ∨ (decide (n < 1) = false ∧ decide (128 < n) = true) := by
    rcases hn with h | h
    · left; simpa using h
    · right; constructor <;> simp <;> omega
  clear hn
  rcases hd with hd | ⟨hd, hd2⟩
  all_goals
    go_enter Tryd.func14, Tryd.ntmps14
    go_wp2
    refine bodyPost_ret (v := .tuple #[.agg #[.int .u64 0, .int .u64 0], .int .i64 1]) (by simp [results, Tryd.results14, go_sem]) rfl ⟨rfl, ?_⟩
    simp

set_option maxHeartbeats 1000000 in
theorem rof_any (w : World) (A : Option Addr) (c : Nat) (l : List Int) (hA : Slc w A l) (n : Int) (n0 : 1 ≤ n) (n1 : n ≤ 128) :
    Calls Tryd.prog 14 #[.slice A l.length c, .int .i64 n] w fun e w' => e = .returned (.tuple #[(ofR n l).val, .int .i64 (ofE l)]) ∧ Keeps [] w w' := by
  have hlen := hA.1
  have HA := Lib.hid hA
  unfold maxLen at hlen
  clear hA
  go_enter Tryd.func14, Tryd.ntmps14
  go_wp2
  go_loopw [7] (fun i wr => ∃ k : Nat, k ≤ l.length ∧ i = .int .i64 k ∧ Hid ((l.take k).all isCell = true) ∧ Acc2 w (ofL n (l.take k)) wr) (fun i _ => l.length - (intOf i).toNat)
  case atStart => exact ⟨0, Nat.zero_le _, rfl, by unfold Hid; simp, Acc2.start w⟩
  case round =>
    obtain ⟨k, hk, rfl, hall, hacc⟩ := hrel
    have H := Lib.hid hacc
    have r0 : wr.cell? ⟨w.heap.size, 0, none⟩ = some (.int .u64 0) := (hacc.1.cell 0).trans rfl
    have r1 : wr.cell? ⟨w.heap.size, 1, none⟩ = some (.int .u64 0) := (hacc.1.cell 1).trans rfl
    have g0 := hacc.1.frozen 0
    have g1 := hacc.1.frozen 1
    have c0 : wr.cell? ⟨w.heap.size + 1, 0, none⟩ = some (.int .u64 ((ofL n (l.take k)).a : Int)) := (hacc.2.1.cell 0).trans rfl
    have c1 : wr.cell? ⟨w.heap.size + 1, 1, none⟩ = some (.int .u64 ((ofL n (l.take k)).b : Int)) := (hacc.2.1.cell 1).trans rfl
    obtain ⟨s, hs⟩ : ∃ s, ofL n (l.take k) = s := ⟨_, rfl⟩
    have hok : s.ok := hs ▸ ofL_ok n0 n1 _
    rw [hs] at c0 c1
    have HS := Lib.hid hs
    have HOK := Lib.hid hok
    clear hacc hs hok
    by_cases hlt : k < l.length
    · obtain ⟨x, hx⟩ : ∃ x, l[k]? = some x := ⟨_, List.getElem?_eq_getElem hlt⟩
      rcases (HA.out.keeps H.out.2.2).2 with h0 | ⟨b, off, rfl, hb, hc⟩
      · subst h0; simp at hlt
      have d1 := hc k x hx
      have HX := Lib.hid hx
      clear hc hx
      have k0 : (0 : Int) ≤ (k : Int) := by omega
      have k1 : (k : Int) < (l.length : Int) := by omega
      by_cases hc : isCell x = true
      · have hxr := isCell_yes.1 hc
        have ra := hA_rng x n n0 n1
        have rb := hB_rng x n n0 n1
        have HC := Lib.hid hc
        clear hc
        go_wp2_with fail
        refine (rhash_ok wr x n hxr.1 hxr.2 n0 n1).mono ?_
        rintro e w0 ⟨rfl, rfl⟩
        go_wp2_with fail
        refine (with_int wr s.a s.b s HOK.out rfl rfl (hA x n) ra.1 (by omega)).mono ?_
        rintro e w1 ⟨rfl, hk1⟩
        obtain ⟨s1, hs1⟩ : ∃ s1, s.set (hA x n).toNat = s1 := ⟨_, rfl⟩
        have hok1 : s1.ok := hs1 ▸ Sg.set_ok s HOK.out _ (by omega)
        rw [hs1]
        have b2 := H.out.2.1.keeps hk1 (by simp)
        have e0 : w1.cell? ⟨w.heap.size + 1, 0, none⟩ = some (.int .u64 ((ofL n (l.take k)).a : Int)) := (b2.cell 0).trans rfl
        have e1 : w1.cell? ⟨w.heap.size + 1, 1, none⟩ = some (.int .u64 ((ofL n (l.take k)).b : Int)) := (b2.cell 1).trans rfl
        have f0 := b2.frozen 0
        have f1 := b2.frozen 1
        have HN := Lib.hid (H.out.next (s' := s1) hk1)
        have HS1 := Lib.hid hs1
        have HOK1 := Lib.hid hok1
        clear hs1 hok1 hk1 b2 c0 c1 d1
        go_wp2_with fail
        refine (with_int _ s1.a s1.b s1 HOK1.out rfl rfl (hB x n) rb.1 (by omega)).mono ?_
        rintro e w2 ⟨rfl, hk2⟩
        obtain ⟨s2, hs2⟩ : ∃ s2, s1.set (hB x n).toNat = s2 := ⟨_, rfl⟩
        rw [hs2]
        have HS2 := Lib.hid hs2
        have b3 := HN.out.2.1.keeps hk2 (by simp)
        have e2 : w2.cell? ⟨w.heap.size + 1, 0, none⟩ = some (.int .u64 (s1.a : Int)) := (b3.cell 0).trans rfl
        have e3 : w2.cell? ⟨w.heap.size + 1, 1, none⟩ = some (.int .u64 (s1.b : Int)) := (b3.cell 1).trans rfl
        have f2 := b3.frozen 0
        have f3 := b3.frozen 1
        have HK2 := Lib.hid hk2
        clear hs2 hk2 b3 e0 e1 f0 f1
        go_wp2_with fail
        go_roundw
        case rel =>
          refine ⟨k + 1, by omega, by go_num, ?_, ?_⟩
          · unfold Hid
            rw [take_snoc HX.out, List.all_append, hall.out]
            simp [HC.out]
          · have e : ofL n (l.take (k + 1)) = s2 := by rw [take_snoc HX.out, ofL_snoc, HS.out]; unfold Sg.add; rw [HS1.out, HS2.out]
            rw [e]
            exact HN.out.next HK2.out
        case measure => simp [intOf]; omega
      · have hcf : isCell x = false := by simpa using hc
        have hxr : x < 0 ∨ 255 < x := by
          rcases Classical.em (0 ≤ x ∧ x ≤ 255) with h | h
          · exact absurd (isCell_yes.2 h) hc
          · omega
        have HXR := Lib.hid hxr
        have HC := Lib.hid hcf
        clear hc hcf hxr
        go_wp2_with fail
        refine (rhash_place wr x n n0 n1 HXR.out).mono ?_
        rintro e w0 ⟨rfl, rfl⟩
        go_wp2_with fail
        have hall2 : l.all isCell = false := by
          rw [List.all_eq_false]
          exact ⟨x, List.mem_of_getElem? HX.out, by simp [HC.out]⟩
        refine bodyPost_ret (v := .tuple #[.agg #[.int .u64 0, .int .u64 0], .int .i64 2]) (by simp [results, Tryd.results14, go_sem, r0, r1]) rfl ⟨by simp [ofR, ofE, hall2, Sg.zero, Sg.val], ?_⟩
        exact (H.out.2.2.setCell (.inr (Nat.le_refl _)) _).setCell (.inr (Nat.le_refl _)) _
    · have hge : ¬ ((k : Int) < (l.length : Int)) := by omega
      go_wp2_with fail
      have e : k = l.length := by omega
      subst e
      have hall2 : l.all isCell = true := by have := hall.out; rwa [List.take_length] at this
      have hs2 : ofL n l = s := by have := HS.out; rwa [List.take_length] at this
      refine bodyPost_ret (v := .tuple #[.agg #[.int .u64 (s.a : Int), .int .u64 (s.b : Int)], .int .i64 0]) (by simp [results, Tryd.results14, go_sem, r0, r1]) rfl ⟨by simp [ofR, ofE, hall2, hs2, Sg.val], ?_⟩
      exact (H.out.2.2.setCell (.inr (Nat.le_refl _)) _).setCell (.inr (Nat.le_refl _)) _
end Go.Proofs.YtlpgcfgnimchaaaDoor
