/- quashref02.From: contract. -/
import Derived.Test.YtlpgcfgnimchaaaDoorSigFrom
import Derived.Deep.RegionHeld3
namespace Go.Proofs.YtlpgcfgnimchaaaDoor
open Go.RowKit
set_option linter.unusedVariables false

theorem Acc2.after {w wr w2 : World} {s : Sg} (h : Acc2 w s wr) (hk : Keeps [] wr w2) : (w2.cell? ⟨w.heap.size + 1, 0, none⟩ = some (.int .u64 (s.a : Int)) ∧ w2.cell? ⟨w.heap.size + 1, 1, none⟩ = some (.int .u64 (s.b : Int))) ∧ w2.frozen? ⟨w.heap.size + 1, 0, none⟩ = false ∧ w2.frozen? ⟨w.heap.size + 1, 1, none⟩ = false := by
  have b2 := h.2.1.keeps hk (by simp)
  exact ⟨⟨(b2.cell 0).trans rfl, (b2.cell 1).trans rfl⟩, b2.frozen 0, b2.frozen 1⟩

set_option maxHeartbeats 1000000 in
theorem rfrom_any (w : World) (A : Option Addr) (c : Nat) (l : List Int) (hA : Slc w A l) :
    Calls Tryd.prog 16 #[.slice A l.length c] w fun e w' => e = .returned (.tuple #[(fromR l).val, .int .i64 (fromE l)]) ∧ Keeps [] w w' := by
  have hlen := hA.1
  have HA := Lib.hid hA
  unfold maxLen at hlen
  clear hA
  go_enter Tryd.func16, Tryd.ntmps16
  go_wp2
  go_loopw [5] (fun i wr => ∃ k : Nat, k ≤ l.length ∧ i = .int .i64 k ∧ Hid ((l.take k).all isBit = true) ∧ Acc2 w (fromL (l.take k)) wr) (fun i _ => l.length - (intOf i).toNat)
  case atStart => exact ⟨0, Nat.zero_le _, rfl, by unfold Hid; simp, Acc2.start w⟩
  case round =>
    obtain ⟨k, hk, rfl, hall, hacc⟩ := hrel
    obtain ⟨s, hs⟩ : ∃ s, fromL (l.take k) = s := ⟨_, rfl⟩
    have hok : s.ok := hs ▸ fromL_ok _ (by have := hall.out; exact this)
    rw [hs] at hacc
    have H := Lib.hid hacc
    have r0 : wr.cell? ⟨w.heap.size, 0, none⟩ = some (.int .u64 0) := (hacc.1.cell 0).trans rfl
    have r1 : wr.cell? ⟨w.heap.size, 1, none⟩ = some (.int .u64 0) := (hacc.1.cell 1).trans rfl
    have g0 := hacc.1.frozen 0
    have g1 := hacc.1.frozen 1
    have c0 : wr.cell? ⟨w.heap.size + 1, 0, none⟩ = some (.int .u64 (s.a : Int)) := (hacc.2.1.cell 0).trans rfl
    have c1 : wr.cell? ⟨w.heap.size + 1, 1, none⟩ = some (.int .u64 (s.b : Int)) := (hacc.2.1.cell 1).trans rfl
    have HS := Lib.hid hs
    have HOK := Lib.hid hok
    clear hacc hs hok
    by_cases hlt : k < l.length
    · obtain ⟨x, hx⟩ : ∃ x, l[k]? = some x := ⟨_, List.getElem?_eq_getElem hlt⟩
      rcases (HA.out.keeps H.out.2.2).2 with h0 | ⟨b, off, rfl, hb, hc⟩
      · subst h0; simp at hlt
      have d1 := hc k x hx
      have HX := Lib.hid hx
      clear hc hx
      have k0 : (0 : Int) ≤ (k : Int) := by omega
      have k1 : (k : Int) < (l.length : Int) := by omega
      have hbw : (⟨b, off + k, none⟩ : Addr).block < wr.heap.size := hb
      have hbn : (⟨b, off + k, none⟩ : Addr).block ∉ ([] : List Nat) := by simp
      by_cases hc : isBit x = true
      · have hxr := isBit_yes.1 hc
        have hx128 : x < 128 := by omega
        have HC := Lib.hid hc
        clear hc
        go_wp2_with fail
        go_region_with (go_at_call 35; refine (with_int _ s.a s.b s HOK.out rfl rfl x hxr.1 hx128).mono ?_; rintro e w2 ⟨rfl, hk2⟩; have hk3 := hk2.undrewN; obtain ⟨⟨e0, e1⟩, f0, f1⟩ := H.out.after hk3; have HK2 := Lib.hid hk3; clear hk2 hk3)
        all_goals
          go_wp2_with fail
          go_roundw
          case rel =>
            refine ⟨k + 1, by omega, by go_num, ?_, ?_⟩
            · unfold Hid
              rw [take_snoc HX.out, List.all_append, hall.out]
              simp [HC.out]
            · have e : fromL (l.take (k + 1)) = s.set x.toNat := by rw [take_snoc HX.out, fromL_snoc, HS.out]
              rw [e]
              exact H.out.next HK2.out
          case measure => simp [intOf]; omega
      · have hcf : isBit x = false := by simpa using hc
        have hxr : decide (x < 0) = true ∨ (decide (x < 0) = false ∧ decide (127 < x) = true) := by
          rcases Classical.em (0 ≤ x ∧ x ≤ 127) with h | h
          · exact absurd (isBit_yes.2 h) hc
          · by_cases h0 : x < 0
            · left; simpa using h0
            · right; refine ⟨?_, ?_⟩ <;> simp <;> omega
        have HC := Lib.hid hcf
        clear hc hcf
        have hall2 : l.all isBit = false := by
          rw [List.all_eq_false]
          exact ⟨x, List.mem_of_getElem? HX.out, by simp [HC.out]⟩
        have HA2 := Lib.hid hall2
        clear hall2
        rcases hxr with hxr | ⟨hx1, hx2⟩
        all_goals
          go_wp2_with fail
          refine bodyPost_ret (v := .tuple #[.agg #[.int .u64 0, .int .u64 0], .int .i64 2]) (by simp [results, Tryd.results16, go_sem, r0, r1]) rfl ⟨by simp [fromR, fromE, HA2.out, Sg.zero, Sg.val], ?_⟩
          exact (H.out.2.2.setCell (.inr (Nat.le_refl _)) _).setCell (.inr (Nat.le_refl _)) _
    · have hge : ¬ ((k : Int) < (l.length : Int)) := by omega
      go_wp2_with fail
      have e : k = l.length := by omega
      subst e
      have hall2 : l.all isBit = true := by have := hall.out; rwa [List.take_length] at this
      have hs2 : fromL l = s := by have := HS.out; rwa [List.take_length] at this
      refine bodyPost_ret (v := .tuple #[.agg #[.int .u64 (s.a : Int), .int .u64 (s.b : Int)], .int .i64 0]) (by simp [results, Tryd.results16, go_sem, r0, r1]) rfl ⟨by simp [fromR, fromE, hall2, hs2, Sg.val], ?_⟩
      exact (H.out.2.2.setCell (.inr (Nat.le_refl _)) _).setCell (.inr (Nat.le_refl _)) _
end Go.Proofs.YtlpgcfgnimchaaaDoor
