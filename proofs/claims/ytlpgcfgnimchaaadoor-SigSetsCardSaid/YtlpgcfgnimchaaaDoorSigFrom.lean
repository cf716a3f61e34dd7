/- sig.From, quashref02.From: contracts. -/
import Derived.Test.YtlpgcfgnimchaaaDoorSigOf
namespace Go.Proofs.YtlpgcfgnimchaaaDoor
open Go.RowKit
set_option linter.unusedVariables false

/-- What From answers. -/
def fromR (l : List Int) : Sg := if l.all isBit then fromL l else Sg.zero
def fromE (l : List Int) : Int := if l.all isBit then 0 else 2
theorem fromL_snoc (l : List Int) (x : Int) : fromL (l ++ [x]) = (fromL l).set x.toNat := by simp [fromL]
theorem fromL_ok (l : List Int) (h : l.all isBit = true) : (fromL l).ok := by
  unfold fromL
  have : ∀ s : Sg, s.ok → (l.foldl (fun s b => s.set b.toNat) s).ok := by
    induction l with
    | nil => exact fun s h => h
    | cons x l ih =>
      intro s hs
      simp only [List.all_cons, Bool.and_eq_true] at h
      have hx := isBit_yes.1 h.1
      exact ih h.2 _ (Sg.set_ok s hs _ (by omega))
  exact this _ zero_ok

set_option maxHeartbeats 1000000 in
theorem from_any (w : World) (A : Option Addr) (c : Nat) (l : List Int) (hA : Slc w A l) :
    Calls Tryd.prog 15 #[.slice A l.length c] w fun e w' => e = .returned (.tuple #[(fromR l).val, .int .i64 (fromE l)]) ∧ Keeps [] w w' := by
  have hlen := hA.1
  have HA := Lib.hid hA
  unfold maxLen at hlen
  clear hA
  go_enter Tryd.func15, Tryd.ntmps15
  go_wp2
  go_loopw [9] (fun i wr => ∃ k : Nat, k ≤ l.length ∧ i = .int .i64 k ∧ Hid ((l.take k).all isBit = true) ∧ Acc2 w (fromL (l.take k)) wr) (fun i _ => l.length - (intOf i).toNat)
  case atStart => exact ⟨0, Nat.zero_le _, rfl, by unfold Hid; simp, Acc2.start w⟩
  case round =>
    obtain ⟨k, hk, rfl, hall, hacc⟩ := hrel
    have H := Lib.hid hacc
    have r0 : wr.cell? ⟨w.heap.size, 0, none⟩ = some (.int .u64 0) := (hacc.1.cell 0).trans rfl
    have r1 : wr.cell? ⟨w.heap.size, 1, none⟩ = some (.int .u64 0) := (hacc.1.cell 1).trans rfl
    have g0 := hacc.1.frozen 0
    have g1 := hacc.1.frozen 1
    have c0 : wr.cell? ⟨w.heap.size + 1, 0, none⟩ = some (.int .u64 ((fromL (l.take k)).a : Int)) := (hacc.2.1.cell 0).trans rfl
    have c1 : wr.cell? ⟨w.heap.size + 1, 1, none⟩ = some (.int .u64 ((fromL (l.take k)).b : Int)) := (hacc.2.1.cell 1).trans rfl
    obtain ⟨s, hs⟩ : ∃ s, fromL (l.take k) = s := ⟨_, rfl⟩
    have hok : s.ok := hs ▸ fromL_ok _ (by have := hall.out; exact this)
    rw [hs] at c0 c1
    have HS := Lib.hid hs
    have HOK := Lib.hid hok
    clear hacc hs hok
    by_cases hlt : k < l.length
    · obtain ⟨x, hx⟩ : ∃ x, l[k]? = some x := ⟨_, List.getElem?_eq_getElem hlt⟩
      rcases (HA.out.keeps H.out.2.2).2 with h0 | ⟨b, off, rfl, hb, hc⟩
      · subst h0; simp at hlt
      have d1 := hc k x hx
      have HX := Lib.hid hx
      clear hc hx
      have k0 : (0 : Int) ≤ (k : Int) := by omega
      have k1 : (k : Int) < (l.length : Int) := by omega
      by_cases hc : isBit x = true
      · have hxr := isBit_yes.1 hc
        have HC := Lib.hid hc
        clear hc
        go_wp2_with fail
        refine (set_int wr s.a s.b s HOK.out rfl rfl x hxr.1 (by omega)).mono ?_
        rintro e w2 ⟨rfl, hk2⟩
        obtain ⟨s2, hs2⟩ : ∃ s2, s.set x.toNat = s2 := ⟨_, rfl⟩
        rw [hs2]
        have HS2 := Lib.hid hs2
        have b2 := H.out.2.1.keeps hk2 (by simp)
        have e0 : w2.cell? ⟨w.heap.size + 1, 0, none⟩ = some (.int .u64 ((fromL (l.take k)).a : Int)) := (b2.cell 0).trans rfl
        have e1 : w2.cell? ⟨w.heap.size + 1, 1, none⟩ = some (.int .u64 ((fromL (l.take k)).b : Int)) := (b2.cell 1).trans rfl
        have f0 := b2.frozen 0
        have f1 := b2.frozen 1
        have HK2 := Lib.hid hk2
        clear hs2 hk2 b2 c0 c1 d1
        go_wp2_with fail
        go_roundw
        case rel =>
          refine ⟨k + 1, by omega, by go_num, ?_, ?_⟩
          · unfold Hid
            rw [take_snoc HX.out, List.all_append, hall.out]
            simp [HC.out]
          · have e : fromL (l.take (k + 1)) = s2 := by rw [take_snoc HX.out, fromL_snoc, HS.out, HS2.out]
            rw [e]
            exact H.out.next HK2.out
        case measure => simp [intOf]; omega
      · have hcf : isBit x = false := by simpa using hc
        have hxr : decide (x < 0) = true ∨ (decide (x < 0) = false ∧ decide (128 ≤ x) = true) := by
          rcases Classical.em (0 ≤ x ∧ x ≤ 127) with h | h
          · exact absurd (isBit_yes.2 h) hc
          · by_cases h0 : x < 0
            · left; simpa using h0
            · right; refine ⟨?_, ?_⟩ <;> simp <;> omega
        have HC := Lib.hid hcf
        clear hc hcf
        have hall2 : l.all isBit = false := by
          rw [List.all_eq_false]
          exact ⟨x, List.mem_of_getElem? HX.out, by simp [HC.out]⟩
        have HA2 := Lib.hid hall2
        clear hall2
        rcases hxr with hxr | ⟨hx1, hx2⟩
        all_goals
          go_wp2_with fail
          refine bodyPost_ret (v := .tuple #[.agg #[.int .u64 0, .int .u64 0], .int .i64 2]) (by simp [results, Tryd.results15, go_sem, r0, r1]) rfl ⟨by simp [fromR, fromE, HA2.out, Sg.zero, Sg.val], ?_⟩
          exact (H.out.2.2.setCell (.inr (Nat.le_refl _)) _).setCell (.inr (Nat.le_refl _)) _
    · have hge : ¬ ((k : Int) < (l.length : Int)) := by omega
      go_wp2_with fail
      have e : k = l.length := by omega
      subst e
      have hall2 : l.all isBit = true := by have := hall.out; rwa [List.take_length] at this
      have hs2 : fromL l = s := by have := HS.out; rwa [List.take_length] at this
      refine bodyPost_ret (v := .tuple #[.agg #[.int .u64 (s.a : Int), .int .u64 (s.b : Int)], .int .i64 0]) (by simp [results, Tryd.results15, go_sem, r0, r1]) rfl ⟨by simp [fromR, fromE, hall2, hs2, Sg.val], ?_⟩
      exact (H.out.2.2.setCell (.inr (Nat.le_refl _)) _).setCell (.inr (Nat.le_refl _)) _
end Go.Proofs.YtlpgcfgnimchaaaDoor
