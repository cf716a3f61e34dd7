/- Layer 11: the document's example. -/
import Derived.Test.YtdhgiohjdhcedaaGreatAlOps
import Derived.Test.YtdhgiohjdhcedaaGreatSigMeets
namespace Go.Proofs.YtdhgiohjdhcedaaGreat
open Go.RowKit
set_option linter.unusedVariables false
set_option linter.unusedSimpArgs false
theorem src_ints (w : World) (xs : List Int) (k : Nat) (hk : w.heap.size = k) : Src (w.alloc (.cells (xs.map (Value.int .i64)).toArray 2)) (some ⟨k, 0, none⟩) xs := by
  subst hk
  intro h0
  refine ⟨_, rfl, fun j v hv => ?_⟩
  have hb := Blk.new w 2 (xs.map (Value.int .i64)).toArray
  have e : (⟨w.heap.size, 0, none⟩ : Addr).add j = ⟨w.heap.size, j, none⟩ := by unfold Addr.add; split <;> simp_all
  rw [e, hb.cell]
  simpa using hv
theorem own_aw : ownSg 128 0 = ⟨288230376151711744, 32768⟩ := by
  have h : (ownSg 128 0).a = 288230376151711744 ∧ (ownSg 128 0).b = 32768 := by decide +kernel
  cases hq : ownSg 128 0
  rw [hq] at h
  simp only at h
  rw [h.1, h.2]
theorem from_eq (w : World) (a b c p q : Int) : (Op.equalIn 10000 171 (.agg #[.int .i64 a, .int .i64 b, .int .i64 c, .int .u64 p, .int .u64 q]) (.agg #[.int .i64 a, .int .i64 b, .int .i64 c, .int .u64 p, .int .u64 q])).run Tryz.prog w = .ok true w := by
  simp [go_sem, sig_same9]
set_option maxRecDepth 100000 in
set_option maxHeartbeats 8000000 in
theorem awake11 (w : World) : Calls Tryz.prog 73 #[] w fun e w' => e = .returned (.bool true) ∧ Keeps [] w w' := by
  go_enter Tryz.func73, Tryz.ntmps73
  go_wp2_with fail
  refine (reader_any w 1 128 (by decide) (by decide) (by decide) (by decide)).mono ?_
  rintro e w1 ⟨z, F, rfl, hs, hf⟩
  have HS0 := Lib.hid hs
  have HF0 := Lib.hid hf
  clear hs hf
  go_wp2_with fail
  have hfl := sp_fill (HS0.out.calm (show Keeps [] w1 (w1.alloc (.cells #[.int .i64 5] 2)) by simp)) (some ⟨w1.heap.size, 0, none⟩) [5] 1 (src_ints w1 [5] _ rfl) (by decide)
  refine hfl.mono ?_
  rintro e w2 ⟨rfl, F2, hs2, _, _⟩
  have hf2 := HF0.out.fill [5]
  have hr : ((sp11 1 128).fill [5]).1 = 0 := rfl
  have hc2 : ((sp11 1 128).fill [5]).2.c = c11 1 128 ∧ ((sp11 1 128).fill [5]).2.gate.number = 0 ∧ ((sp11 1 128).fill [5]).2.cells = [5] ∧ ((sp11 1 128).fill [5]).2.H = [hd0] ∧ ((sp11 1 128).fill [5]).2.W = [0, 0] := ⟨rfl, rfl, rfl, rfl, rfl⟩
  rw [hr]
  obtain ⟨S2, hS2⟩ : ∃ S, ((sp11 1 128).fill [5]).2 = S := ⟨_, rfl⟩
  rw [hS2] at hs2 hf2 hc2
  have HS2 := Lib.hid hs2
  have HF2 := Lib.hid hf2
  have HC2 := Lib.hid hc2
  clear hs2 hf2 hc2 hfl hr hS2 HS0 HF0
  go_wp2_with fail
  have hn := read_new HS2.out HF2.out ⟨0, 1, 1, ⟨0, 0⟩⟩ ⟨by decide, by decide⟩ 0 (by decide) (by rw [HC2.out.1]; decide) (by decide) (by rw [HC2.out.1]; decide)
  refine hn.mono ?_
  rintro e w3 ⟨b, G, rfl, hrd, _, hk3⟩
  have has : AS (c11 1 128) [5] hd0 5 0 (Sg.join ⟨0, 0⟩ ⟨288230376151711744, 32768⟩) S2 (Rd.new S2.c.bits ⟨0, 1, 1, ⟨0, 0⟩⟩ 0) ((wordsL (Sg.minus ⟨288230376151711744, 32768⟩ ⟨0, 0⟩)).length + (if (1 : Int) = 0 then 3 else 5)) := AS.new (f := ⟨0, 1, 1, ⟨0, 0⟩⟩) (cell := 0) (v := 5) own_aw HC2.out.1 HC2.out.2.1 HC2.out.2.2.1 HC2.out.2.2.2.1 HC2.out.2.2.2.2 rfl rfl ⟨by decide, by decide⟩ ⟨by decide, by decide⟩ rfl
  have e7 : ((wordsL (Sg.minus ⟨288230376151711744, 32768⟩ ⟨0, 0⟩)).length + (if (1 : Int) = 0 then 3 else 5)) = 7 := by decide +kernel
  have eb : Sg.join ⟨0, 0⟩ ⟨288230376151711744, 32768⟩ = ⟨288230376151711744, 32768⟩ := by kernel_rfl
  rw [e7, eb] at has
  have HS3 := Lib.hid (HS2.out.calm hk3)
  have HA3 : Hid (Al w z b (c11 1 128) [5] hd0 5 0 ⟨288230376151711744, 32768⟩ 7 2 w3) := ⟨F2, G, S2, _, HS2.out.calm hk3, HF2.out, hrd, has⟩
  clear hn hrd hk3 has e7 eb HS2
  go_wp2_with fail
  have hn := read_new_bad HS3.out ⟨1, 0, 0, ⟨0, 0⟩⟩ 0 (by decide) (by rw [HC2.out.1]; decide) (by decide) (by rw [HC2.out.1]; decide)
  refine hn.mono ?_
  rintro e w4 ⟨rfl, hk4⟩
  have HA4 := Lib.hid (HA3.out.calm hk4)
  clear hn hk4 HA3 HS3
  go_wp2_with fail
  go_loopw [7, 8] (fun st i wr => ∃ i' : Nat, i' ≤ 7 ∧ i = .int .i64 i' ∧ st = .int .i64 i' ∧ Al w z b (c11 1 128) [5] hd0 5 0 ⟨288230376151711744, 32768⟩ (7 - i') (2 + i') wr) (fun _ i _ => 20 - (intOf i).toNat)
  case atStart => exact ⟨0, by decide, rfl, rfl, HA4.out⟩
  case round =>
    obtain ⟨i', hi', rfl, rfl, ha⟩ := hrel
    have HA := Lib.hid ha
    clear ha HA4
    have h20 : (i' : Int) < 20 := by omega
    have hw1 : IntKind.i64.wrap ((i' : Int) + 1) = (i' : Int) + 1 := by rw [IntKind.wrap_i64]; omega
    have hd := HA.out.done_
    by_cases h7 : i' < 7
    · have hR : 7 - i' ≠ 0 := by omega
      rw [show ((7 - i') == 0) = false by simp; omega] at hd
      have QD := Lib.hid hd
      have QS := Lib.hid (HA.out.step hR (by omega))
      clear hd
      go_wp2_with fail
      refine QD.out.mono ?_
      rintro e wq ⟨rfl, rfl⟩
      go_wp2_with fail
      refine QS.out.mono ?_
      rintro e w9 ⟨rfl, ha9⟩
      rw [show 7 - i' - 1 = 7 - (i' + 1) by omega] at ha9
      have HA9 := Lib.hid ha9
      clear ha9 QS QD
      go_wp2_with fail
      exact ⟨⟨i' + 1, by omega, by simp, by simp, HA9.out⟩, by simp [intOf]; omega⟩
    · have hi7 : 7 - i' = 0 := by omega
      have ha := HA.out
      rw [hi7] at hd ha
      have QD := Lib.hid hd
      have QV := Lib.hid ha.value
      have hge : (i' : Int) = 7 := by omega
      obtain ⟨w8, hw8⟩ : ∃ q, q = wr := ⟨_, rfl⟩
      subst hw8
      have HA8 := Lib.hid ha
      clear hd ha HA
      go_wp2_with fail
      refine QD.out.mono ?_
      rintro e wq ⟨rfl, rfl⟩
      go_wp2_with fail
      have hv : Calls Tryz.prog 164 #[PT b] w8 fun e w' => e = .returned (.tuple #[.int .i64 5, .int .i64 0]) ∧ Keeps [] w8 w' := QV.out
      refine hv.mono ?_
      rintro e w9 ⟨rfl, hk9⟩
      have HA9 := Lib.hid (HA8.out.calm hk9)
      clear hv hk9 QV QD HA8
      go_wp2_with fail
      refine HA9.out.from_.mono ?_
      rintro e w10 ⟨rfl, hk10⟩
      have HA10 := Lib.hid (HA9.out.calm hk10)
      clear hk10 HA9
      have hq := fun w => from_eq w 0 1 0 288230376151711744 32768
      have hidl := (HA10.out.calm (show Keeps [] w10 (w10.alloc (.cells #[.int .i64 0, .int .i64 1, .int .i64 0, .int .u64 288230376151711744, .int .u64 32768] 171)) by simp)).idle (by omega)
      have QI := Lib.hid hidl
      clear hidl
      go_wp2_with fail
      refine QI.out.mono ?_
      rintro e w11 ⟨rfl, hk11⟩
      go_wp2_with fail
      go_ret
      exact ⟨rfl, hk11⟩
end Go.Proofs.YtdhgiohjdhcedaaGreat
