/- The document's Bits and Touched. -/
import Derived.Test.YtlpgcfgnimchaaaDoorSigRMeet
namespace Go.Proofs.YtlpgcfgnimchaaaDoor
open Go.RowKit
set_option linter.unusedVariables false

/-- The bits below k, rising. -/
def upto (s : Sg) (k : Nat) : List Int := ((List.range k).filter s.has).map (fun j : Nat => (j : Int))
theorem upto_yes {s : Sg} {k : Nat} (h : s.has k = true) : upto s (k + 1) = upto s k ++ [(k : Int)] := by unfold upto; rw [List.range_succ, List.filter_append, List.map_append]; simp [h]
theorem upto_no {s : Sg} {k : Nat} (h : s.has k = false) : upto s (k + 1) = upto s k := by unfold upto; rw [List.range_succ, List.filter_append, List.map_append]; simp [h]
theorem upto_len (s : Sg) (k : Nat) : (upto s k).length ≤ k := by
  unfold upto
  rw [List.length_map]
  exact Nat.le_trans (List.length_filter_le _ _) (by simp)
theorem upto_bits (s : Sg) (hs : s.ok) : upto s 128 = bitsL s := by
  unfold upto bitsL
  rw [bl_eq s.a hs.1, bl_eq s.b hs.2, show (128 : Nat) = 64 + 64 by decide, List.range_add, List.filter_append, List.map_append]
  have e1 : (List.range 64).filter s.has = (List.range 64).filter (fun i => s.a.testBit i) := by
    apply List.filter_congr
    intro i hi
    have hi : i < 64 := List.mem_range.1 hi
    simp [Sg.has, hi]
  have e : (s.has ∘ fun x => 64 + x) = fun i => s.b.testBit i := by
    funext i
    show s.has (64 + i) = _
    unfold Sg.has
    rw [if_neg (by omega), Nat.add_sub_cancel_left]
  have e2 : (((List.range 64).map (fun x => 64 + x)).filter s.has).map (fun j : Nat => (j : Int)) = ((List.range 64).filter (fun i => s.b.testBit i)).map (fun k : Nat => 64 + (k : Int)) := by
    rw [List.filter_map, List.map_map, e]
    apply List.map_congr_left
    intro i _
    simp
  rw [e1, e2]
theorem RowAt.base {w w1 wr : World} {v : Value} {l : List Int} (h : RowAt w1 wr v l) (hk : Keeps [] w w1) : RowAt w wr v l :=
  ⟨own_base h.1 (fun k hk' => Nat.le_trans hk.size (h.1.lt k hk').1), hk.trans h.2 (by simp)⟩
set_option maxRecDepth 4000 in
set_option maxHeartbeats 1000000 in
theorem rbits_any (w : World) (a : Sg) (oa : a.ok) :
    Calls Tryd.prog 30 #[a.val] w fun e w' => ∃ v, e = .returned v ∧ RowAt w w' v (bitsL a) := by
  obtain ⟨i0, hi, hz0, hz1, hz2⟩ := info_parts Tryd.infoInt
  rw [← upto_bits a oa]
  have OA := Lib.hid oa
  clear oa
  unfold Sg.val
  go_enter Tryd.func30, Tryd.ntmps30
  go_wp2_with fail
  obtain ⟨w0, hw0⟩ : ∃ w0, w.alloc (.cells #[.int .u64 (a.a : Int), .int .u64 (a.b : Int)] 31) = w0 := ⟨_, rfl⟩
  have B0 := Lib.hid (show Blk w0 w.heap.size 31 #[.int .u64 (a.a : Int), .int .u64 (a.b : Int)] from hw0 ▸ Blk.new _ _ _)
  have K0 := Lib.hid (show Keeps [] w w0 from hw0 ▸ (Keeps.refl _ _).alloc _)
  rw [hw0]
  clear hw0
  go_loopw [3, 4] (fun out i wr => ∃ k : Nat, k ≤ 128 ∧ i = .int .i64 k ∧ RowAt w0 wr out (upto a k)) (fun _ i _ => 128 - (intOf i).toNat)
  case atStart => exact ⟨0, by omega, rfl, RowAt.nil (Keeps.refl _ _)⟩
  case round =>
    obtain ⟨k, hk, rfl, hrow⟩ := hrel
    have H := Lib.hid hrow
    have b0 := B0.out.keeps hrow.2 (by simp)
    have x0 : wr.cell? ⟨w.heap.size, 0, none⟩ = some (.int .u64 (a.a : Int)) := (b0.cell 0).trans rfl
    have x1 : wr.cell? ⟨w.heap.size, 1, none⟩ = some (.int .u64 (a.b : Int)) := (b0.cell 1).trans rfl
    clear hrow b0
    by_cases hlt : (k : Int) < 128
    · have hlt' : k < 128 := by omega
      have k0 : (0 : Int) ≤ (k : Int) := by omega
      have qa := has_any wr a OA.out k hlt'
      unfold Sg.val at qa
      cases h1 : a.has k
      · rw [h1] at qa
        have H1 := Lib.hid h1
        have QA := Lib.hid qa
        clear qa h1 hlt'
        go_wp2_with fail
        refine QA.out.mono ?_
        rintro e w2 ⟨rfl, k1⟩
        have H2 := Lib.hid (H.out.keeps k1)
        clear k1
        go_wp2_with fail
        go_roundw
        case rel => exact ⟨k + 1, by omega, by go_num, by rw [upto_no H1.out]; exact H2.out⟩
        case measure => simp [intOf]; omega
      · rw [h1] at qa
        have H1 := Lib.hid h1
        have QA := Lib.hid qa
        have hln := upto_len a k
        have hmx : Hid ((upto a k).length + 1 ≤ maxLen) := by unfold Hid maxLen; omega
        have hby : Hid (((upto a k).length + 1) * 8 ≤ 140737488355328) := by unfold Hid; omega
        clear qa h1 hlt' hln
        go_wp2_with fail
        refine QA.out.mono ?_
        rintro e w2 ⟨rfl, k1⟩
        have H2 := Lib.hid (H.out.keeps k1)
        clear k1
        go_wp2_with (at_builtin; refine wpList_append_row rfl (.tmp 12) (.tmp 14) 27 rfl 3 i0 _ 1 8 Tryd.underlying27 hi hz0 hz1 hz2 rfl (by decide) _ (upto a k).length ((upto a k).map (Value.int .i64)) rfl ((H2.out.keeps ((Keeps.refl [] _).alloc _)).own0 _ rfl) _ 1 ([(k : Int)].map (Value.int .i64)) rfl (one_row _ _ _ rfl) (one_ints _) hmx.out hby.out ?_; intro v1 w1 hown1 hg1 hat1)
        have HN := Lib.hid (H2.out.snoc ((Keeps.refl [] _).alloc _) (by simp) hown1 hg1 hat1)
        clear hown1 hg1 hat1
        go_wp2_with fail
        go_roundw
        case rel => exact ⟨k + 1, by omega, by go_num, by rw [upto_yes H1.out]; exact HN.out⟩
        case measure => simp [intOf]; omega
    · have ek : k = 128 := by omega
      subst ek
      go_wp2_with fail
      go_ret
      exact ⟨_, rfl, H.out.base K0.out⟩

set_option maxRecDepth 4000 in
set_option maxHeartbeats 1000000 in
theorem rtouched_any (w : World) (s t : Sg) (hs : s.ok) (ht : t.ok) :
    Calls Tryd.prog 31 #[s.val, t.val] w fun e w' => ∃ v, e = .returned v ∧ RowAt w w' v (wordsL (t.minus s)) := by
  obtain ⟨i0, hi, hz0, hz1, hz2⟩ := info_parts Tryd.infoInt
  have hc := fun w => rminus_any w t s ht hs
  obtain ⟨m, hm⟩ : ∃ m, t.minus s = m := ⟨_, rfl⟩
  rw [hm]
  simp only [hm] at hc
  unfold Sg.val at hc ⊢
  have HC := Lib.hid hc
  clear hc hm
  go_enter Tryd.func31, Tryd.ntmps31
  go_wp2_with fail
  refine (HC.out _).mono ?_
  rintro e w1 ⟨rfl, hk⟩
  have HK := Lib.hid ((((Keeps.refl [] w).alloc _).alloc _).trans hk (by simp))
  clear hk
  go_wp2_with fail
  obtain ⟨w0, hw0⟩ : ∃ w0, w1.alloc (.cells #[.int .u64 (m.a : Int), .int .u64 (m.b : Int)] 31) = w0 := ⟨_, rfl⟩
  have B0 := Lib.hid (show Blk w0 w1.heap.size 31 #[.int .u64 (m.a : Int), .int .u64 (m.b : Int)] from hw0 ▸ Blk.new _ _ _)
  have K0 := Lib.hid (show Keeps [] w w0 from hw0 ▸ HK.out.alloc _)
  rw [hw0]
  clear hw0
  go_loopw [5, 7] (fun out i wr => (i = .int .i64 0 ∧ RowAt w0 wr out (P0 m)) ∨ (i = .int .i64 1 ∧ RowAt w0 wr out (P1 m)) ∨ (i = .int .i64 2 ∧ RowAt w0 wr out (P2 m))) (fun _ i _ => 2 - (intOf i).toNat)
  case atStart => exact .inl ⟨rfl, RowAt.nil (Keeps.refl _ _)⟩
  case round =>
    have hb : Hid (Blk wr w1.heap.size 31 #[.int .u64 (m.a : Int), .int .u64 (m.b : Int)]) := by
      rcases hrel with ⟨_, h⟩ | ⟨_, h⟩ | ⟨_, h⟩ <;> exact Lib.hid (B0.out.keeps h.2 (by simp))
    have x0 : wr.cell? ⟨w1.heap.size, 0, none⟩ = some (.int .u64 (m.a : Int)) := (hb.out.cell 0).trans rfl
    have x1 : wr.cell? ⟨w1.heap.size, 1, none⟩ = some (.int .u64 (m.b : Int)) := (hb.out.cell 1).trans rfl
    rcases hrel with ⟨rfl, hrow⟩ | ⟨rfl, hrow⟩ | ⟨rfl, hrow⟩
    · have HR := Lib.hid hrow
      clear hrow
      have hln : (P0 m).length ≤ 2 := pw_len0 m
      have hmx : Hid ((P0 m).length + 1 ≤ maxLen) := by unfold Hid maxLen; omega
      have hby : Hid (((P0 m).length + 1) * 8 ≤ 140737488355328) := by unfold Hid; omega
      by_cases h0 : m.a = 0
      · have hne : ((m.a : Int) == 0) = true := by simp [h0]
        have e : P1 m = P0 m := by simp [P1, h0]
        have E := Lib.hid e
        clear e h0
        go_wp2_with fail
        go_roundw
        case rel => exact .inr (.inl ⟨rfl, E.out ▸ HR.out⟩)
        case measure => decide
      · have hne : ((m.a : Int) == 0) = false := by simp [h0]
        have e : P1 m = P0 m ++ [0] := by simp [P1, h0]
        have E := Lib.hid e
        clear e h0
        go_wp2_with (at_builtin; refine wpList_append_row rfl (.tmp 19) (.tmp 21) 27 rfl 3 i0 _ 1 8 Tryd.underlying27 hi hz0 hz1 hz2 rfl (by decide) _ (P0 m).length ((P0 m).map (Value.int .i64)) rfl ((HR.out.keeps ((Keeps.refl [] _).alloc _)).own0 _ rfl) _ 1 ([_].map (Value.int .i64)) rfl (one_row _ _ _ rfl) (one_ints _) hmx.out hby.out ?_; intro v1 w1 hown1 hg1 hat1)
        have HN := Lib.hid (HR.out.snoc ((Keeps.refl [] _).alloc _) (by simp) hown1 hg1 hat1)
        clear hown1 hg1 hat1
        go_wp2_with fail
        go_roundw
        case rel => exact .inr (.inl ⟨rfl, E.out ▸ HN.out⟩)
        case measure => decide
    · have HR := Lib.hid hrow
      clear hrow
      have hln : (P1 m).length ≤ 2 := pw_len1 m
      have hmx : Hid ((P1 m).length + 1 ≤ maxLen) := by unfold Hid maxLen; omega
      have hby : Hid (((P1 m).length + 1) * 8 ≤ 140737488355328) := by unfold Hid; omega
      by_cases h0 : m.b = 0
      · have hne : ((m.b : Int) == 0) = true := by simp [h0]
        have e : P2 m = P1 m := by simp [P2, h0]
        have E := Lib.hid e
        clear e h0
        go_wp2_with fail
        go_roundw
        case rel => exact .inr (.inr ⟨rfl, E.out ▸ HR.out⟩)
        case measure => decide
      · have hne : ((m.b : Int) == 0) = false := by simp [h0]
        have e : P2 m = P1 m ++ [1] := by simp [P2, h0]
        have E := Lib.hid e
        clear e h0
        go_wp2_with (at_builtin; refine wpList_append_row rfl (.tmp 19) (.tmp 21) 27 rfl 3 i0 _ 1 8 Tryd.underlying27 hi hz0 hz1 hz2 rfl (by decide) _ (P1 m).length ((P1 m).map (Value.int .i64)) rfl ((HR.out.keeps ((Keeps.refl [] _).alloc _)).own0 _ rfl) _ 1 ([_].map (Value.int .i64)) rfl (one_row _ _ _ rfl) (one_ints _) hmx.out hby.out ?_; intro v1 w1 hown1 hg1 hat1)
        have HN := Lib.hid (HR.out.snoc ((Keeps.refl [] _).alloc _) (by simp) hown1 hg1 hat1)
        clear hown1 hg1 hat1
        go_wp2_with fail
        go_roundw
        case rel => exact .inr (.inr ⟨rfl, E.out ▸ HN.out⟩)
        case measure => decide
    · have HR := Lib.hid hrow
      clear hrow
      go_wp2_with fail
      go_ret
      exact ⟨_, rfl, HR.out.base K0.out⟩
end Go.Proofs.YtlpgcfgnimchaaaDoor
