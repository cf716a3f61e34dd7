/- sig.Bits. -/
import Derived.Test.YtlpgcfgnimchaaaDoorSigTz
namespace Go.Proofs.YtlpgcfgnimchaaaDoor
open Go.RowKit
set_option linter.unusedVariables false

theorem Tryd.infoInt : (Tryd.prog.info? 3).map (fun i => (i.zero, i.size, i.bytes)) = some (some (.int .i64 0), 1, 8) := by kernel_rfl

/-- A slice of the call's own, of ints, and nothing else is new to what was there. -/
def RowAt (w wr : World) (v : Value) (l : List Int) : Prop := wr.ownsRow w.heap.size 3 1 v l.length (l.map (Value.int .i64)) ∧ Keeps [] w wr
theorem RowAt.nil {w wr : World} (h : Keeps [] w wr) : RowAt w wr (.slice none 0 0) [] := ⟨World.ownsRow_nil _ _ _ _, h⟩
theorem RowAt.keeps {w wr w' : World} {v : Value} {l : List Int} (h : RowAt w wr v l) (hk : Keeps [] wr w') : RowAt w w' v l := ⟨own_keeps h.1 hk (by simp), h.2.trans hk (by simp)⟩
theorem RowAt.own0 {w wr : World} {v : Value} {l : List Int} (h : RowAt w wr v l) (n : Nat) (hn : n = l.length) : wr.ownsRow 0 3 1 v n (l.map (Value.int .i64)) := hn ▸ own_base h.1 (fun k _ => Nat.zero_le k)
theorem RowAt.snoc {w wr w0 w1 : World} {v v1 : Value} {l m : List Int} (h : RowAt w wr v l) (hk : Keeps [] wr w0) {n : Nat} (hn : n = (l ++ m).length)
    (ho : w1.ownsRow 0 3 1 v1 n (l.map (Value.int .i64) ++ m.map (Value.int .i64))) (hg : w0.grownBy w1 v.ownBlock) (ha : v1.ownBlock = v.ownBlock ∨ v1.ownBlock = some w0.heap.size) : RowAt w w1 v1 (l ++ m) := by
  have hsz : w.heap.size ≤ w0.heap.size := Nat.le_trans h.2.size hk.size
  have hb : ∀ k, v.ownBlock = some k → w.heap.size ≤ k := fun k hk' => (h.1.lt k hk').1
  subst hn
  refine ⟨own_base (by simpa using ho) ?_, (h.2.trans hk (by simp)).grown hg fun k hk' => .inr (hb k hk')⟩
  intro k hk'
  rcases ha with e | e
  · exact hb k (e ▸ hk')
  · rw [e] at hk'; injection hk' with hk'; omega
/-- One cell, made for an append. -/
theorem one_row (w : World) (x : Int) (k : Nat) (hk : w.heap.size = k) : (w.alloc (.cells #[.int .i64 x] 3)).ownsRow 0 3 1 (.slice (some ⟨k, 0, none⟩) 1 1) 1 ([x].map (Value.int .i64)) := by
  subst hk
  exact ⟨rfl, .inr ⟨w.heap.size, 1, #[.int .i64 x], rfl, Nat.zero_le _, heap_alloc_new w _, Nat.le_refl _, by decide, rfl, rfl⟩⟩
theorem one_ints (l : List Int) : ∀ u ∈ l.map (Value.int .i64), u.oneCell' = true := by
  intro u hu
  obtain ⟨x, _, rfl⟩ := List.mem_map.1 hu
  rfl

/-- The bits of a signature, rising. -/
def bitsL (s : Sg) : List Int := (bl s.a).map (fun k : Nat => (k : Int)) ++ (bl s.b).map (fun k : Nat => 64 + (k : Int))
/-- What is out when k words are done. -/
def partL (s : Sg) : Nat → List Int
  | 0 => []
  | 1 => (bl s.a).map (fun k : Nat => (k : Int))
  | _ => bitsL s
theorem part_len (s : Sg) (hs : s.ok) (k : Nat) : (partL s k).length ≤ 128 := by
  have h1 := bl_len s.a hs.1
  have h2 := bl_len s.b hs.2
  unfold partL bitsL
  split <;> simp <;> omega
theorem low_bits (y : Nat) (hy : y < 18446744073709551616) (h0 : y ≠ 0) : bits BinOp.and IntKind.u64 (y : Int) ((y : Int) - 1) = (low y : Nat) := by
  have e : (y : Int) - 1 = ((y - 1 : Nat) : Int) := by omega
  rw [e, bits_and_u64_nat y _ hy (by omega)]
  rfl

theorem ix0 (x y : Value) (w : World) : (Instr.index 31 (.agg #[x, y]) (.int .i64 0)).run Tryd.prog w = .ok x w := by kernel_rfl
theorem ix1 (x y : Value) (w : World) : (Instr.index 31 (.agg #[x, y]) (.int .i64 1)).run Tryd.prog w = .ok y w := by kernel_rfl

set_option maxHeartbeats 1000000 in
theorem bits_any (w : World) (hT : Tab w) (s : Sg) (hs : s.ok) :
    Calls Tryd.prog 29 #[s.val] w fun e w' => ∃ v, e = .returned v ∧ RowAt w w' v (bitsL s) := by
  obtain ⟨i0, hi, hz0, hz1, hz2⟩ := info_parts Tryd.infoInt
  obtain ⟨a, b⟩ := s
  obtain ⟨P, hP⟩ : ∃ P : Nat → List Int, P = partL ⟨a, b⟩ := ⟨_, rfl⟩
  have hlen : ∀ k, (P k).length ≤ 128 := by rw [hP]; exact part_len _ hs
  have p0 : P 0 = [] := by rw [hP]; rfl
  have p1 : P 0 ++ (bl a).map (fun k : Nat => (k : Int)) = P 1 := by rw [hP]; simp [partL]
  have p2 : P 1 ++ (bl b).map (fun k : Nat => 64 + (k : Int)) = P 2 := by rw [hP]; rfl
  have p3 : P 2 = bitsL ⟨a, b⟩ := by rw [hP]; rfl
  have ha := hs.1
  have hb := hs.2
  have HP1 := Lib.hid p1
  have HP2 := Lib.hid p2
  have HP3 := Lib.hid p3
  have HT := Lib.hid hT
  have HL := Lib.hid hlen
  clear hP hlen p1 p2 p3 hs hT
  have i0' := ix0 (.int .u64 (a : Int)) (.int .u64 (b : Int))
  have i1' := ix1 (.int .u64 (a : Int)) (.int .u64 (b : Int))
  unfold Sg.val
  go_enter Tryd.func29, Tryd.ntmps29
  go_wp2
  go_loopw [3, 7] (fun out i wr => (i = .int .i64 0 ∧ RowAt w wr out (P 0)) ∨ (i = .int .i64 1 ∧ RowAt w wr out (P 1)) ∨ (i = .int .i64 2 ∧ RowAt w wr out (P 2))) (fun _ i _ => 2 - (intOf i).toNat)
  case atStart => exact .inl ⟨rfl, p0 ▸ RowAt.nil ((Keeps.refl _ _).alloc _)⟩
  case round =>
    rcases hrel with ⟨rfl, hrow⟩ | ⟨rfl, hrow⟩ | ⟨rfl, hrow⟩
    · have HR := Lib.hid hrow
      clear hrow
      go_wp2_with fail
      go_loopw [3, 5] (fun out z wq => ∃ (y : Nat) (l : List Int), z = .int .u64 y ∧ y < 18446744073709551616 ∧ Hid (l ++ (bl y).map (fun k : Nat => (k : Int)) = P 1) ∧ RowAt w wq out l) (fun _ z _ => (intOf z).toNat)
      case atStart => exact ⟨a, P 0, rfl, ha, HP1, HR.out⟩
      case round =>
        obtain ⟨y, l, rfl, hy, hl, hrow⟩ := hrel
        have HW := Lib.hid hrow
        clear hrow
        by_cases hy0 : y = 0
        · subst hy0
          go_wp2_with fail
          go_roundw
          case rel => exact .inr (.inl ⟨rfl, by have := hl.out; rw [bl_zero] at this; simp at this; exact this ▸ HW.out⟩)
          case measure => simp [intOf]
        · have hne : ((y : Int) == 0) = false := by simp; omega
          have htz := (low_spec y hy0 hy).2.1
          have hlw := low_bits y hy hy0
          have hlt := low_lt hy0
          have hcons := bl_cons hy0
          obtain ⟨q, hq⟩ : ∃ q, Lib.ctz 64 y = q := ⟨_, rfl⟩
          obtain ⟨y2, hy2⟩ : ∃ y2, low y = y2 := ⟨_, rfl⟩
          have htza := fun (w1 : World) (h1 : Tab w1) => tz_any w1 h1 y hy hy0
          simp only [hq] at htz htza hcons
          rw [hy2] at hlw hlt hcons
          have hl2 : l ++ [(q : Int)] ++ (bl y2).map (fun k : Nat => (k : Int)) = P 1 := by
            have := hl.out
            rw [hcons] at this
            simpa using this
          have hln : l.length + 1 ≤ 128 := by
            have := HL.out 1
            rw [← hl2] at this
            simp at this
            omega
          have HQ := Lib.hid hl2
          have HTZ := Lib.hid htza
          have hmx : Hid (l.length + 1 ≤ maxLen) := by unfold Hid maxLen; omega
          have hby : Hid ((l.length + 1) * 8 ≤ 140737488355328) := by unfold Hid; omega
          clear hl2 htza hcons hq hy2 hl
          go_wp2_with fail
          refine (HTZ.out _ (HT.out.keeps HW.out.2)).mono ?_
          rintro e wz ⟨rfl, rfl⟩
          go_wp2_with (at_builtin; refine wpList_append_row rfl (.tmp 17) (.tmp 23) 27 rfl 3 i0 _ 1 8 Tryd.underlying27 hi hz0 hz1 hz2 rfl (by decide) _ l.length (l.map (Value.int .i64)) rfl ((HW.out.keeps ((Keeps.refl [] _).alloc _)).own0 _ rfl) _ 1 ([_].map (Value.int .i64)) rfl (one_row _ _ _ rfl) (one_ints _) hmx.out hby.out ?_; intro v1 w1 hown1 hg1 hat1)
          have HN := Lib.hid (HW.out.snoc ((Keeps.refl [] _).alloc _) (by simp) hown1 hg1 hat1)
          clear hown1 hg1 hat1
          go_wp2_with fail
          go_roundw
          case rel => exact ⟨y2, _, rfl, by omega, HQ, HN.out⟩
          case measure => simp [intOf]; omega
    · have HR := Lib.hid hrow
      clear hrow
      go_wp2_with fail
      go_loopw [3, 5] (fun out z wq => ∃ (y : Nat) (l : List Int), z = .int .u64 y ∧ y < 18446744073709551616 ∧ Hid (l ++ (bl y).map (fun k : Nat => 64 + (k : Int)) = P 2) ∧ RowAt w wq out l) (fun _ z _ => (intOf z).toNat)
      case atStart => exact ⟨b, P 1, rfl, hb, HP2, HR.out⟩
      case round =>
        obtain ⟨y, l, rfl, hy, hl, hrow⟩ := hrel
        have HW := Lib.hid hrow
        clear hrow
        by_cases hy0 : y = 0
        · subst hy0
          go_wp2_with fail
          go_roundw
          case rel => exact .inr (.inr ⟨rfl, by have := hl.out; rw [bl_zero] at this; simp at this; exact this ▸ HW.out⟩)
          case measure => simp [intOf]
        · have hne : ((y : Int) == 0) = false := by simp; omega
          have htz := (low_spec y hy0 hy).2.1
          have hlw := low_bits y hy hy0
          have hlt := low_lt hy0
          have hcons := bl_cons hy0
          obtain ⟨q, hq⟩ : ∃ q, Lib.ctz 64 y = q := ⟨_, rfl⟩
          obtain ⟨y2, hy2⟩ : ∃ y2, low y = y2 := ⟨_, rfl⟩
          have htza := fun (w1 : World) (h1 : Tab w1) => tz_any w1 h1 y hy hy0
          simp only [hq] at htz htza hcons
          rw [hy2] at hlw hlt hcons
          have hl2 : l ++ [64 + (q : Int)] ++ (bl y2).map (fun k : Nat => 64 + (k : Int)) = P 2 := by
            have := hl.out
            rw [hcons] at this
            simpa using this
          have hln : l.length + 1 ≤ 128 := by
            have := HL.out 2
            rw [← hl2] at this
            simp at this
            omega
          have HQ := Lib.hid hl2
          have HTZ := Lib.hid htza
          have hmx : Hid (l.length + 1 ≤ maxLen) := by unfold Hid maxLen; omega
          have hby : Hid ((l.length + 1) * 8 ≤ 140737488355328) := by unfold Hid; omega
          clear hl2 htza hcons hq hy2 hl
          go_wp2_with fail
          refine (HTZ.out _ (HT.out.keeps HW.out.2)).mono ?_
          rintro e wz ⟨rfl, rfl⟩
          go_wp2_with (at_builtin; refine wpList_append_row rfl (.tmp 17) (.tmp 23) 27 rfl 3 i0 _ 1 8 Tryd.underlying27 hi hz0 hz1 hz2 rfl (by decide) _ l.length (l.map (Value.int .i64)) rfl ((HW.out.keeps ((Keeps.refl [] _).alloc _)).own0 _ rfl) _ 1 ([_].map (Value.int .i64)) rfl (one_row _ _ _ rfl) (one_ints _) hmx.out hby.out ?_; intro v1 w1 hown1 hg1 hat1)
          have HN := Lib.hid (HW.out.snoc ((Keeps.refl [] _).alloc _) (by simp) hown1 hg1 hat1)
          clear hown1 hg1 hat1
          go_wp2_with fail
          go_roundw
          case rel => exact ⟨y2, _, rfl, by omega, HQ, HN.out⟩
          case measure => simp [intOf]; omega
    · have HR := Lib.hid hrow
      clear hrow
      go_wp2_with fail
      go_ret
      exact ⟨_, rfl, HP3.out ▸ HR.out⟩
end Go.Proofs.YtlpgcfgnimchaaaDoor
