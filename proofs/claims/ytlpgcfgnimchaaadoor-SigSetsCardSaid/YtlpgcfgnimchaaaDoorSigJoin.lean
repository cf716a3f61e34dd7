/- sig.Join, Meet, Minus (printed by wip/sigjoin.py). -/
import Derived.Test.YtlpgcfgnimchaaaDoorSigEq
namespace Go.Proofs.YtlpgcfgnimchaaaDoor
open Go.RowKit
set_option linter.unusedVariables false
def Sg.join (s t : Sg) : Sg := ⟨s.a ||| t.a, s.b ||| t.b⟩
def Sg.meet (s t : Sg) : Sg := ⟨s.a &&& t.a, s.b &&& t.b⟩
/-- What is in x and not in y. -/
def minusN (x y : Nat) : Nat := x &&& (18446744073709551615 - y)
def Sg.minus (s t : Sg) : Sg := ⟨minusN s.a t.a, minusN s.b t.b⟩
/-- The three blocks of the loop. -/
def St3 (w : World) (p q c d : Nat) (wr : World) : Prop :=
  Blk wr w.heap.size 31 #[.int .u64 (p : Int), .int .u64 (q : Int)] ∧ Blk wr (w.heap.size + 1) 31 #[.int .u64 (c : Int), .int .u64 (d : Int)] ∧ Blk wr (w.heap.size + 1 + 1) 31 #[.int .u64 0, .int .u64 0] ∧ Keeps [] w wr
theorem St3.start (w : World) (a b c d : Nat) : St3 w a b c d (((w.alloc (.cells #[.int .u64 (a : Int), .int .u64 (b : Int)] 31)).alloc (.cells #[.int .u64 (c : Int), .int .u64 (d : Int)] 31)).alloc (.cells #[.int .u64 0, .int .u64 0] 31)) :=
  ⟨((Blk.new _ _ _).alloc _).alloc _, Blk.alloc (new_at _ _ _ (by simp)) _, new_at _ _ _ (by simp), (((Keeps.refl _ _).alloc _).alloc _).alloc _⟩
theorem St3.cells {w wr : World} {p q c d : Nat} (h : St3 w p q c d wr) :
    wr.cell? ⟨w.heap.size, 0, none⟩ = some (.int .u64 (p : Int)) ∧ wr.cell? ⟨w.heap.size, 1, none⟩ = some (.int .u64 (q : Int)) ∧ wr.cell? ⟨w.heap.size + 1, 0, none⟩ = some (.int .u64 (c : Int)) ∧ wr.cell? ⟨w.heap.size + 1, 1, none⟩ = some (.int .u64 (d : Int)) ∧
    wr.cell? ⟨w.heap.size + 1 + 1, 0, none⟩ = some (.int .u64 0) ∧ wr.cell? ⟨w.heap.size + 1 + 1, 1, none⟩ = some (.int .u64 0) ∧ wr.frozen? ⟨w.heap.size, 0, none⟩ = false ∧ wr.frozen? ⟨w.heap.size, 1, none⟩ = false ∧ wr.frozen? ⟨w.heap.size + 1 + 1, 0, none⟩ = false ∧ wr.frozen? ⟨w.heap.size + 1 + 1, 1, none⟩ = false :=
  ⟨(h.1.cell 0).trans rfl, (h.1.cell 1).trans rfl, (h.2.1.cell 0).trans rfl, (h.2.1.cell 1).trans rfl, (h.2.2.1.cell 0).trans rfl, (h.2.2.1.cell 1).trans rfl, h.1.frozen 0, h.1.frozen 1, h.2.2.1.frozen 0, h.2.2.1.frozen 1⟩
theorem St3.set0 {w wr : World} {p q c d : Nat} (h : St3 w p q c d wr) (x : Nat) : St3 w x q c d (wr.setCell ⟨w.heap.size, 0, none⟩ (.int .u64 (x : Int))).drew :=
  ⟨by simpa using (h.1.set_ 0 (.int .u64 (x : Int))).drew, (h.2.1.far (by simp) _).drew, (h.2.2.1.far (by simp; omega) _).drew, (h.2.2.2.setCell (.inr (Nat.le_refl _)) _).drew⟩
theorem St3.set1 {w wr : World} {p q c d : Nat} (h : St3 w p q c d wr) (x : Nat) : St3 w p x c d (wr.setCell ⟨w.heap.size, 1, none⟩ (.int .u64 (x : Int))).drew :=
  ⟨by simpa using (h.1.set_ 1 (.int .u64 (x : Int))).drew, (h.2.1.far (by simp) _).drew, (h.2.2.1.far (by simp; omega) _).drew, (h.2.2.2.setCell (.inr (Nat.le_refl _)) _).drew⟩

set_option maxHeartbeats 1000000 in
theorem join_any (w : World) (s t : Sg) (hs : s.ok) (ht : t.ok) :
    Calls Tryd.prog 18 #[s.val, t.val] w fun e w' => e = .returned (s.join t).val ∧ Keeps [] w w' := by
  obtain ⟨a, b⟩ := s
  obtain ⟨c, d⟩ := t
  have o1 := bits_or_u64_nat a c hs.1 ht.1
  have o2 := bits_or_u64_nat b d hs.2 ht.2
  unfold Sg.join Sg.val
  simp only at o1 o2 ⊢
  obtain ⟨x, hx⟩ : ∃ x, a ||| c = x := ⟨_, rfl⟩
  obtain ⟨y, hy⟩ : ∃ y, b ||| d = y := ⟨_, rfl⟩
  rw [hx] at o1 ⊢
  rw [hy] at o2 ⊢
  clear hs ht hx hy
  go_enter Tryd.func18, Tryd.ntmps18
  go_wp2
  go_loopw [6] (fun i wr => (i = .int .i64 0 ∧ St3 w a b c d wr) ∨ (i = .int .i64 1 ∧ St3 w x b c d wr) ∨ (i = .int .i64 2 ∧ St3 w x y c d wr)) (fun i _ => 2 - (intOf i).toNat)
  case atStart => exact .inl ⟨rfl, St3.start w a b c d⟩
  case round =>
    rcases hrel with ⟨rfl, h⟩ | ⟨rfl, h⟩ | ⟨rfl, h⟩
    · obtain ⟨a0, a1, b0, b1, r0, r1, z0, z1, z2, z3⟩ := h.cells
      have H := Lib.hid h
      clear h
      go_wp2_with fail
      go_region
      go_wp2_with fail
      go_roundw
      case rel => exact .inr (.inl ⟨rfl, H.out.set0 x⟩)
      case measure => decide
    · obtain ⟨a0, a1, b0, b1, r0, r1, z0, z1, z2, z3⟩ := h.cells
      have H := Lib.hid h
      clear h
      go_wp2_with fail
      go_region
      go_wp2_with fail
      go_roundw
      case rel => exact .inr (.inr ⟨rfl, H.out.set1 y⟩)
      case measure => decide
    · obtain ⟨a0, a1, b0, b1, r0, r1, z0, z1, z2, z3⟩ := h.cells
      have H := Lib.hid h
      clear h
      go_wp2_with fail
      refine bodyPost_ret (v := .agg #[.int .u64 (x : Int), .int .u64 (y : Int)]) (by simp [results, Tryd.results18, go_sem, r0, r1]) rfl ⟨rfl, ?_⟩
      exact (H.out.2.2.2.setCell (.inr (by show _ ≤ _ + 1 + 1; omega)) _).setCell (.inr (by show _ ≤ _ + 1 + 1; omega)) _

theorem bits_andNot (a b : Nat) (ha : a < 18446744073709551616) (hb : b < 18446744073709551616) : bits .andNot .u64 (a : Int) (b : Int) = ((minusN a b : Nat) : Int) := by
  have hx : a &&& (18446744073709551615 - b) < 2 ^ 64 := Nat.and_lt_two_pow _ (by omega)
  have h1 : (BitVec.ofInt 64 (a : Int)).toNat = a := by
    rw [BitVec.ofInt_natCast, BitVec.toNat_ofNat]; exact Nat.mod_eq_of_lt (by omega)
  have h2 : (BitVec.ofInt 64 (b : Int)).toNat = b := by
    rw [BitVec.ofInt_natCast, BitVec.toNat_ofNat]; exact Nat.mod_eq_of_lt (by omega)
  show IntKind.u64.wrap ((BitVec.ofInt 64 (a : Int) &&& ~~~BitVec.ofInt 64 (b : Int)).toNat : Int) = _
  rw [BitVec.toNat_and, BitVec.toNat_not, h1, h2, IntKind.wrap_u64]
  have e : 2 ^ 64 - 1 - b = 18446744073709551615 - b := by omega
  rw [e]
  unfold minusN
  omega

set_option maxHeartbeats 1000000 in
theorem meet_any (w : World) (s t : Sg) (hs : s.ok) (ht : t.ok) :
    Calls Tryd.prog 23 #[s.val, t.val] w fun e w' => e = .returned (s.meet t).val ∧ Keeps [] w w' := by
  obtain ⟨a, b⟩ := s
  obtain ⟨c, d⟩ := t
  have o1 := bits_and_u64_nat a c hs.1 ht.1
  have o2 := bits_and_u64_nat b d hs.2 ht.2
  unfold Sg.meet Sg.val
  simp only at o1 o2 ⊢
  obtain ⟨x, hx⟩ : ∃ x, a &&& c = x := ⟨_, rfl⟩
  obtain ⟨y, hy⟩ : ∃ y, b &&& d = y := ⟨_, rfl⟩
  rw [hx] at o1 ⊢
  rw [hy] at o2 ⊢
  clear hs ht hx hy
  go_enter Tryd.func23, Tryd.ntmps23
  go_wp2
  go_loopw [6] (fun i wr => (i = .int .i64 0 ∧ St3 w a b c d wr) ∨ (i = .int .i64 1 ∧ St3 w x b c d wr) ∨ (i = .int .i64 2 ∧ St3 w x y c d wr)) (fun i _ => 2 - (intOf i).toNat)
  case atStart => exact .inl ⟨rfl, St3.start w a b c d⟩
  case round =>
    rcases hrel with ⟨rfl, h⟩ | ⟨rfl, h⟩ | ⟨rfl, h⟩
    · obtain ⟨a0, a1, b0, b1, r0, r1, z0, z1, z2, z3⟩ := h.cells
      have H := Lib.hid h
      clear h
      go_wp2_with fail
      go_region
      go_wp2_with fail
      go_roundw
      case rel => exact .inr (.inl ⟨rfl, H.out.set0 x⟩)
      case measure => decide
    · obtain ⟨a0, a1, b0, b1, r0, r1, z0, z1, z2, z3⟩ := h.cells
      have H := Lib.hid h
      clear h
      go_wp2_with fail
      go_region
      go_wp2_with fail
      go_roundw
      case rel => exact .inr (.inr ⟨rfl, H.out.set1 y⟩)
      case measure => decide
    · obtain ⟨a0, a1, b0, b1, r0, r1, z0, z1, z2, z3⟩ := h.cells
      have H := Lib.hid h
      clear h
      go_wp2_with fail
      refine bodyPost_ret (v := .agg #[.int .u64 (x : Int), .int .u64 (y : Int)]) (by simp [results, Tryd.results23, go_sem, r0, r1]) rfl ⟨rfl, ?_⟩
      exact (H.out.2.2.2.setCell (.inr (by show _ ≤ _ + 1 + 1; omega)) _).setCell (.inr (by show _ ≤ _ + 1 + 1; omega)) _

set_option maxHeartbeats 1000000 in
theorem minus_any (w : World) (s t : Sg) (hs : s.ok) (ht : t.ok) :
    Calls Tryd.prog 25 #[s.val, t.val] w fun e w' => e = .returned (s.minus t).val ∧ Keeps [] w w' := by
  obtain ⟨a, b⟩ := s
  obtain ⟨c, d⟩ := t
  have o1 := bits_andNot a c hs.1 ht.1
  have o2 := bits_andNot b d hs.2 ht.2
  unfold Sg.minus Sg.val
  simp only at o1 o2 ⊢
  obtain ⟨x, hx⟩ : ∃ x, minusN a c = x := ⟨_, rfl⟩
  obtain ⟨y, hy⟩ : ∃ y, minusN b d = y := ⟨_, rfl⟩
  rw [hx] at o1 ⊢
  rw [hy] at o2 ⊢
  clear hs ht hx hy
  go_enter Tryd.func25, Tryd.ntmps25
  go_wp2
  go_loopw [6] (fun i wr => (i = .int .i64 0 ∧ St3 w a b c d wr) ∨ (i = .int .i64 1 ∧ St3 w x b c d wr) ∨ (i = .int .i64 2 ∧ St3 w x y c d wr)) (fun i _ => 2 - (intOf i).toNat)
  case atStart => exact .inl ⟨rfl, St3.start w a b c d⟩
  case round =>
    rcases hrel with ⟨rfl, h⟩ | ⟨rfl, h⟩ | ⟨rfl, h⟩
    · obtain ⟨a0, a1, b0, b1, r0, r1, z0, z1, z2, z3⟩ := h.cells
      have H := Lib.hid h
      clear h
      go_wp2_with fail
      go_region
      go_wp2_with fail
      go_roundw
      case rel => exact .inr (.inl ⟨rfl, H.out.set0 x⟩)
      case measure => decide
    · obtain ⟨a0, a1, b0, b1, r0, r1, z0, z1, z2, z3⟩ := h.cells
      have H := Lib.hid h
      clear h
      go_wp2_with fail
      go_region
      go_wp2_with fail
      go_roundw
      case rel => exact .inr (.inr ⟨rfl, H.out.set1 y⟩)
      case measure => decide
    · obtain ⟨a0, a1, b0, b1, r0, r1, z0, z1, z2, z3⟩ := h.cells
      have H := Lib.hid h
      clear h
      go_wp2_with fail
      refine bodyPost_ret (v := .agg #[.int .u64 (x : Int), .int .u64 (y : Int)]) (by simp [results, Tryd.results25, go_sem, r0, r1]) rfl ⟨rfl, ?_⟩
      exact (H.out.2.2.2.setCell (.inr (by show _ ≤ _ + 1 + 1; omega)) _).setCell (.inr (by show _ ≤ _ + 1 + 1; omega)) _
end Go.Proofs.YtlpgcfgnimchaaaDoor
