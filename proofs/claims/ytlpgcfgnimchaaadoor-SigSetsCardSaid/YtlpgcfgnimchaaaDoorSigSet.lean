/- Signatures: one bit more (sig.set); the document's Has and With. -/
import Derived.Test.YtlpgcfgnimchaaaDoorSigHash
import Derived.Laws.Bits64
import Derived.Laws.Bits64b
import Derived.Laws.ShiftsVarLaws
import Derived.RegionTactic
import Derived.BigRegion
namespace Go.Proofs.YtlpgcfgnimchaaaDoor
open Go.RowKit
set_option linter.unusedVariables false

/-- A signature: its two words. -/
structure Sg where
  a : Nat
  b : Nat
def Sg.ok (s : Sg) : Prop := s.a < 18446744073709551616 ∧ s.b < 18446744073709551616
def Sg.val (s : Sg) : Value := .agg #[.int .u64 (s.a : Int), .int .u64 (s.b : Int)]
def Sg.set (s : Sg) (k : Nat) : Sg := if k < 64 then ⟨s.a ||| 2 ^ k, s.b⟩ else ⟨s.a, s.b ||| 2 ^ (k - 64)⟩
def Sg.zero : Sg := ⟨0, 0⟩

theorem pow_lt64 (k : Nat) (hk : k < 64) : 2 ^ k < 18446744073709551616 := by
  have := Nat.pow_lt_pow_of_lt (a := 2) (by omega) hk
  exact this
theorem wrap_pow (k : Nat) (hk : k < 64) : IntKind.u64.wrap ((2 : Int) ^ k) = (2 : Int) ^ k := by
  have h := pow_lt64 k hk
  have e : ((2 : Int) ^ k) = ((2 ^ k : Nat) : Int) := by simp
  rw [e, IntKind.wrap_u64]
  exact Int.emod_eq_of_lt (Int.natCast_nonneg _) (by have : ((2 ^ k : Nat) : Int) < ((18446744073709551616 : Nat) : Int) := Int.ofNat_lt.2 h; exact this)
theorem or_pow (a k : Nat) (ha : a < 18446744073709551616) (hk : k < 64) : bits BinOp.or IntKind.u64 (a : Int) ((2 : Int) ^ k) = ((a ||| 2 ^ k : Nat) : Int) := by
  have e : ((2 : Int) ^ k) = ((2 ^ k : Nat) : Int) := by simp
  rw [e, bits_or_u64_nat a _ ha (pow_lt64 k hk)]

theorem or_lt (a b : Nat) (ha : a < 18446744073709551616) (hb : b < 18446744073709551616) : a ||| b < 18446744073709551616 := Nat.or_lt_two_pow (n := 64) ha hb
theorem Sg.set_ok (s : Sg) (h : s.ok) (k : Nat) (hk : k < 128) : (s.set k).ok := by
  unfold Sg.set Sg.ok
  obtain ⟨h1, h2⟩ := h
  split
  · exact ⟨or_lt _ _ h1 (pow_lt64 _ (by omega)), h2⟩
  · exact ⟨h1, or_lt _ _ h2 (pow_lt64 _ (by omega))⟩

theorem set_lo (w : World) (a b : Nat) (ha : a < 18446744073709551616) (k : Nat) (hk : k < 64) :
    Calls Tryd.prog 34 #[.agg #[.int .u64 (a : Int), .int .u64 (b : Int)], .int .i64 (k : Int)] w fun e w' => e = .returned (.agg #[.int .u64 ((a ||| 2 ^ k : Nat) : Int), .int .u64 (b : Int)]) ∧ Keeps [] w w' := by
  have hor := or_pow a k ha hk
  have hwp := wrap_pow k hk
  have d1 : (k : Int) / 64 = 0 := by omega
  have d2 : (k : Int) % 64 = (k : Int) := by omega
  have d3 : k / 64 = 0 := by omega
  have d4 : k % 64 = k := by omega
  obtain ⟨x, hx⟩ : ∃ x, x = a ||| 2 ^ k := ⟨_, rfl⟩
  rw [← hx] at hor ⊢
  clear hx
  go_enter Tryd.func34, Tryd.ntmps34
  go_wp2
  go_region
  go_wp2
  exact bodyPost_ret (v := .agg #[.int .u64 (x : Int), .int .u64 (b : Int)]) (by simp [results, Tryd.results34, go_sem]) rfl ⟨rfl, (((Keeps.refl _ _).alloc _).alloc _).drew⟩
theorem set_hi (w : World) (a b : Nat) (hb : b < 18446744073709551616) (k : Nat) (hk : k < 64) :
    Calls Tryd.prog 34 #[.agg #[.int .u64 (a : Int), .int .u64 (b : Int)], .int .i64 ((k : Int) + 64)] w fun e w' => e = .returned (.agg #[.int .u64 (a : Int), .int .u64 ((b ||| 2 ^ k : Nat) : Int)]) ∧ Keeps [] w w' := by
  have hor := or_pow b k hb hk
  have hwp := wrap_pow k hk
  have d1 : ((k : Int) + 64) / 64 = 1 := by omega
  have d2 : ((k : Int) + 64) % 64 = (k : Int) := by omega
  have d3 : (k + 64) / 64 = 1 := by omega
  have d4 : (k + 64) % 64 = k := by omega
  obtain ⟨x, hx⟩ : ∃ x, x = b ||| 2 ^ k := ⟨_, rfl⟩
  rw [← hx] at hor ⊢
  clear hx
  go_enter Tryd.func34, Tryd.ntmps34
  go_wp2
  go_region
  go_wp2
  exact bodyPost_ret (v := .agg #[.int .u64 (a : Int), .int .u64 (x : Int)]) (by simp [results, Tryd.results34, go_sem]) rfl ⟨rfl, (((Keeps.refl _ _).alloc _).alloc _).drew⟩

/-- sig.set. -/
theorem set_any (w : World) (s : Sg) (hs : s.ok) (k : Nat) (hk : k < 128) :
    Calls Tryd.prog 34 #[s.val, .int .i64 (k : Int)] w fun e w' => e = .returned (s.set k).val ∧ Keeps [] w w' := by
  by_cases h : k < 64
  · have := set_lo w s.a s.b hs.1 k h
    simpa only [Sg.set, h, if_true, Sg.val] using this
  · have := set_hi w s.a s.b hs.2 (k - 64) (by omega)
    rw [show ((k - 64 : Nat) : Int) + 64 = (k : Int) by omega] at this
    simpa only [Sg.set, h, if_false, Sg.val] using this
end Go.Proofs.YtlpgcfgnimchaaaDoor
