/- A common cell is a common bit: the plain law. -/
import Derived.Test.YtlpgcfgnimchaaaDoorSigPlain
import Derived.Laws.Bits128
namespace Go.Proofs.YtlpgcfgnimchaaaDoor
set_option linter.unusedVariables false
theorem i64_and255 (n : Int) : bits .and .i64 n 255 = n % 256 := by
  have h255 : (BitVec.ofInt 64 255).toNat = 2 ^ 8 - 1 := by decide
  have key : (BitVec.ofInt 64 n &&& BitVec.ofInt 64 255).toNat = (n % ((2 ^ 64 : Nat) : Int)).toNat % 2 ^ 8 := by
    rw [BitVec.toNat_and, BitVec.toNat_ofInt, h255, Nat.and_two_pow_sub_one_eq_mod]
  show IntKind.i64.wrap ((BitVec.ofInt 64 n &&& BitVec.ofInt 64 255).toNat : Nat) = n % 256
  rw [key, IntKind.wrap_i64]
  omega
theorem Sg.none_yes {s : Sg} : s.none = true ↔ s.a = 0 ∧ s.b = 0 := by
  unfold Sg.none
  simp
theorem Sg.set_join (s : Sg) (k : Nat) : s.set k = s.join (Sg.zero.set k) := by
  unfold Sg.set Sg.join Sg.zero
  split <;> simp
theorem zero_set_some (k : Nat) : ¬ ((Sg.zero.set k).a = 0 ∧ (Sg.zero.set k).b = 0) := by
  have hp : ∀ j, 0 < 2 ^ j := fun j => Nat.two_pow_pos j
  unfold Sg.set Sg.zero
  split
  · have := hp k; simp
  · have := hp (k - 64); simp
theorem or3_and (x y p q : Nat) (h : (x ||| p ||| q) &&& (y ||| p ||| q) = 0) : p = 0 := by
  apply Nat.eq_of_testBit_eq
  intro i
  have hi : ((x ||| p ||| q) &&& (y ||| p ||| q)).testBit i = false := by rw [h, Nat.zero_testBit]
  rw [Nat.testBit_and, Nat.testBit_or, Nat.testBit_or, Nat.testBit_or, Nat.testBit_or] at hi
  rw [Nat.zero_testBit]
  cases hp : p.testBit i
  · rfl
  · rw [hp] at hi; simp at hi
theorem or_in (x p q : Nat) : (x ||| p ||| q) ||| x = x ||| p ||| q := by
  apply Nat.eq_of_testBit_eq
  intro i
  rw [Nat.testBit_or, Nat.testBit_or, Nat.testBit_or]
  cases x.testBit i <;> cases p.testBit i <;> cases q.testBit i <;> rfl
theorem or_in2 (x p q : Nat) : (x ||| p ||| q) ||| (0 ||| p ||| q) = x ||| p ||| q := by
  apply Nat.eq_of_testBit_eq
  intro i
  simp only [Nat.testBit_or, Nat.zero_testBit]
  cases x.testBit i <;> cases p.testBit i <;> cases q.testBit i <;> rfl
theorem or_in3 (x p q : Nat) : x ||| (0 ||| p ||| q) = x ||| p ||| q := by
  apply Nat.eq_of_testBit_eq
  intro i
  simp only [Nat.testBit_or, Nat.zero_testBit]
  cases x.testBit i <;> cases p.testBit i <;> cases q.testBit i <;> rfl
theorem sound_law (few other : Sg) (p q : Nat) (hf : few.ok) (ho : other.ok) (hp : p < 128) (hq : q < 128) :
    (!(((few.set p).set q).meet ((other.set p).set q)).none) = true ∧ (few.minus ((few.set p).set q)).none = true ∧ (((Sg.zero.set p).set q).minus ((few.set p).set q)).none = true ∧ few.join ((Sg.zero.set p).set q) = (few.set p).set q := by
  have kp := Sg.set_ok _ zero_ok p hp
  have kq := Sg.set_ok _ zero_ok q hq
  have np := zero_set_some p
  have e1 : (few.set p).set q = ⟨few.a ||| (Sg.zero.set p).a ||| (Sg.zero.set q).a, few.b ||| (Sg.zero.set p).b ||| (Sg.zero.set q).b⟩ := by rw [Sg.set_join _ q, Sg.set_join _ p]; rfl
  have e2 : (other.set p).set q = ⟨other.a ||| (Sg.zero.set p).a ||| (Sg.zero.set q).a, other.b ||| (Sg.zero.set p).b ||| (Sg.zero.set q).b⟩ := by rw [Sg.set_join _ q, Sg.set_join _ p]; rfl
  have e3 : (Sg.zero.set p).set q = ⟨0 ||| (Sg.zero.set p).a ||| (Sg.zero.set q).a, 0 ||| (Sg.zero.set p).b ||| (Sg.zero.set q).b⟩ := by rw [Sg.set_join _ q]; simp [Sg.join]
  have o1 := Sg.set_ok _ (Sg.set_ok _ hf p hp) q hq
  have o3 := Sg.set_ok _ (Sg.set_ok _ zero_ok p hp) q hq
  rw [e1] at o1
  rw [e3] at o3
  rw [e1, e2, e3]
  refine ⟨?_, ?_, ?_, ?_⟩
  · rw [Bool.not_eq_true']
    apply Bool.eq_false_iff.2
    intro h
    have h := Sg.none_yes.1 h
    exact np ⟨or3_and _ _ _ _ h.1, or3_and _ _ _ _ h.2⟩
  · exact Sg.none_yes.2 ⟨(minusN_zero _ _ o1.1 hf.1).2 (or_in _ _ _), (minusN_zero _ _ o1.2 hf.2).2 (or_in _ _ _)⟩
  · exact Sg.none_yes.2 ⟨(minusN_zero _ _ o1.1 o3.1).2 (or_in2 _ _ _), (minusN_zero _ _ o1.2 o3.2).2 (or_in2 _ _ _)⟩
  · simp only [Sg.join, or_in3]
def m255 (z : Int) : Int := z % 256
theorem m255_cells (l : List Int) : (l.map m255).all isCell = true := by
  rw [List.all_eq_true]
  intro x hx
  obtain ⟨y, _, rfl⟩ := List.mem_map.1 hx
  exact isCell_yes.2 ⟨by unfold m255; omega, by unfold m255; omega⟩
theorem ofR_m (n : Int) (l : List Int) : ofR n (l.map m255) = ofL n (l.map m255) := by unfold ofR; rw [m255_cells]; rfl
theorem ofE_m (l : List Int) : ofE (l.map m255) = 0 := by unfold ofE; rw [m255_cells]; rfl
theorem ofL_m (n : Int) (l : List Int) (c : Int) : ofL n ((l ++ [c]).map m255) = ((ofL n (l.map m255)).set (hA (m255 c) n).toNat).set (hB (m255 c) n).toNat := by
  rw [List.map_append, List.map_cons, List.map_nil, ofL_snoc]; rfl
theorem Held {P : Program} {f : FuncId} {args : Array Value} {wB w : World} {q : Ending} (h : Calls P f args w fun e w' => e = q ∧ Keeps [] w w') (hk : Keeps [] wB w) : Calls P f args w fun e w' => e = q ∧ Keeps [] wB w' := h.mono fun e w' ⟨he, h2⟩ => ⟨he, hk.trans h2 (by simp)⟩
theorem map_snoc {l : List Int} {k : Nat} {x : Int} (h : l[k]? = some x) : (l.take (k + 1)).map m255 = (l.take k).map m255 ++ [m255 x] := by rw [List.take_add_one, h]; simp
end Go.Proofs.YtlpgcfgnimchaaaDoor
