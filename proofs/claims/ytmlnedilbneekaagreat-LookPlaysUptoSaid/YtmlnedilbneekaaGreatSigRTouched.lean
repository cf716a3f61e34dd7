/- The document's Touched. -/
import Derived.Test.YtmlnedilbneekaaGreatSigTouched
import Derived.Test.YtmlnedilbneekaaGreatSigRef
import Derived.Test.YtmlnedilbneekaaGreatOpenS
import Derived.Laws.Bits128
namespace Go.Proofs.YtmlnedilbneekaaGreat
open Go.RowKit
set_option linter.unusedVariables false
set_option linter.unusedSimpArgs false

theorem rof_arg (w : World) (A : Option Addr) (m c : Nat) (n : Int) (hn : n < 1 ∨ 128 < n) :
    Calls Tryz.prog 124 #[.slice A m c, .int .i64 n] w fun e w' => e = .returned (.tuple #[Sg.zero.val, .int .i64 1]) ∧ Keeps [] w w' := by
  have hd : decide (n < 1) = true ∨ (decide (n < 1) = false ∧ decide (128 < n) = true) := by
    rcases hn with h | h
    · left; simpa using h
    · right; constructor <;> simp <;> omega
  clear hn
  rcases hd with hd | ⟨hd, hd2⟩
  all_goals
    go_enter Tryz.func124, Tryz.ntmps124
    go_wp2
    refine bodyPost_ret (v := .tuple #[.agg #[.int .u64 0, .int .u64 0], .int .i64 1]) (by simp [results, Tryz.results124, go_sem]) rfl ⟨rfl, ?_⟩
    simp

set_option maxHeartbeats 1000000 in
theorem rof_any (w : World) (A : Option Addr) (c : Nat) (l : List Int) (hA : Slc w A l) (n : Int) (n0 : 1 ≤ n) (n1 : n ≤ 128) :
    Calls Tryz.prog 124 #[.slice A l.length c, .int .i64 n] w fun e w' => e = .returned (.tuple #[(ofR n l).val, .int .i64 (ofE l)]) ∧ Keeps [] w w' := by
  have hlen := hA.1
  have HA := Lib.hid hA
  unfold maxLen at hlen
  clear hA
  go_enter Tryz.func124, Tryz.ntmps124
  go_wp2
  go_loopw [7] (fun i wr => ∃ k : Nat, k ≤ l.length ∧ i = .int .i64 k ∧ Hid ((l.take k).all isCell = true) ∧ Acc2 w (ofL n (l.take k)) wr) (fun i _ => l.length - (intOf i).toNat)
  case atStart => exact ⟨0, Nat.zero_le _, rfl, by unfold Hid; simp, Acc2.start w⟩
  case round =>
    obtain ⟨k, hk, rfl, hall, hacc⟩ := hrel
    have H := Lib.hid hacc
    have r0 : wr.cell? ⟨w.heap.size, 0, none⟩ = some (.int .u64 0) := (hacc.1.cell 0).trans rfl
    have r1 : wr.cell? ⟨w.heap.size, 1, none⟩ = some (.int .u64 0) := (hacc.1.cell 1).trans rfl
    have g0 := hacc.1.frozen 0
    have g1 := hacc.1.frozen 1
    have c0 : wr.cell? ⟨w.heap.size + 1, 0, none⟩ = some (.int .u64 ((ofL n (l.take k)).a : Int)) := (hacc.2.1.cell 0).trans rfl
    have c1 : wr.cell? ⟨w.heap.size + 1, 1, none⟩ = some (.int .u64 ((ofL n (l.take k)).b : Int)) := (hacc.2.1.cell 1).trans rfl
    obtain ⟨s, hs⟩ : ∃ s, ofL n (l.take k) = s := ⟨_, rfl⟩
    have hok : s.ok := hs ▸ ofL_ok n0 n1 _
    rw [hs] at c0 c1
    have HS := Lib.hid hs
    have HOK := Lib.hid hok
    clear hacc hs hok
    by_cases hlt : k < l.length
    · obtain ⟨x, hx⟩ : ∃ x, l[k]? = some x := ⟨_, List.getElem?_eq_getElem hlt⟩
      rcases (HA.out.keeps H.out.2.2).2 with h0 | ⟨b, off, rfl, hb, hc⟩
      · subst h0; simp at hlt
      have d1 := hc k x hx
      have HX := Lib.hid hx
      clear hc hx
      have k0 : (0 : Int) ≤ (k : Int) := by omega
      have k1 : (k : Int) < (l.length : Int) := by omega
      by_cases hc : isCell x = true
      · have hxr := isCell_yes.1 hc
        have ra := hA_rng x n n0 n1
        have rb := hB_rng x n n0 n1
        have HC := Lib.hid hc
        clear hc
        go_wp2_with fail
        refine (rhash_ok wr x n hxr.1 hxr.2 n0 n1).mono ?_
        rintro e w0 ⟨rfl, rfl⟩
        go_wp2_with fail
        refine (with_int wr s.a s.b s HOK.out rfl rfl (hA x n) ra.1 (by omega)).mono ?_
        rintro e w1 ⟨rfl, hk1⟩
        obtain ⟨s1, hs1⟩ : ∃ s1, s.set (hA x n).toNat = s1 := ⟨_, rfl⟩
        have hok1 : s1.ok := hs1 ▸ Sg.set_ok s HOK.out _ (by omega)
        rw [hs1]
        have b2 := H.out.2.1.keeps hk1 (by simp)
        have e0 : w1.cell? ⟨w.heap.size + 1, 0, none⟩ = some (.int .u64 ((ofL n (l.take k)).a : Int)) := (b2.cell 0).trans rfl
        have e1 : w1.cell? ⟨w.heap.size + 1, 1, none⟩ = some (.int .u64 ((ofL n (l.take k)).b : Int)) := (b2.cell 1).trans rfl
        have f0 := b2.frozen 0
        have f1 := b2.frozen 1
        have HN := Lib.hid (H.out.next (s' := s1) hk1)
        have HS1 := Lib.hid hs1
        have HOK1 := Lib.hid hok1
        clear hs1 hok1 hk1 b2 c0 c1 d1
        go_wp2_with fail
        refine (with_int _ s1.a s1.b s1 HOK1.out rfl rfl (hB x n) rb.1 (by omega)).mono ?_
        rintro e w2 ⟨rfl, hk2⟩
        obtain ⟨s2, hs2⟩ : ∃ s2, s1.set (hB x n).toNat = s2 := ⟨_, rfl⟩
        rw [hs2]
        have HS2 := Lib.hid hs2
        have b3 := HN.out.2.1.keeps hk2 (by simp)
        have e2 : w2.cell? ⟨w.heap.size + 1, 0, none⟩ = some (.int .u64 (s1.a : Int)) := (b3.cell 0).trans rfl
        have e3 : w2.cell? ⟨w.heap.size + 1, 1, none⟩ = some (.int .u64 (s1.b : Int)) := (b3.cell 1).trans rfl
        have f2 := b3.frozen 0
        have f3 := b3.frozen 1
        have HK2 := Lib.hid hk2
        clear hs2 hk2 b3 e0 e1 f0 f1
        go_wp2_with fail
        go_roundw
        case rel =>
          refine ⟨k + 1, by omega, by go_num, ?_, ?_⟩
          · unfold Hid
            rw [take_snoc HX.out, List.all_append, hall.out]
            simp [HC.out]
          · have e : ofL n (l.take (k + 1)) = s2 := by rw [take_snoc HX.out, ofL_snoc, HS.out]; unfold Sg.add; rw [HS1.out, HS2.out]
            rw [e]
            exact HN.out.next HK2.out
        case measure => simp [intOf]; omega
      · have hcf : isCell x = false := by simpa using hc
        have hxr : x < 0 ∨ 255 < x := by
          rcases Classical.em (0 ≤ x ∧ x ≤ 255) with h | h
          · exact absurd (isCell_yes.2 h) hc
          · omega
        have HXR := Lib.hid hxr
        have HC := Lib.hid hcf
        clear hc hcf hxr
        go_wp2_with fail
        refine (rhash_place wr x n n0 n1 HXR.out).mono ?_
        rintro e w0 ⟨rfl, rfl⟩
        go_wp2_with fail
        have hall2 : l.all isCell = false := by
          rw [List.all_eq_false]
          exact ⟨x, List.mem_of_getElem? HX.out, by simp [HC.out]⟩
        refine bodyPost_ret (v := .tuple #[.agg #[.int .u64 0, .int .u64 0], .int .i64 2]) (by simp [results, Tryz.results124, go_sem, r0, r1]) rfl ⟨by simp [ofR, ofE, hall2, Sg.zero, Sg.val], ?_⟩
        exact (H.out.2.2.setCell (.inr (Nat.le_refl _)) _).setCell (.inr (Nat.le_refl _)) _
    · have hge : ¬ ((k : Int) < (l.length : Int)) := by omega
      go_wp2_with fail
      have e : k = l.length := by omega
      subst e
      have hall2 : l.all isCell = true := by have := hall.out; rwa [List.take_length] at this
      have hs2 : ofL n l = s := by have := HS.out; rwa [List.take_length] at this
      refine bodyPost_ret (v := .tuple #[.agg #[.int .u64 (s.a : Int), .int .u64 (s.b : Int)], .int .i64 0]) (by simp [results, Tryz.results124, go_sem, r0, r1]) rfl ⟨by simp [ofR, ofE, hall2, hs2, Sg.val], ?_⟩
      exact (H.out.2.2.setCell (.inr (Nat.le_refl _)) _).setCell (.inr (Nat.le_refl _)) _
end Go.Proofs.YtmlnedilbneekaaGreat

namespace Go.Proofs.YtmlnedilbneekaaGreat
set_option linter.unusedVariables false
set_option linter.unusedSimpArgs false
theorem Sg.has_set (s : Sg) (j k : Nat) (hj : j < 128) (hk : k < 128) : (s.set j).has k = (s.has k || decide (j = k)) := by
  unfold Sg.has Sg.set
  by_cases h1 : j < 64 <;> by_cases h2 : k < 64 <;> simp only [h1, h2, if_true, if_false]
  · rw [Nat.testBit_or, Nat.testBit_two_pow]
  · have : ¬ j = k := by omega
    simp [this]
  · have : ¬ j = k := by omega
    simp [this]
  · rw [Nat.testBit_or, Nat.testBit_two_pow]
    congr 1
    apply decide_eq_decide.2
    omega
theorem Sg.ext_has {s t : Sg} (hs : s.ok) (ht : t.ok) (h : ∀ k, k < 128 → s.has k = t.has k) : s = t := by
  obtain ⟨a, b⟩ := s
  obtain ⟨c, d⟩ := t
  have e1 : a = c := by
    apply Nat.eq_of_testBit_eq
    intro i
    by_cases hi : i < 64
    · have := h i (by omega); simpa only [Sg.has, hi, if_true] using this
    · have h1 : a.testBit i = false := by cases hb : a.testBit i; rfl; exact absurd (bit_lt64 hs.1 hb) hi
      have h2 : c.testBit i = false := by cases hb : c.testBit i; rfl; exact absurd (bit_lt64 ht.1 hb) hi
      rw [h1, h2]
  have e2 : b = d := by
    apply Nat.eq_of_testBit_eq
    intro i
    by_cases hi : i < 64
    · have := h (i + 64) (by omega)
      have hn : ¬ i + 64 < 64 := by omega
      simpa only [Sg.has, hn, if_false, Nat.add_sub_cancel] using this
    · have h1 : b.testBit i = false := by cases hb : b.testBit i; rfl; exact absurd (bit_lt64 hs.2 hb) hi
      have h2 : d.testBit i = false := by cases hb : d.testBit i; rfl; exact absurd (bit_lt64 ht.2 hb) hi
      rw [h1, h2]
  rw [e1, e2]
end Go.Proofs.YtmlnedilbneekaaGreat

namespace Go.Proofs.YtmlnedilbneekaaGreat
set_option linter.unusedVariables false
set_option linter.unusedSimpArgs false
theorem meet_minus (a b : Nat) (ha : a < 18446744073709551616) (hb : b < 18446744073709551616) : (a &&& b) ||| minusN a b = a := by
  apply Nat.eq_of_testBit_eq
  intro i
  rw [Nat.testBit_or, Nat.testBit_and, minusN_bit a b ha hb i]
  cases a.testBit i <;> cases b.testBit i <;> rfl
/-- What is left does not meet the other. -/
theorem minus_meet (a b : Nat) (ha : a < 18446744073709551616) (hb : b < 18446744073709551616) : minusN a b &&& b = 0 := by
  apply Nat.eq_of_testBit_eq
  intro i
  rw [Nat.testBit_and, minusN_bit a b ha hb i, Nat.zero_testBit]
  cases a.testBit i <;> cases b.testBit i <;> rfl
theorem meet_in_left (a b : Nat) (ha : a < 18446744073709551616) (hb : b < 18446744073709551616) : minusN (a &&& b) a = 0 := by
  apply Nat.eq_of_testBit_eq
  intro i
  rw [minusN_bit _ _ (and_lt _ _ ha) ha i, Nat.testBit_and, Nat.zero_testBit]
  cases a.testBit i <;> cases b.testBit i <;> rfl
theorem meet_in_right (a b : Nat) (ha : a < 18446744073709551616) (hb : b < 18446744073709551616) : minusN (a &&& b) b = 0 := by
  apply Nat.eq_of_testBit_eq
  intro i
  rw [minusN_bit _ _ (and_lt _ _ ha) hb i, Nat.testBit_and, Nat.zero_testBit]
  cases a.testBit i <;> cases b.testBit i <;> rfl
open Go.RowKit in
/-- Where a row of the call's own lies. -/
theorem RowAt.at {w wr : World} {v : Value} {l : List Int} (h : RowAt w wr v l) : (l = [] ∧ v = .slice none 0 0) ∨ ∃ g c, v = .slice (some ⟨g, 0, none⟩) l.length c ∧ w.heap.size ≤ g ∧ g < wr.heap.size ∧ l.length ≤ c ∧ ∀ (k : Nat) (x : Int), l[k]? = some x → wr.cell? ⟨g, k, none⟩ = some (.int .i64 x) := by
  rcases h.1.2 with ⟨h0, h1⟩ | ⟨g, cap, cur, h0, hb, hg, h1, h2, h3, h4⟩
  · exact .inl ⟨List.eq_nil_of_length_eq_zero h1, h0⟩
  · subst h0
    refine .inr ⟨g, cap, rfl, hb, (Array.getElem?_eq_some_iff.1 hg).1, h1, fun k x hx => ?_⟩
    have hc := h.1.cells (g := g) rfl k (.int .i64 x) (by rw [List.getElem?_map, hx]; rfl)
    have e : (⟨g, 0, none⟩ : Addr).add k = ⟨g, 0 + k, none⟩ := by unfold Addr.add; split <;> simp_all
    rw [e, Nat.zero_add] at hc
    exact hc
end Go.Proofs.YtmlnedilbneekaaGreat

namespace Go.Proofs.YtmlnedilbneekaaGreat
set_option linter.unusedVariables false
set_option linter.unusedSimpArgs false
theorem i64_and255 (n : Int) : bits .and .i64 n 255 = n % 256 := by
  have h255 : (BitVec.ofInt 64 255).toNat = 2 ^ 8 - 1 := by decide
  have key : (BitVec.ofInt 64 n &&& BitVec.ofInt 64 255).toNat = (n % ((2 ^ 64 : Nat) : Int)).toNat % 2 ^ 8 := by
    rw [BitVec.toNat_and, BitVec.toNat_ofInt, h255, Nat.and_two_pow_sub_one_eq_mod]
  show IntKind.i64.wrap ((BitVec.ofInt 64 n &&& BitVec.ofInt 64 255).toNat : Nat) = n % 256
  rw [key, IntKind.wrap_i64]
  omega
theorem Sg.none_yes {s : Sg} : s.none = true ↔ s.a = 0 ∧ s.b = 0 := by
  unfold Sg.none
  simp
theorem Sg.set_join (s : Sg) (k : Nat) : s.set k = s.join (Sg.zero.set k) := by
  unfold Sg.set Sg.join Sg.zero
  split <;> simp
theorem zero_set_some (k : Nat) : ¬ ((Sg.zero.set k).a = 0 ∧ (Sg.zero.set k).b = 0) := by
  have hp : ∀ j, 0 < 2 ^ j := fun j => Nat.two_pow_pos j
  unfold Sg.set Sg.zero
  split
  · have := hp k; simp
  · have := hp (k - 64); simp
theorem or3_and (x y p q : Nat) (h : (x ||| p ||| q) &&& (y ||| p ||| q) = 0) : p = 0 := by
  apply Nat.eq_of_testBit_eq
  intro i
  have hi : ((x ||| p ||| q) &&& (y ||| p ||| q)).testBit i = false := by rw [h, Nat.zero_testBit]
  rw [Nat.testBit_and, Nat.testBit_or, Nat.testBit_or, Nat.testBit_or, Nat.testBit_or] at hi
  rw [Nat.zero_testBit]
  cases hp : p.testBit i
  · rfl
  · rw [hp] at hi; simp at hi
theorem or_in (x p q : Nat) : (x ||| p ||| q) ||| x = x ||| p ||| q := by
  apply Nat.eq_of_testBit_eq
  intro i
  rw [Nat.testBit_or, Nat.testBit_or, Nat.testBit_or]
  cases x.testBit i <;> cases p.testBit i <;> cases q.testBit i <;> rfl
theorem or_in2 (x p q : Nat) : (x ||| p ||| q) ||| (0 ||| p ||| q) = x ||| p ||| q := by
  apply Nat.eq_of_testBit_eq
  intro i
  simp only [Nat.testBit_or, Nat.zero_testBit]
  cases x.testBit i <;> cases p.testBit i <;> cases q.testBit i <;> rfl
theorem or_in3 (x p q : Nat) : x ||| (0 ||| p ||| q) = x ||| p ||| q := by
  apply Nat.eq_of_testBit_eq
  intro i
  simp only [Nat.testBit_or, Nat.zero_testBit]
  cases x.testBit i <;> cases p.testBit i <;> cases q.testBit i <;> rfl
theorem sound_law (few other : Sg) (p q : Nat) (hf : few.ok) (ho : other.ok) (hp : p < 128) (hq : q < 128) :
    (!(((few.set p).set q).meet ((other.set p).set q)).none) = true ∧ (few.minus ((few.set p).set q)).none = true ∧ (((Sg.zero.set p).set q).minus ((few.set p).set q)).none = true ∧ few.join ((Sg.zero.set p).set q) = (few.set p).set q := by
  have kp := Sg.set_ok _ zero_ok p hp
  have kq := Sg.set_ok _ zero_ok q hq
  have np := zero_set_some p
  have e1 : (few.set p).set q = ⟨few.a ||| (Sg.zero.set p).a ||| (Sg.zero.set q).a, few.b ||| (Sg.zero.set p).b ||| (Sg.zero.set q).b⟩ := by rw [Sg.set_join _ q, Sg.set_join _ p]; rfl
  have e2 : (other.set p).set q = ⟨other.a ||| (Sg.zero.set p).a ||| (Sg.zero.set q).a, other.b ||| (Sg.zero.set p).b ||| (Sg.zero.set q).b⟩ := by rw [Sg.set_join _ q, Sg.set_join _ p]; rfl
  have e3 : (Sg.zero.set p).set q = ⟨0 ||| (Sg.zero.set p).a ||| (Sg.zero.set q).a, 0 ||| (Sg.zero.set p).b ||| (Sg.zero.set q).b⟩ := by rw [Sg.set_join _ q]; simp [Sg.join]
  have o1 := Sg.set_ok _ (Sg.set_ok _ hf p hp) q hq
  have o3 := Sg.set_ok _ (Sg.set_ok _ zero_ok p hp) q hq
  rw [e1] at o1
  rw [e3] at o3
  rw [e1, e2, e3]
  refine ⟨?_, ?_, ?_, ?_⟩
  · rw [Bool.not_eq_true']
    apply Bool.eq_false_iff.2
    intro h
    have h := Sg.none_yes.1 h
    exact np ⟨or3_and _ _ _ _ h.1, or3_and _ _ _ _ h.2⟩
  · exact Sg.none_yes.2 ⟨(minusN_zero _ _ o1.1 hf.1).2 (or_in _ _ _), (minusN_zero _ _ o1.2 hf.2).2 (or_in _ _ _)⟩
  · exact Sg.none_yes.2 ⟨(minusN_zero _ _ o1.1 o3.1).2 (or_in2 _ _ _), (minusN_zero _ _ o1.2 o3.2).2 (or_in2 _ _ _)⟩
  · simp only [Sg.join, or_in3]
def m255 (z : Int) : Int := z % 256
theorem m255_cells (l : List Int) : (l.map m255).all isCell = true := by
  rw [List.all_eq_true]
  intro x hx
  obtain ⟨y, _, rfl⟩ := List.mem_map.1 hx
  exact isCell_yes.2 ⟨by unfold m255; omega, by unfold m255; omega⟩
theorem ofR_m (n : Int) (l : List Int) : ofR n (l.map m255) = ofL n (l.map m255) := by unfold ofR; rw [m255_cells]; rfl
theorem ofE_m (l : List Int) : ofE (l.map m255) = 0 := by unfold ofE; rw [m255_cells]; rfl
theorem ofL_m (n : Int) (l : List Int) (c : Int) : ofL n ((l ++ [c]).map m255) = ((ofL n (l.map m255)).set (hA (m255 c) n).toNat).set (hB (m255 c) n).toNat := by
  rw [List.map_append, List.map_cons, List.map_nil, ofL_snoc]; rfl
theorem Held {P : Program} {f : FuncId} {args : Array Value} {wB w : World} {q : Ending} (h : Calls P f args w fun e w' => e = q ∧ Keeps [] w w') (hk : Keeps [] wB w) : Calls P f args w fun e w' => e = q ∧ Keeps [] wB w' := h.mono fun e w' ⟨he, h2⟩ => ⟨he, hk.trans h2 (by simp)⟩
theorem map_snoc {l : List Int} {k : Nat} {x : Int} (h : l[k]? = some x) : (l.take (k + 1)).map m255 = (l.take k).map m255 ++ [m255 x] := by rw [List.take_add_one, h]; simp
end Go.Proofs.YtmlnedilbneekaaGreat

namespace Go.Proofs.YtmlnedilbneekaaGreat
open Go.RowKit
set_option linter.unusedVariables false
set_option linter.unusedSimpArgs false
/-- The bits below k that meet p, added to s. -/
def foldB (p : Nat → Bool) (s : Sg) : Nat → Sg
  | 0 => s
  | k + 1 => if p k then (foldB p s k).set k else foldB p s k
theorem foldB_yes {p : Nat → Bool} {s : Sg} {k : Nat} (h : p k = true) : foldB p s (k + 1) = (foldB p s k).set k := by unfold foldB; rw [if_pos h]; cases k <;> rfl
theorem foldB_no {p : Nat → Bool} {s : Sg} {k : Nat} (h : p k = false) : foldB p s (k + 1) = foldB p s k := by rw [foldB]; simp [h]
theorem foldB_ok (p : Nat → Bool) (s : Sg) (hs : s.ok) (k : Nat) (hk : k ≤ 128) : (foldB p s k).ok := by
  induction k with
  | zero => exact hs
  | succ k ih =>
    have ih := ih (by omega)
    cases h : p k
    · rw [foldB_no h]; exact ih
    · rw [foldB_yes h]; exact Sg.set_ok _ ih _ (by omega)
theorem foldB_has (p : Nat → Bool) (s : Sg) (i : Nat) (hi : i < 128) (k : Nat) (hk : k ≤ 128) : (foldB p s k).has i = (s.has i || (decide (i < k) && p i)) := by
  induction k with
  | zero => simp [foldB]
  | succ k ih =>
    have ih := ih (by omega)
    cases h : p k
    · rw [foldB_no h, ih]
      congr 1
      by_cases e : i = k
      · subst e; simp [h]
      · congr 1; exact decide_eq_decide.2 (by omega)
    · rw [foldB_yes h, Sg.has_set _ k i (by omega) hi, ih, Bool.or_assoc]
      congr 1
      by_cases e : k = i
      · subst e; simp [h]
      · have e1 : decide (k = i) = false := by simp [e]
        have e2 : decide (i < k + 1) = decide (i < k) := decide_eq_decide.2 (by omega)
        rw [e1, e2, Bool.or_false]
theorem Sg.zero_has (i : Nat) : Sg.zero.has i = false := by unfold Sg.has Sg.zero; split <;> simp
theorem has_join (a b : Sg) (i : Nat) : (a.join b).has i = (a.has i || b.has i) := by unfold Sg.has Sg.join; split <;> simp [Nat.testBit_or]
theorem has_meet (a b : Sg) (i : Nat) : (a.meet b).has i = (a.has i && b.has i) := by unfold Sg.has Sg.meet; split <;> simp [Nat.testBit_and]
theorem has_minus (a b : Sg) (ha : a.ok) (hb : b.ok) (i : Nat) : (a.minus b).has i = (a.has i && !b.has i) := by
  unfold Sg.has Sg.minus
  split
  · exact minusN_bit _ _ ha.1 hb.1 _
  · exact minusN_bit _ _ ha.2 hb.2 _
theorem fold_join (a b : Sg) (ha : a.ok) (hb : b.ok) : foldB b.has a 128 = a.join b := by
  refine Sg.ext_has (foldB_ok _ _ ha _ (by omega)) (Sg.join_ok ha hb) fun i hi => ?_
  rw [foldB_has _ _ i hi _ (by omega), has_join]
  simp [hi]
theorem fold_meet (a b : Sg) (ha : a.ok) (hb : b.ok) : foldB (fun i => a.has i && b.has i) Sg.zero 128 = a.meet b := by
  refine Sg.ext_has (foldB_ok _ _ zero_ok _ (by omega)) (Sg.meet_ok b ha) fun i hi => ?_
  rw [foldB_has _ _ i hi _ (by omega), has_meet, Sg.zero_has]
  simp [hi]
theorem fold_minus (a b : Sg) (ha : a.ok) (hb : b.ok) : foldB (fun i => a.has i && !b.has i) Sg.zero 128 = a.minus b := by
  refine Sg.ext_has (foldB_ok _ _ zero_ok _ (by omega)) (Sg.minus_ok b ha) fun i hi => ?_
  rw [foldB_has _ _ i hi _ (by omega), has_minus a b ha hb, Sg.zero_has]
  simp [hi]
theorem none_has {s : Sg} (hs : s.ok) : s.none = true ↔ ∀ i, i < 128 → s.has i = false := by
  constructor
  · intro h i _
    obtain ⟨a, b⟩ := s
    have h := Sg.none_yes.1 h
    simp only at h
    rw [h.1, h.2]
    exact Sg.zero_has i
  · intro h
    have e : s = Sg.zero := Sg.ext_has hs zero_ok fun i hi => by rw [h i hi, Sg.zero_has]
    rw [e]; rfl
/-- A bit above k - 1 that both have is still to come, if any. -/
theorem none_of_all {s : Sg} (hs : s.ok) (h : ∀ i, i < 128 → s.has i = false) : s.none = true := (none_has hs).2 h
theorem some_of {s : Sg} (hs : s.ok) (i : Nat) (hi : i < 128) (h : s.has i = true) : s.none = false := by
  cases hn : s.none
  · rfl
  · rw [(none_has hs).1 hn i hi] at h; cases h

/-- The four blocks of Meet and Minus. -/
def StB (w : World) (a b s : Sg) (wr : World) : Prop :=
  Blk wr w.heap.size 47 #[.int .u64 (a.a : Int), .int .u64 (a.b : Int)] ∧ Blk wr (w.heap.size + 1) 47 #[.int .u64 (b.a : Int), .int .u64 (b.b : Int)] ∧ Blk wr (w.heap.size + 1 + 1) 47 #[.int .u64 0, .int .u64 0] ∧
    Blk wr (w.heap.size + 1 + 1 + 1) 47 #[.int .u64 (s.a : Int), .int .u64 (s.b : Int)] ∧ Keeps [] w wr
theorem StB.start (w : World) (a b : Sg) : StB w a b Sg.zero ((((w.alloc (.cells #[.int .u64 (a.a : Int), .int .u64 (a.b : Int)] 47)).alloc (.cells #[.int .u64 (b.a : Int), .int .u64 (b.b : Int)] 47)).alloc (.cells #[.int .u64 0, .int .u64 0] 47)).alloc (.cells #[.int .u64 0, .int .u64 0] 47)) :=
  ⟨(((Blk.new _ _ _).alloc _).alloc _).alloc _, (Blk.alloc (new_at _ _ _ (by simp)) _).alloc _, Blk.alloc (new_at _ _ _ (by simp)) _, new_at _ _ _ (by simp), ((((Keeps.refl _ _).alloc _).alloc _).alloc _).alloc _⟩
theorem StB.keeps {w wr w' : World} {a b s : Sg} (h : StB w a b s wr) (hk : Keeps [] wr w') : StB w a b s w' :=
  ⟨h.1.keeps hk (by simp), h.2.1.keeps hk (by simp), h.2.2.1.keeps hk (by simp), h.2.2.2.1.keeps hk (by simp), h.2.2.2.2.trans hk (by simp)⟩
theorem StB.cells {w wr : World} {a b s : Sg} (h : StB w a b s wr) :
    wr.cell? ⟨w.heap.size, 0, none⟩ = some (.int .u64 (a.a : Int)) ∧ wr.cell? ⟨w.heap.size, 1, none⟩ = some (.int .u64 (a.b : Int)) ∧ wr.cell? ⟨w.heap.size + 1, 0, none⟩ = some (.int .u64 (b.a : Int)) ∧ wr.cell? ⟨w.heap.size + 1, 1, none⟩ = some (.int .u64 (b.b : Int)) ∧
    wr.cell? ⟨w.heap.size + 1 + 1, 0, none⟩ = some (.int .u64 0) ∧ wr.cell? ⟨w.heap.size + 1 + 1, 1, none⟩ = some (.int .u64 0) ∧ wr.cell? ⟨w.heap.size + 1 + 1 + 1, 0, none⟩ = some (.int .u64 (s.a : Int)) ∧ wr.cell? ⟨w.heap.size + 1 + 1 + 1, 1, none⟩ = some (.int .u64 (s.b : Int)) ∧
    wr.frozen? ⟨w.heap.size + 1 + 1, 0, none⟩ = false ∧ wr.frozen? ⟨w.heap.size + 1 + 1, 1, none⟩ = false ∧ wr.frozen? ⟨w.heap.size + 1 + 1 + 1, 0, none⟩ = false ∧ wr.frozen? ⟨w.heap.size + 1 + 1 + 1, 1, none⟩ = false :=
  ⟨(h.1.cell 0).trans rfl, (h.1.cell 1).trans rfl, (h.2.1.cell 0).trans rfl, (h.2.1.cell 1).trans rfl, (h.2.2.1.cell 0).trans rfl, (h.2.2.1.cell 1).trans rfl, (h.2.2.2.1.cell 0).trans rfl, (h.2.2.2.1.cell 1).trans rfl, h.2.2.1.frozen 0, h.2.2.1.frozen 1, h.2.2.2.1.frozen 0, h.2.2.2.1.frozen 1⟩
theorem StB.next {w wr : World} {a b s : Sg} (h : StB w a b s wr) (s' : Sg) : StB w a b s' ((wr.setCell ⟨w.heap.size + 1 + 1 + 1, 0, none⟩ (.int .u64 (s'.a : Int))).setCell ⟨w.heap.size + 1 + 1 + 1, 1, none⟩ (.int .u64 (s'.b : Int))) := by
  obtain ⟨h1, h2, h3, h4, h5⟩ := h
  refine ⟨(h1.far (by simp <;> omega) _).far (by simp <;> omega) _, (h2.far (by simp <;> omega) _).far (by simp <;> omega) _, (h3.far (by simp) _).far (by simp) _, ?_, (h5.setCell (.inr (by show _ ≤ _ + 1 + 1 + 1; omega)) _).setCell (.inr (by show _ ≤ _ + 1 + 1 + 1; omega)) _⟩
  have := (h4.set_ 0 (.int .u64 (s'.a : Int))).set_ 1 (.int .u64 (s'.b : Int))
  simpa using this
theorem St3.keeps {w wr w' : World} {p q c d : Nat} (h : St3 w p q c d wr) (hk : Keeps [] wr w') : St3 w p q c d w' :=
  ⟨h.1.keeps hk (by simp), h.2.1.keeps hk (by simp), h.2.2.1.keeps hk (by simp), h.2.2.2.trans hk (by simp)⟩
theorem St3.next {w wr : World} {p q c d : Nat} (h : St3 w p q c d wr) (p' q' : Nat) : St3 w p' q' c d ((wr.setCell ⟨w.heap.size, 0, none⟩ (.int .u64 (p' : Int))).setCell ⟨w.heap.size, 1, none⟩ (.int .u64 (q' : Int))) := by
  obtain ⟨h1, h2, h3, h5⟩ := h
  refine ⟨?_, (h2.far (by simp) _).far (by simp) _, (h3.far (by simp <;> omega) _).far (by simp <;> omega) _, (h5.setCell (.inr (Nat.le_refl _)) _).setCell (.inr (Nat.le_refl _)) _⟩
  have := (h1.set_ 0 (.int .u64 (p' : Int))).set_ 1 (.int .u64 (q' : Int))
  simpa using this
end Go.Proofs.YtmlnedilbneekaaGreat

namespace Go.Proofs.YtmlnedilbneekaaGreat
open Go.RowKit
set_option linter.unusedVariables false
set_option linter.unusedSimpArgs false


end Go.Proofs.YtmlnedilbneekaaGreat

namespace Go.Proofs.YtmlnedilbneekaaGreat
open Go.RowKit
set_option linter.unusedVariables false
set_option linter.unusedSimpArgs false

end Go.Proofs.YtmlnedilbneekaaGreat

namespace Go.Proofs.YtmlnedilbneekaaGreat
open Go.RowKit
set_option linter.unusedVariables false
set_option linter.unusedSimpArgs false
theorem RowAt.base {w w1 wr : World} {v : Value} {l : List Int} (h : RowAt w1 wr v l) (hk : Keeps [] w w1) : RowAt w wr v l :=
  ⟨own_base h.1 (fun k hk' => Nat.le_trans hk.size (h.1.lt k hk').1), hk.trans h.2 (by simp)⟩
end Go.Proofs.YtmlnedilbneekaaGreat
