/- The plain law of math/bits.OnesCount64. -/
import Derived.Test.YtlpgcfgnimchaaaDoorSigPlain
namespace Go.Proofs.YtlpgcfgnimchaaaDoor
set_option linter.unusedVariables false
/-- Bytes, the lowest first. -/
def bval : List Nat → Nat
  | [] => 0
  | b :: l => b + 256 * bval l
theorem and_split (d q m M : Nat) (hd : d < 256) (hm : m < 256) : (d + 256 * q) &&& (m + 256 * M) = (d &&& m) + 256 * (q &&& M) := by
  apply Nat.eq_of_testBit_eq
  intro i
  have hdm : d &&& m < 2 ^ 8 := Nat.and_lt_two_pow _ hm
  rw [Nat.testBit_and, Nat.add_comm d, Nat.add_comm m, Nat.add_comm (d &&& m)]
  rw [show (256 : Nat) = 2 ^ 8 by decide, Nat.testBit_two_pow_mul_add q hd, Nat.testBit_two_pow_mul_add M hm, Nat.testBit_two_pow_mul_add (q &&& M) hdm]
  split <;> simp
def bmask (l : List Nat) (m : Nat) : Nat := bval (l.map fun _ => m)
def g1 (b : Nat) : Nat := ((b / 2) &&& 85) + (b &&& 85)
def g2 (b : Nat) : Nat := ((b / 4) &&& 51) + (b &&& 51)
def g3 (b : Nat) : Nat := (b / 16 + b) &&& 15
theorem t1 : ∀ b < 256, ∀ c < 2, (b / 2 + 128 * c) &&& 85 = (b / 2) &&& 85 := by decide +kernel
theorem t2 : ∀ b < 256, ∀ c < 4, (b / 4 + 64 * c) &&& 51 = (b / 4) &&& 51 := by decide +kernel
theorem t3 : ∀ b < 137, ∀ c < 5, b + 16 * c < 256 → (b + 16 * c) &&& 15 = b &&& 15 := by decide +kernel
theorem step1 (l : List Nat) (h : ∀ b ∈ l, b < 256) : (bval l / 2 &&& bmask l 85) + (bval l &&& bmask l 85) = bval (l.map g1) := by
  induction l with
  | nil => simp [bval, bmask]
  | cons b l ih =>
    have hb := h b (by simp)
    have ih := ih (fun x hx => h x (by simp [hx]))
    have e : (b + 256 * bval l) / 2 = (b / 2 + 128 * (bval l % 2)) + 256 * (bval l / 2) := by omega
    simp only [bval, bmask, List.map_cons] at ih ⊢
    rw [e, and_split _ _ _ _ (by omega) (by omega), and_split _ _ _ _ hb (by omega), t1 b hb _ (by omega)]
    have hg : g1 b = ((b / 2) &&& 85) + (b &&& 85) := rfl
    omega
theorem step2 (l : List Nat) (h : ∀ b ∈ l, b < 256) : (bval l / 4 &&& bmask l 51) + (bval l &&& bmask l 51) = bval (l.map g2) := by
  induction l with
  | nil => simp [bval, bmask]
  | cons b l ih =>
    have hb := h b (by simp)
    have ih := ih (fun x hx => h x (by simp [hx]))
    have e : (b + 256 * bval l) / 4 = (b / 4 + 64 * (bval l % 4)) + 256 * (bval l / 4) := by omega
    simp only [bval, bmask, List.map_cons] at ih ⊢
    rw [e, and_split _ _ _ _ (by omega) (by omega), and_split _ _ _ _ hb (by omega), t2 b hb _ (by omega)]
    have hg : g2 b = ((b / 4) &&& 51) + (b &&& 51) := rfl
    omega
theorem step3 (l : List Nat) (h : ∀ b ∈ l, b ≤ 68 ∧ b % 16 ≤ 4) : (bval l / 16 + bval l) &&& bmask l 15 = bval (l.map g3) := by
  induction l with
  | nil => simp [bval, bmask]
  | cons b l ih =>
    have hb := h b (by simp)
    have ih := ih (fun x hx => h x (by simp [hx]))
    have hv : bval l % 16 ≤ 4 := by
      cases l with
      | nil => simp [bval]
      | cons c l => have := h c (by simp); simp only [bval]; omega
    have e : (b + 256 * bval l) / 16 + (b + 256 * bval l) = ((b / 16 + b) + 16 * (bval l % 16)) + 256 * (bval l / 16 + bval l) := by omega
    simp only [bval, bmask, List.map_cons] at ih ⊢
    rw [e, and_split _ _ _ _ (by omega) (by omega), t3 _ (by omega) _ (by omega) (by omega), ih]
    rfl
def pc (n x : Nat) : Nat := (List.range n).countP (fun i => x.testBit i)
theorem byte_pc : ∀ b < 256, (g1 b < 256 ∧ g2 (g1 b) ≤ 68 ∧ g2 (g1 b) % 16 ≤ 4) ∧ g3 (g2 (g1 b)) = pc 8 b ∧ pc 8 b ≤ 8 := by decide +kernel
theorem pc_cons (n b q : Nat) (hb : b < 256) : pc (8 + n) (b + 256 * q) = pc 8 b + pc n q := by
  unfold pc
  rw [List.range_add, List.countP_append, List.countP_map]
  congr 1
  · apply List.countP_congr
    intro i hi
    have hi : i < 8 := List.mem_range.1 hi
    rw [Nat.add_comm b, show (256 : Nat) = 2 ^ 8 by decide, Nat.testBit_two_pow_mul_add q hb]
    simp [hi]
  · apply List.countP_congr
    intro i hi
    simp only [Function.comp]
    rw [Nat.add_comm b, show (256 : Nat) = 2 ^ 8 by decide, Nat.testBit_two_pow_mul_add q hb, if_neg (by omega), show 8 + i - 8 = i by omega]
theorem bv_eq (a b c d e f g h : Nat) : bval [a, b, c, d, e, f, g, h] = a + 256 * b + 65536 * c + 16777216 * d + 4294967296 * e + 1099511627776 * f + 281474976710656 * g + 72057594037927936 * h := by
  simp only [bval]; omega
theorem bv_lt (a b c d e f g h : Nat) (h0 : a < 256) (h1 : b < 256) (h2 : c < 256) (h3 : d < 256) (h4 : e < 256) (h5 : f < 256) (h6 : g < 256) (h7 : h < 256) : bval [a, b, c, d, e, f, g, h] < 18446744073709551616 := by
  rw [bv_eq]; omega
theorem bv_le (a b c d e f g h : Nat) (h0 : a ≤ 68) (h1 : b ≤ 68) (h2 : c ≤ 68) (h3 : d ≤ 68) (h4 : e ≤ 68) (h5 : f ≤ 68) (h6 : g ≤ 68) (h7 : h ≤ 68) : bval [a, b, c, d, e, f, g, h] ≤ 4919131752989213764 := by rw [bv_eq]; omega
theorem d1l (a b c d e f g h y : Nat) (h0 : a ≤ 8) (hy : a + 256 * b + 65536 * c + 16777216 * d + 4294967296 * e + 1099511627776 * f + 281474976710656 * g + 72057594037927936 * h = y) : y / 256 = b + 256 * c + 65536 * d + 16777216 * e + 4294967296 * f + 1099511627776 * g + 281474976710656 * h := by omega
theorem d2l (a b c d e f g h y : Nat) (h0 : a ≤ 16) (h1 : b ≤ 16) (hy : y = a + 256 * b + 65536 * c + 16777216 * d + 4294967296 * e + 1099511627776 * f + 281474976710656 * g + 72057594037927936 * h) : y / 65536 = c + 256 * d + 65536 * e + 16777216 * f + 4294967296 * g + 1099511627776 * h := by omega
theorem d3l (a b c d e f g h y : Nat) (h0 : a ≤ 32) (h1 : b ≤ 32) (h2 : c ≤ 32) (h3 : d ≤ 32) (hy : y = a + 256 * b + 65536 * c + 16777216 * d + 4294967296 * e + 1099511627776 * f + 281474976710656 * g + 72057594037927936 * h) : y / 4294967296 = e + 256 * f + 65536 * g + 16777216 * h := by omega
theorem m3l (a b c d e f g h y : Nat) (h0 : a ≤ 64) (hy : y = a + 256 * b + 65536 * c + 16777216 * d + 4294967296 * e + 1099511627776 * f + 281474976710656 * g + 72057594037927936 * h) : y % 128 = a := by omega
theorem bv_sum (a b c d e f g h y : Nat) (h0 : a ≤ 8) (h1 : b ≤ 8) (h2 : c ≤ 8) (h3 : d ≤ 8) (h4 : e ≤ 8) (h5 : f ≤ 8) (h6 : g ≤ 8) (h7 : h ≤ 8) (hy : bval [a, b, c, d, e, f, g, h] = y) : y + y / 256 < 18446744073709551616 ∧
    (y + y / 256) + (y + y / 256) / 65536 < 18446744073709551616 ∧
    ((y + y / 256) + (y + y / 256) / 65536) + ((y + y / 256) + (y + y / 256) / 65536) / 4294967296 < 9223372036854775808 ∧
    (((y + y / 256) + (y + y / 256) / 65536) + ((y + y / 256) + (y + y / 256) / 65536) / 4294967296) % 128 = a + (b + (c + (d + (e + (f + (g + (h + 0))))))) := by
  rw [bv_eq] at hy
  have d1 := d1l a b c d e f g h y h0 hy
  generalize y / 256 = z1 at *
  obtain ⟨s1, hs1⟩ : ∃ s, y + z1 = s := ⟨_, rfl⟩
  have e1 : s1 = (a + b) + 256 * (b + c) + 65536 * (c + d) + 16777216 * (d + e) + 4294967296 * (e + f) + 1099511627776 * (f + g) + 281474976710656 * (g + h) + 72057594037927936 * h := by omega
  rw [hs1]
  clear hs1 d1 hy
  have d2 := d2l (a + b) (b + c) (c + d) (d + e) (e + f) (f + g) (g + h) h s1 (by omega) (by omega) e1
  generalize s1 / 65536 = z2 at *
  obtain ⟨s2, hs2⟩ : ∃ s, s1 + z2 = s := ⟨_, rfl⟩
  have e2 : s2 = (a + b + c + d) + 256 * (b + c + d + e) + 65536 * (c + d + e + f) + 16777216 * (d + e + f + g) + 4294967296 * (e + f + g + h) + 1099511627776 * (f + g + h) + 281474976710656 * (g + h) + 72057594037927936 * h := by omega
  rw [hs2]
  clear hs2 d2
  have d3 := d3l _ _ _ _ (e + f + g + h) (f + g + h) (g + h) h s2 (by omega) (by omega) (by omega) (by omega) e2
  generalize s2 / 4294967296 = z3 at *
  obtain ⟨s3, hs3⟩ : ∃ s, s2 + z3 = s := ⟨_, rfl⟩
  have e3 : s3 = (a + b + c + d + e + f + g + h) + 256 * (b + c + d + e + f + g + h) + 65536 * (c + d + e + f + g + h) + 16777216 * (d + e + f + g + h) + 4294967296 * (e + f + g + h) + 1099511627776 * (f + g + h) + 281474976710656 * (g + h) + 72057594037927936 * h := by omega
  rw [hs3]
  clear hs3 d3
  have m3 := m3l _ _ _ _ _ _ _ _ s3 (by omega) e3
  have q1 : s1 ≤ 2000000000000000000 := by clear e2 e3 m3; omega
  have q2 : s2 ≤ 4000000000000000000 := by clear e1 e3 m3; omega
  have q3 : s3 ≤ 6000000000000000000 := by clear e1 e2 m3; omega
  refine ⟨by clear e1 e2 e3; omega, by clear e1 e2 e3; omega, by clear e1 e2 e3; omega, by rw [m3]; clear e1 e2 e3; omega⟩
theorem bytes_of (x : Nat) (hx : x < 18446744073709551616) : ∃ b0 b1 b2 b3 b4 b5 b6 b7, (b0 < 256 ∧ b1 < 256 ∧ b2 < 256 ∧ b3 < 256 ∧ b4 < 256 ∧ b5 < 256 ∧ b6 < 256 ∧ b7 < 256) ∧ x = bval [b0, b1, b2, b3, b4, b5, b6, b7] :=
  ⟨x % 256, x / 256 % 256, x / 65536 % 256, x / 16777216 % 256, x / 4294967296 % 256, x / 1099511627776 % 256, x / 281474976710656 % 256, x / 72057594037927936, by omega, by simp only [bval]; omega⟩
/-- What OnesCount64 computes, step by step. -/
theorem pop_law (x : Nat) (hx : x < 18446744073709551616) : ∃ y1 y2 y3 : Nat, (x / 2 &&& 6148914691236517205) + (x &&& 6148914691236517205) = y1 ∧ y1 < 18446744073709551616 ∧
    (y1 / 4 &&& 3689348814741910323) + (y1 &&& 3689348814741910323) = y2 ∧ y2 < 18446744073709551616 ∧ y2 / 16 + y2 < 18446744073709551616 ∧
    (y2 / 16 + y2) &&& 1085102592571150095 = y3 ∧ y3 + y3 / 256 < 18446744073709551616 ∧
    (y3 + y3 / 256) + (y3 + y3 / 256) / 65536 < 18446744073709551616 ∧
    ((y3 + y3 / 256) + (y3 + y3 / 256) / 65536) + ((y3 + y3 / 256) + (y3 + y3 / 256) / 65536) / 4294967296 < 9223372036854775808 ∧
    (((y3 + y3 / 256) + (y3 + y3 / 256) / 65536) + ((y3 + y3 / 256) + (y3 + y3 / 256) / 65536) / 4294967296) % 128 = pc 64 x := by
  obtain ⟨b0, b1, b2, b3, b4, b5, b6, b7, ⟨h0, h1, h2, h3, h4, h5, h6, h7⟩, rfl⟩ := bytes_of x hx
  have e1 := step1 [b0, b1, b2, b3, b4, b5, b6, b7] (by simp [h0, h1, h2, h3, h4, h5, h6, h7])
  obtain ⟨⟨p0, q0⟩, r0, s0⟩ := byte_pc b0 h0
  obtain ⟨⟨p1, q1⟩, r1, s1⟩ := byte_pc b1 h1
  obtain ⟨⟨p2, q2⟩, r2, s2⟩ := byte_pc b2 h2
  obtain ⟨⟨p3, q3⟩, r3, s3⟩ := byte_pc b3 h3
  obtain ⟨⟨p4, q4⟩, r4, s4⟩ := byte_pc b4 h4
  obtain ⟨⟨p5, q5⟩, r5, s5⟩ := byte_pc b5 h5
  obtain ⟨⟨p6, q6⟩, r6, s6⟩ := byte_pc b6 h6
  obtain ⟨⟨p7, q7⟩, r7, s7⟩ := byte_pc b7 h7
  have e2 := step2 ([b0, b1, b2, b3, b4, b5, b6, b7].map g1) (by simp [p0, p1, p2, p3, p4, p5, p6, p7])
  have e3 := step3 (([b0, b1, b2, b3, b4, b5, b6, b7].map g1).map g2) (by simp [q0, q1, q2, q3, q4, q5, q6, q7])
  have hp : pc 64 (bval [b0, b1, b2, b3, b4, b5, b6, b7]) = pc 8 b0 + (pc 8 b1 + (pc 8 b2 + (pc 8 b3 + (pc 8 b4 + (pc 8 b5 + (pc 8 b6 + (pc 8 b7 + pc 0 0))))))) := by
    simp only [bval]
    rw [show 64 = 8 + (8 + (8 + (8 + (8 + (8 + (8 + (8 + 0))))))) by decide, pc_cons _ _ _ h0, pc_cons _ _ _ h1, pc_cons _ _ _ h2, pc_cons _ _ _ h3, pc_cons _ _ _ h4, pc_cons _ _ _ h5, pc_cons _ _ _ h6, pc_cons _ _ _ h7]
  have hz : pc 0 0 = 0 := by decide
  simp only [bmask, List.map_cons, List.map_nil, r0, r1, r2, r3, r4, r5, r6, r7] at e1 e2 e3
  rw [show bval [85, 85, 85, 85, 85, 85, 85, 85] = 6148914691236517205 by decide +kernel] at e1
  rw [show bval [51, 51, 51, 51, 51, 51, 51, 51] = 3689348814741910323 by decide +kernel] at e2
  rw [show bval [15, 15, 15, 15, 15, 15, 15, 15] = 1085102592571150095 by decide +kernel] at e3
  rw [hp, hz]
  have u1 : bval [g1 b0, g1 b1, g1 b2, g1 b3, g1 b4, g1 b5, g1 b6, g1 b7] < 18446744073709551616 := bv_lt _ _ _ _ _ _ _ _ p0 p1 p2 p3 p4 p5 p6 p7
  have u2 : bval [g2 (g1 b0), g2 (g1 b1), g2 (g1 b2), g2 (g1 b3), g2 (g1 b4), g2 (g1 b5), g2 (g1 b6), g2 (g1 b7)] ≤ 4919131752989213764 := bv_le _ _ _ _ _ _ _ _ q0.1 q1.1 q2.1 q3.1 q4.1 q5.1 q6.1 q7.1
  generalize bval [b0, b1, b2, b3, b4, b5, b6, b7] = x0 at e1 ⊢
  generalize bval [g1 b0, g1 b1, g1 b2, g1 b3, g1 b4, g1 b5, g1 b6, g1 b7] = y1 at e1 e2 u1
  generalize bval [g2 (g1 b0), g2 (g1 b1), g2 (g1 b2), g2 (g1 b3), g2 (g1 b4), g2 (g1 b5), g2 (g1 b6), g2 (g1 b7)] = y2 at e2 e3 u2
  generalize hy : bval [pc 8 b0, pc 8 b1, pc 8 b2, pc 8 b3, pc 8 b4, pc 8 b5, pc 8 b6, pc 8 b7] = y3 at e3
  refine ⟨y1, y2, y3, e1, u1, e2, by clear e1 e2 e3; omega, by clear e1 e2 e3; omega, e3, ?_⟩
  exact bv_sum _ _ _ _ _ _ _ _ _ s0 s1 s2 s3 s4 s5 s6 s7 hy
end Go.Proofs.YtlpgcfgnimchaaaDoor
