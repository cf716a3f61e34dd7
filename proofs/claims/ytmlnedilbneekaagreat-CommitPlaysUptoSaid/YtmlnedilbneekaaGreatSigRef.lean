/- The document's Has and With. -/
import Derived.Test.YtmlnedilbneekaaGreatSigMeets
namespace Go.Proofs.YtmlnedilbneekaaGreat
open Go.RowKit
set_option linter.unusedVariables false
def Sg.has (s : Sg) (k : Nat) : Bool := if k < 64 then s.a.testBit k else s.b.testBit (k - 64)
theorem int_u64 {a b : Int} (h : a = b) : Value.int .u64 a = Value.int .u64 b := by rw [h]
theorem bit_test (m j : Nat) (y : Nat) (hy : y = m / 2 ^ j) : ((y : Int) % 2 == 1) = m.testBit j := by
 rw [Nat.testBit_eq_decide_div_mod_eq,← hy]
 rw [Bool.eq_iff_iff]
 simp
 omega
theorem has_lo (w : World) (a b : Nat) (ha : a < 18446744073709551616) (k : Nat) (hk : k < 64) :
 Calls Tryz.prog 147 #[.agg #[.int .u64 (a : Int),.int .u64 (b : Int)],.int .i64 (k : Int)] w fun e w' => e = .returned (.bool (a.testBit k)) ∧ Keeps [] w w' := by
 have d1 : (k : Int) / 64 = 0 := by omega
 have d2 : (k : Int) % 64 = (k : Int) := by omega
 have d3 : k / 64 = 0 := by omega
 go_enter Tryz.func147,Tryz.ntmps147
 go_wp2
 go_loop [5,6] (fun x i => ∃ j y : Nat,j ≤ k ∧ i = .int .i64 j ∧ x = .int .u64 (y : Int) ∧ Hid (y = a / 2 ^ j) ∧ y < 18446744073709551616) (fun _ i => k - (intOf i).toNat)
 case atStart => exact ⟨0,a,Nat.zero_le _,rfl,rfl,by unfold Hid; simp,ha⟩
 case round =>
  obtain ⟨j,y,hj,rfl,rfl,hy,hyl⟩ := hrel
  by_cases hlt : j < k
  · have hlti : (j : Int) < (k : Int) := by omega
    go_wp2
    go_round
    case rel => exact ⟨j + 1,y / 2,by omega,by go_num,int_u64 (by omega),by unfold Hid; rw [hy.out,Nat.pow_succ,Nat.div_div_eq_div_mul],by omega⟩
    case measure => simp [intOf]; omega
  ·
   have hge : ¬ (j : Int) < (k : Int) := by omega
   have e : j = k := by omega
   subst e
   have hbt := bit_test a j y hy.out
   obtain ⟨β,hβ⟩ : ∃ β,a.testBit j = β := ⟨_,rfl⟩
   rw [hβ] at hbt
   have HB := Lib.hid hβ
   clear hβ
   cases β
   · go_wp2
     go_ret
     exact ⟨by rw [HB.out]; rfl,by simp⟩
   · go_wp2
     go_ret
     exact ⟨by rw [HB.out]; rfl,by simp⟩
theorem has_hi (w : World) (a b : Nat) (hb : b < 18446744073709551616) (k : Nat) (hk : k < 64) :
 Calls Tryz.prog 147 #[.agg #[.int .u64 (a : Int),.int .u64 (b : Int)],.int .i64 ((k : Int) + 64)] w fun e w' => e = .returned (.bool (b.testBit k)) ∧ Keeps [] w w' := by
 have d1 : ((k : Int) + 64) / 64 = 1 := by omega
 have d2 : ((k : Int) + 64) % 64 = (k : Int) := by omega
 have d3 : (k + 64) / 64 = 1 := by omega
 go_enter Tryz.func147,Tryz.ntmps147
 go_wp2
 go_loop [5,6] (fun x i => ∃ j y : Nat,j ≤ k ∧ i = .int .i64 j ∧ x = .int .u64 (y : Int) ∧ Hid (y = b / 2 ^ j) ∧ y < 18446744073709551616) (fun _ i => k - (intOf i).toNat)
 case atStart => exact ⟨0,b,Nat.zero_le _,rfl,rfl,by unfold Hid; simp,hb⟩
 case round =>
  obtain ⟨j,y,hj,rfl,rfl,hy,hyl⟩ := hrel
  by_cases hlt : j < k
  · have hlti : (j : Int) < (k : Int) := by omega
    go_wp2
    go_round
    case rel => exact ⟨j + 1,y / 2,by omega,by go_num,int_u64 (by omega),by unfold Hid; rw [hy.out,Nat.pow_succ,Nat.div_div_eq_div_mul],by omega⟩
    case measure => simp [intOf]; omega
  ·
   have hge : ¬ (j : Int) < (k : Int) := by omega
   have e : j = k := by omega
   subst e
   have hbt := bit_test b j y hy.out
   obtain ⟨β,hβ⟩ : ∃ β,b.testBit j = β := ⟨_,rfl⟩
   rw [hβ] at hbt
   have HB := Lib.hid hβ
   clear hβ
   cases β
   · go_wp2
     go_ret
     exact ⟨by rw [HB.out]; rfl,by simp⟩
   · go_wp2
     go_ret
     exact ⟨by rw [HB.out]; rfl,by simp⟩
theorem has_any (w : World) (s : Sg) (hs : s.ok) (k : Nat) (hk : k < 128) :
 Calls Tryz.prog 147 #[s.val,.int .i64 (k : Int)] w fun e w' => e = .returned (.bool (s.has k)) ∧ Keeps [] w w' := by
 by_cases h : k < 64
 · have := has_lo w s.a s.b hs.1 k h
   simpa only [Sg.has,h,if_true,Sg.val] using this
 · have := has_hi w s.a s.b hs.2 (k - 64) (by omega)
   rw [show ((k - 64 : Nat) : Int) + 64 = (k : Int) by omega] at this
   simpa only [Sg.has,h,if_false,Sg.val] using this
theorem or_same (m k : Nat) (h : m.testBit k = true) : m ||| 2 ^ k = m := by
 apply Nat.eq_of_testBit_eq
 intro i
 rw [Nat.testBit_or,Nat.testBit_two_pow]
 by_cases e : k = i
 · subst e; simp [h]
 · simp [e]
theorem Sg.set_same (s : Sg) (k : Nat) (h : s.has k = true) : s.set k = s := by
 unfold Sg.has at h
 unfold Sg.set
 split <;> rename_i hk <;> simp only [hk,if_true,if_false] at h
 · rw [or_same _ _ h]
 · rw [or_same _ _ h]
theorem add_or (m k : Nat) (hm : m < 18446744073709551616) (hk : k < 64) (h : m.testBit k = false) : m + 2 ^ k = m ||| 2 ^ k ∧ m + 2 ^ k < 18446744073709551616 := by
 have hp := pow_lt64 k hk
 have h0 : m &&& 2 ^ k = 0 := by
  apply Nat.eq_of_testBit_eq
  intro i
  rw [Nat.testBit_and,Nat.testBit_two_pow]
  by_cases e : k = i
  · subst e; simp [h]
  · simp [e]
 have e : m + 2 ^ k = m ||| 2 ^ k := by
  have hv : BitVec.ofNat 65 m &&& BitVec.ofNat 65 (2 ^ k) = 0#65 := by
   apply BitVec.eq_of_toNat_eq
   rw [BitVec.toNat_and,BitVec.toNat_ofNat,BitVec.toNat_ofNat,Nat.mod_eq_of_lt (by omega),Nat.mod_eq_of_lt (by omega),h0]
   rfl
  have h1 := congrArg BitVec.toNat (BitVec.add_eq_or_of_and_eq_zero _ _ hv)
  rw [BitVec.toNat_add,BitVec.toNat_or,BitVec.toNat_ofNat,BitVec.toNat_ofNat,Nat.mod_eq_of_lt (a := m) (by omega),Nat.mod_eq_of_lt (a := 2 ^ k) (by omega),Nat.mod_eq_of_lt (by omega)] at h1
  exact h1
 exact ⟨e,e ▸ or_lt _ _ hm hp⟩
set_option maxHeartbeats 400000 in
theorem with_lo (w : World) (a b : Nat) (ha : a < 18446744073709551616) (hb : b < 18446744073709551616) (k : Nat) (hk : k < 64) (hbit : a.testBit k = false) :
 Calls Tryz.prog 151 #[.agg #[.int .u64 (a : Int),.int .u64 (b : Int)],.int .i64 (k : Int)] w fun e w' => e = .returned (.agg #[.int .u64 ((a + 2 ^ k : Nat) : Int),.int .u64 (b : Int)]) ∧ Keeps [] w w' := by
 have d1 : (k : Int) / 64 = 0 := by omega
 have d2 : (k : Int) % 64 = (k : Int) := by omega
 have d3 : (k) / 64 = 0 := by omega
 obtain ⟨hadd,haddl⟩ := add_or a k (by assumption) hk hbit
 have HA := Lib.hid haddl
 have HH := Lib.hid (show (⟨a,b⟩ : Sg).has (k) = false by simpa [Sg.has,hk] using hbit)
 clear hadd haddl hbit
 go_enter Tryz.func151,Tryz.ntmps151
 go_wp2_with fail
 refine (has_any _ ⟨a,b⟩ ⟨ha,hb⟩ (k) (by omega)).mono ?_
 rintro e w1 ⟨rfl,hk1⟩
 rw [HH.out]
 have hb1 : Blk w1 w.heap.size 47 #[.int .u64 (a : Int),.int .u64 (b : Int)] := ((Blk.new w _ _).alloc _).keeps hk1 (by simp)
 have hb2 : Blk w1 (w.heap.size + 1) 47 #[.int .u64 0,.int .u64 0] := Blk.keeps (w := (w.alloc (.cells #[.int .u64 (a : Int),.int .u64 (b : Int)] 47)).alloc (.cells #[.int .u64 0,.int .u64 0] 47)) (new_at _ _ _ (by simp)) hk1 (by simp)
 have c0 : w1.cell? ⟨w.heap.size,0,none⟩ = some (.int .u64 (a : Int)) := (hb1.cell 0).trans rfl
 have c1 : w1.cell? ⟨w.heap.size,1,none⟩ = some (.int .u64 (b : Int)) := (hb1.cell 1).trans rfl
 have f0 := hb1.frozen 0
 have r0 : w1.cell? ⟨w.heap.size + 1,0,none⟩ = some (.int .u64 0) := (hb2.cell 0).trans rfl
 have r1 : w1.cell? ⟨w.heap.size + 1,1,none⟩ = some (.int .u64 0) := (hb2.cell 1).trans rfl
 have g0 := hb2.frozen 0
 have g1 := hb2.frozen 1
 have HK1 : Hid (Keeps [] w w1) := ((((Keeps.refl [] w).alloc _).alloc _).trans hk1 (by simp))
 clear hb1 hb2 hk1
 go_wp2_with fail
 go_loop [5,6] (fun x i => ∃ j y : Nat,j ≤ k ∧ i = .int .i64 j ∧ x = .int .u64 (y : Int) ∧ Hid (y = 2 ^ j)) (fun _ i => k - (intOf i).toNat)
 case atStart => exact ⟨0,1,Nat.zero_le _,rfl,rfl,rfl⟩
 case round =>
  obtain ⟨j,y,hj,rfl,rfl,hy⟩ := hrel
  by_cases hlt : j < k
  ·
   have hlti : (j : Int) < (k : Int) := by omega
   have hyb : (y : Int) ≤ 4611686018427387904 := by
    have h1 : 2 ^ j ≤ 2 ^ 62 := Nat.pow_le_pow_right (by omega) (by omega)
    rw [← hy.out] at h1
    have : (2 : Nat) ^ 62 = 4611686018427387904 := by decide
    omega
   go_wp2
   go_round
   case rel => exact ⟨j + 1,y * 2,by omega,by go_num,int_u64 (by omega),by unfold Hid; rw [hy.out,Nat.pow_succ]⟩
   case measure => simp [intOf]; omega
  ·
   have hge : ¬ (j : Int) < (k : Int) := by omega
   have e : j = k := by omega
   subst e
   have hyw : (a : Int) + (y : Int) < 18446744073709551616 := by have := HA.out; rw [← hy.out] at this; omega
   have hy0 : (0 : Int) ≤ (a : Int) + (y : Int) := by omega
   go_wp2
   refine bodyPost_ret (v := .agg #[.int .u64 ((a : Int) + (y : Int)),.int .u64 (b : Int)]) (by simp [results,Tryz.results151,go_sem,r0,r1]) rfl ⟨?_,?_⟩
   · have e : (y : Int) = (2 : Int) ^ j := by rw [hy.out]; simp
     rw [e]
   · repeat (first | exact HK1.out | refine Keeps.setCell ?_ (.inr (by first | exact Nat.le_refl _ | exact Nat.le_succ _)) _)
set_option maxHeartbeats 400000 in
theorem with_hi (w : World) (a b : Nat) (ha : a < 18446744073709551616) (hb : b < 18446744073709551616) (k : Nat) (hk : k < 64) (hbit : b.testBit k = false) :
 Calls Tryz.prog 151 #[.agg #[.int .u64 (a : Int),.int .u64 (b : Int)],.int .i64 ((k : Int) + 64)] w fun e w' => e = .returned (.agg #[.int .u64 (a : Int),.int .u64 ((b + 2 ^ k : Nat) : Int)]) ∧ Keeps [] w w' := by
 have d1 : ((k : Int) + 64) / 64 = 1 := by omega
 have d2 : ((k : Int) + 64) % 64 = (k : Int) := by omega
 have d3 : (k + 64) / 64 = 1 := by omega
 obtain ⟨hadd,haddl⟩ := add_or b k (by assumption) hk hbit
 have HA := Lib.hid haddl
 have HH := Lib.hid (show (⟨a,b⟩ : Sg).has (k + 64) = false by simpa [Sg.has,show ¬ k + 64 < 64 by omega] using hbit)
 clear hadd haddl hbit
 go_enter Tryz.func151,Tryz.ntmps151
 go_wp2_with fail
 refine (has_any _ ⟨a,b⟩ ⟨ha,hb⟩ (k + 64) (by omega)).mono ?_
 rintro e w1 ⟨rfl,hk1⟩
 rw [HH.out]
 have hb1 : Blk w1 w.heap.size 47 #[.int .u64 (a : Int),.int .u64 (b : Int)] := ((Blk.new w _ _).alloc _).keeps hk1 (by simp)
 have hb2 : Blk w1 (w.heap.size + 1) 47 #[.int .u64 0,.int .u64 0] := Blk.keeps (w := (w.alloc (.cells #[.int .u64 (a : Int),.int .u64 (b : Int)] 47)).alloc (.cells #[.int .u64 0,.int .u64 0] 47)) (new_at _ _ _ (by simp)) hk1 (by simp)
 have c0 : w1.cell? ⟨w.heap.size,0,none⟩ = some (.int .u64 (a : Int)) := (hb1.cell 0).trans rfl
 have c1 : w1.cell? ⟨w.heap.size,1,none⟩ = some (.int .u64 (b : Int)) := (hb1.cell 1).trans rfl
 have f0 := hb1.frozen 1
 have r0 : w1.cell? ⟨w.heap.size + 1,0,none⟩ = some (.int .u64 0) := (hb2.cell 0).trans rfl
 have r1 : w1.cell? ⟨w.heap.size + 1,1,none⟩ = some (.int .u64 0) := (hb2.cell 1).trans rfl
 have g0 := hb2.frozen 0
 have g1 := hb2.frozen 1
 have HK1 : Hid (Keeps [] w w1) := ((((Keeps.refl [] w).alloc _).alloc _).trans hk1 (by simp))
 clear hb1 hb2 hk1
 go_wp2_with fail
 go_loop [5,6] (fun x i => ∃ j y : Nat,j ≤ k ∧ i = .int .i64 j ∧ x = .int .u64 (y : Int) ∧ Hid (y = 2 ^ j)) (fun _ i => k - (intOf i).toNat)
 case atStart => exact ⟨0,1,Nat.zero_le _,rfl,rfl,rfl⟩
 case round =>
  obtain ⟨j,y,hj,rfl,rfl,hy⟩ := hrel
  by_cases hlt : j < k
  ·
   have hlti : (j : Int) < (k : Int) := by omega
   have hyb : (y : Int) ≤ 4611686018427387904 := by
    have h1 : 2 ^ j ≤ 2 ^ 62 := Nat.pow_le_pow_right (by omega) (by omega)
    rw [← hy.out] at h1
    have : (2 : Nat) ^ 62 = 4611686018427387904 := by decide
    omega
   go_wp2
   go_round
   case rel => exact ⟨j + 1,y * 2,by omega,by go_num,int_u64 (by omega),by unfold Hid; rw [hy.out,Nat.pow_succ]⟩
   case measure => simp [intOf]; omega
  ·
   have hge : ¬ (j : Int) < (k : Int) := by omega
   have e : j = k := by omega
   subst e
   have hyw : (b : Int) + (y : Int) < 18446744073709551616 := by have := HA.out; rw [← hy.out] at this; omega
   have hy0 : (0 : Int) ≤ (b : Int) + (y : Int) := by omega
   go_wp2
   refine bodyPost_ret (v := .agg #[.int .u64 (a : Int),.int .u64 ((b : Int) + (y : Int))]) (by simp [results,Tryz.results151,go_sem,r0,r1]) rfl ⟨?_,?_⟩
   · have e : (y : Int) = (2 : Int) ^ j := by rw [hy.out]; simp
     rw [e]
   · repeat (first | exact HK1.out | refine Keeps.setCell ?_ (.inr (by first | exact Nat.le_refl _ | exact Nat.le_succ _)) _)
theorem with_any (w : World) (s : Sg) (hs : s.ok) (k : Nat) (hk : k < 128) :
 Calls Tryz.prog 151 #[s.val,.int .i64 (k : Int)] w fun e w' => e = .returned (s.set k).val ∧ Keeps [] w w' := by
 by_cases hh : s.has k = true
 ·
  rw [s.set_same k hh]
  have HH := Lib.hid hh
  have HS := Lib.hid hs
  obtain ⟨a,b⟩ := s
  clear hh
  unfold Sg.val
  go_enter Tryz.func151,Tryz.ntmps151
  go_wp2_with fail
  refine (has_any _ ⟨a,b⟩ HS.out k hk).mono ?_
  rintro e w1 ⟨rfl,hk1⟩
  rw [HH.out]
  have hb1 : Blk w1 w.heap.size 47 #[.int .u64 (a : Int),.int .u64 (b : Int)] := ((Blk.new w _ _).alloc _).keeps hk1 (by simp)
  have hb2 : Blk w1 (w.heap.size + 1) 47 #[.int .u64 0,.int .u64 0] := Blk.keeps (w := (w.alloc (.cells #[.int .u64 (a : Int),.int .u64 (b : Int)] 47)).alloc (.cells #[.int .u64 0,.int .u64 0] 47)) (new_at _ _ _ (by simp)) hk1 (by simp)
  have c0 : w1.cell? ⟨w.heap.size,0,none⟩ = some (.int .u64 (a : Int)) := (hb1.cell 0).trans rfl
  have c1 : w1.cell? ⟨w.heap.size,1,none⟩ = some (.int .u64 (b : Int)) := (hb1.cell 1).trans rfl
  have r0 : w1.cell? ⟨w.heap.size + 1,0,none⟩ = some (.int .u64 0) := (hb2.cell 0).trans rfl
  have r1 : w1.cell? ⟨w.heap.size + 1,1,none⟩ = some (.int .u64 0) := (hb2.cell 1).trans rfl
  have g0 := hb2.frozen 0
  have g1 := hb2.frozen 1
  have HK1 : Hid (Keeps [] w w1) := ((((Keeps.refl [] w).alloc _).alloc _).trans hk1 (by simp))
  clear hb1 hb2 hk1
  go_wp2
  refine bodyPost_ret (v := .agg #[.int .u64 (a : Int),.int .u64 (b : Int)]) (by simp [results,Tryz.results151,go_sem,r0,r1]) rfl ⟨rfl,?_⟩
  repeat (first | exact HK1.out | refine Keeps.setCell ?_ (.inr (by first | exact Nat.le_refl _ | exact Nat.le_succ _)) _)
 ·
  by_cases h : k < 64
  · have hf : s.a.testBit k = false := by simpa [Sg.has,h] using hh
    have := with_lo w s.a s.b hs.1 hs.2 k h hf
    rw [(add_or s.a k hs.1 h hf).1] at this
    simpa only [Sg.set,h,if_true,Sg.val] using this
  · have hf : s.b.testBit (k - 64) = false := by simpa [Sg.has,h] using hh
    have := with_hi w s.a s.b hs.1 hs.2 (k - 64) (by omega) hf
    rw [(add_or s.b (k - 64) hs.2 (by omega) hf).1,show ((k - 64 : Nat) : Int) + 64 = (k : Int) by omega] at this
    simpa only [Sg.set,h,if_false,Sg.val] using this
end Go.Proofs.YtmlnedilbneekaaGreat