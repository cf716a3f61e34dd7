/- sig.Meets, Within, Touched. -/
import Derived.Test.YtmlnedilbneekaaGreatMake
import Derived.Test.YtmlnedilbneekaaGreatProg
import Derived.Outline
import Derived.Handy
import Derived.Laws.Bits64
import Derived.Laws.Bits64b
import Derived.Laws.ShiftsVarLaws
import Derived.RegionTactic
import Derived.BigRegion
import Derived.Laws.StructEq
namespace Go.Proofs.YtmlnedilbneekaaGreat
open Go.RowKit
set_option linter.unusedVariables false
def hA (c n : Int) : Int := (c + 1) * 40503 % 65536 * n / 65536
def hB (c n : Int) : Int := (c + 1) * 30011 % 65536 * n / 65536
theorem mul_rng (x n : Int) (h0 : 0 ≤ x) (h1 : x ≤ 65535) (h2 : 1 ≤ n) (h3 : n ≤ 128) : 0 ≤ x * n ∧ x * n ≤ 65535 * n := by
 exact ⟨Int.mul_nonneg h0 (by omega),Int.mul_le_mul_of_nonneg_right h1 (by omega)⟩
theorem hA_rng (c n : Int) (h2 : 1 ≤ n) (h3 : n ≤ 128) : 0 ≤ hA c n ∧ hA c n < n := by
 have := mul_rng ((c + 1) * 40503 % 65536) n (by omega) (by omega) h2 h3
 unfold hA
 omega
theorem hB_rng (c n : Int) (h2 : 1 ≤ n) (h3 : n ≤ 128) : 0 ≤ hB c n ∧ hB c n < n := by
 have := mul_rng ((c + 1) * 30011 % 65536) n (by omega) (by omega) h2 h3
 unfold hB
 omega
theorem hash_ok (w : World) (c n : Int) (c0 : 0 ≤ c) (c1 : c ≤ 255) (n0 : 1 ≤ n) (n1 : n ≤ 128) :
 Calls Tryz.prog 190 #[.int .i64 c,.int .i64 n] w fun e w' => e = .returned (.tuple #[.int .i64 (hA c n),.int .i64 (hB c n),.int .i64 0]) ∧ w = w' := by
 have m1 := mul_rng ((c + 1) * 40503 % 65536) n (by omega) (by omega) n0 n1
 have m2 := mul_rng ((c + 1) * 30011 % 65536) n (by omega) (by omega) n0 n1
 obtain ⟨p1,p2⟩ := m1
 obtain ⟨q1,q2⟩ := m2
 go_enter Tryz.func190,Tryz.ntmps190
 go_wp2
 go_ret3
 exact ⟨rfl,rfl⟩
theorem hash_place (w : World) (c n : Int) (n0 : 1 ≤ n) (n1 : n ≤ 128) (hc : c < 0 ∨ 255 < c) :
 Calls Tryz.prog 190 #[.int .i64 c,.int .i64 n] w fun e w' => e = .returned (.tuple #[.int .i64 0,.int .i64 0,.int .i64 2]) ∧ w = w' := by
 rcases hc with hc | hc
 · go_enter Tryz.func190,Tryz.ntmps190
   go_wp2
   go_ret3
   exact ⟨rfl,rfl⟩
 · have h1 : decide (c < 0) = false := by simp; omega
   go_enter Tryz.func190,Tryz.ntmps190
   go_wp2
   go_ret3
   exact ⟨rfl,rfl⟩
theorem rhash_ok (w : World) (c n : Int) (c0 : 0 ≤ c) (c1 : c ≤ 255) (n0 : 1 ≤ n) (n1 : n ≤ 128) :
 Calls Tryz.prog 150 #[.int .i64 c,.int .i64 n] w fun e w' => e = .returned (.tuple #[.int .i64 (hA c n),.int .i64 (hB c n),.int .i64 0]) ∧ w = w' := by
 have m1 := mul_rng ((c + 1) * 40503 % 65536) n (by omega) (by omega) n0 n1
 have m2 := mul_rng ((c + 1) * 30011 % 65536) n (by omega) (by omega) n0 n1
 obtain ⟨p1,p2⟩ := m1
 obtain ⟨q1,q2⟩ := m2
 go_enter Tryz.func150,Tryz.ntmps150
 go_wp2
 go_ret3
 exact ⟨rfl,rfl⟩
theorem rhash_place (w : World) (c n : Int) (n0 : 1 ≤ n) (n1 : n ≤ 128) (hc : c < 0 ∨ 255 < c) :
 Calls Tryz.prog 150 #[.int .i64 c,.int .i64 n] w fun e w' => e = .returned (.tuple #[.int .i64 0,.int .i64 0,.int .i64 2]) ∧ w = w' := by
 rcases hc with hc | hc
 · go_enter Tryz.func150,Tryz.ntmps150
   go_wp2
   go_ret3
   exact ⟨rfl,rfl⟩
 · have h1 : decide (c < 0) = false := by simp; omega
   go_enter Tryz.func150,Tryz.ntmps150
   go_wp2
   go_ret3
   exact ⟨rfl,rfl⟩
open Go.RowKit
structure Sg where
 a : Nat
 b : Nat
def Sg.ok (s : Sg) : Prop := s.a < 18446744073709551616 ∧ s.b < 18446744073709551616
def Sg.val (s : Sg) : Value := .agg #[.int .u64 (s.a : Int),.int .u64 (s.b : Int)]
def Sg.set (s : Sg) (k : Nat) : Sg := if k < 64 then ⟨s.a ||| 2 ^ k,s.b⟩ else ⟨s.a,s.b ||| 2 ^ (k - 64)⟩
def Sg.zero : Sg := ⟨0,0⟩
theorem pow_lt64 (k : Nat) (hk : k < 64) : 2 ^ k < 18446744073709551616 := by
 have := Nat.pow_lt_pow_of_lt (a := 2) (by omega) hk
 exact this
theorem wrap_pow (k : Nat) (hk : k < 64) : IntKind.u64.wrap ((2 : Int) ^ k) = (2 : Int) ^ k := by
 have h := pow_lt64 k hk
 have e : ((2 : Int) ^ k) = ((2 ^ k : Nat) : Int) := by simp
 rw [e,IntKind.wrap_u64]
 exact Int.emod_eq_of_lt (Int.natCast_nonneg _) (by have : ((2 ^ k : Nat) : Int) < ((18446744073709551616 : Nat) : Int) := Int.ofNat_lt.2 h; exact this)
theorem or_pow (a k : Nat) (ha : a < 18446744073709551616) (hk : k < 64) : bits BinOp.or IntKind.u64 (a : Int) ((2 : Int) ^ k) = ((a ||| 2 ^ k : Nat) : Int) := by
 have e : ((2 : Int) ^ k) = ((2 ^ k : Nat) : Int) := by simp
 rw [e,bits_or_u64_nat a _ ha (pow_lt64 k hk)]
theorem or_lt (a b : Nat) (ha : a < 18446744073709551616) (hb : b < 18446744073709551616) : a ||| b < 18446744073709551616 := Nat.or_lt_two_pow (n := 64) ha hb
theorem Sg.set_ok (s : Sg) (h : s.ok) (k : Nat) (hk : k < 128) : (s.set k).ok := by
 unfold Sg.set Sg.ok
 obtain ⟨h1,h2⟩ := h
 split
 · exact ⟨or_lt _ _ h1 (pow_lt64 _ (by omega)),h2⟩
 · exact ⟨h1,or_lt _ _ h2 (pow_lt64 _ (by omega))⟩
theorem set_lo (w : World) (a b : Nat) (ha : a < 18446744073709551616) (k : Nat) (hk : k < 64) :
 Calls Tryz.prog 191 #[.agg #[.int .u64 (a : Int),.int .u64 (b : Int)],.int .i64 (k : Int)] w fun e w' => e = .returned (.agg #[.int .u64 ((a ||| 2 ^ k : Nat) : Int),.int .u64 (b : Int)]) ∧ Keeps [] w w' := by
 have hor := or_pow a k ha hk
 have hwp := wrap_pow k hk
 have d1 : (k : Int) / 64 = 0 := by omega
 have d2 : (k : Int) % 64 = (k : Int) := by omega
 have d3 : k / 64 = 0 := by omega
 have d4 : k % 64 = k := by omega
 obtain ⟨x,hx⟩ : ∃ x,x = a ||| 2 ^ k := ⟨_,rfl⟩
 rw [← hx] at hor ⊢
 clear hx
 go_enter Tryz.func191,Tryz.ntmps191
 go_wp2
 go_region
 go_wp2
 exact bodyPost_ret (v := .agg #[.int .u64 (x : Int),.int .u64 (b : Int)]) (by simp [results,Tryz.results191,go_sem]) rfl ⟨rfl,((Sq.r.alloc _).alloc _).drew⟩
theorem set_hi (w : World) (a b : Nat) (hb : b < 18446744073709551616) (k : Nat) (hk : k < 64) :
 Calls Tryz.prog 191 #[.agg #[.int .u64 (a : Int),.int .u64 (b : Int)],.int .i64 ((k : Int) + 64)] w fun e w' => e = .returned (.agg #[.int .u64 (a : Int),.int .u64 ((b ||| 2 ^ k : Nat) : Int)]) ∧ Keeps [] w w' := by
 have hor := or_pow b k hb hk
 have hwp := wrap_pow k hk
 have d1 : ((k : Int) + 64) / 64 = 1 := by omega
 have d2 : ((k : Int) + 64) % 64 = (k : Int) := by omega
 have d3 : (k + 64) / 64 = 1 := by omega
 have d4 : (k + 64) % 64 = k := by omega
 obtain ⟨x,hx⟩ : ∃ x,x = b ||| 2 ^ k := ⟨_,rfl⟩
 rw [← hx] at hor ⊢
 clear hx
 go_enter Tryz.func191,Tryz.ntmps191
 go_wp2
 go_region
 go_wp2
 exact bodyPost_ret (v := .agg #[.int .u64 (a : Int),.int .u64 (x : Int)]) (by simp [results,Tryz.results191,go_sem]) rfl ⟨rfl,((Sq.r.alloc _).alloc _).drew⟩
theorem set_any (w : World) (s : Sg) (hs : s.ok) (k : Nat) (hk : k < 128) :
 Calls Tryz.prog 191 #[s.val,.int .i64 (k : Int)] w fun e w' => e = .returned (s.set k).val ∧ Keeps [] w w' := by
 by_cases h : k < 64
 · have := set_lo w s.a s.b hs.1 k h
   simpa only [Sg.set,h,if_true,Sg.val] using this
 · have := set_hi w s.a s.b hs.2 (k - 64) (by omega)
   rw [show ((k - 64 : Nat) : Int) + 64 = (k : Int) by omega] at this
   simpa only [Sg.set,h,if_false,Sg.val] using this
open Go.RowKit
theorem sig_eq (w : World) (a b c d : Int) : (Op.equalIn 10000 47 (.agg #[.int .u64 a,.int .u64 b]) (.agg #[.int .u64 c,.int .u64 d])).run Tryz.prog w = .ok (a == c && b == d) w := by
 have hu : Tryz.prog.underlying 47 = some (.array 2 45) := by kernel_rfl
 have hp (x y : Value) : ∀ w,(part 45 #[x,y] 0).run Tryz.prog w = .ok x w := fun _ => by kernel_rfl
 have hq (x y : Value) : ∀ w,(part 45 #[x,y] 1).run Tryz.prog w = .ok y w := fun _ => by kernel_rfl
 have hs : ∀ w,(sizeOf 45).run Tryz.prog w = .ok 1 w := fun _ => by kernel_rfl
 have hi (x y : Int) : ∀ w,(Op.equalIn 9999 45 (.int .u64 x) (.int .u64 y)).run Tryz.prog w = .ok (x == y) w := fun w => run_equalIn_int w 9998 45 .u64 .u64 x y (by kernel_rfl)
 unfold Op.equalIn
 simp only [Sem.run_bind,run_underlying hu,Result.andThen_ok,hs]
 simp
 have hr : List.range' 0 2 = [0,1] := by decide
 rw [hr]
 simp only [List.forIn_cons,List.forIn_nil,Sem.run_bind,hp,hi,Result.andThen_ok]
 cases h1 : (a == c) <;> cases h2 : (b == d) <;> simp [Sem.run_bind,hq,hi,h2]
open Go.RowKit
def Sg.meet (s t : Sg) : Sg := ⟨s.a &&& t.a,s.b &&& t.b⟩
def St3 (w : World) (p q c d : Nat) (wr : World) : Prop :=
 Blk wr w.heap.size 47 #[.int .u64 (p : Int),.int .u64 (q : Int)] ∧ Blk wr (w.heap.size + 1) 47 #[.int .u64 (c : Int),.int .u64 (d : Int)] ∧ Blk wr (w.heap.size + 1 + 1) 47 #[.int .u64 0,.int .u64 0] ∧ Keeps [] w wr
theorem St3.start (w : World) (a b c d : Nat) : St3 w a b c d (((w.alloc (.cells #[.int .u64 (a : Int),.int .u64 (b : Int)] 47)).alloc (.cells #[.int .u64 (c : Int),.int .u64 (d : Int)] 47)).alloc (.cells #[.int .u64 0,.int .u64 0] 47)) :=
 ⟨((Blk.new _ _ _).alloc _).alloc _,Blk.alloc (new_at _ _ _ (by simp)) _,new_at _ _ _ (by simp),((Sq.r.alloc _).alloc _).alloc _⟩
theorem St3.cells {w wr : World} {p q c d : Nat} (h : St3 w p q c d wr) :
 wr.cell? ⟨w.heap.size,0,none⟩ = some (.int .u64 (p : Int)) ∧ wr.cell? ⟨w.heap.size,1,none⟩ = some (.int .u64 (q : Int)) ∧ wr.cell? ⟨w.heap.size + 1,0,none⟩ = some (.int .u64 (c : Int)) ∧ wr.cell? ⟨w.heap.size + 1,1,none⟩ = some (.int .u64 (d : Int)) ∧
 wr.cell? ⟨w.heap.size + 1 + 1,0,none⟩ = some (.int .u64 0) ∧ wr.cell? ⟨w.heap.size + 1 + 1,1,none⟩ = some (.int .u64 0) ∧ wr.frozen? ⟨w.heap.size,0,none⟩ = false ∧ wr.frozen? ⟨w.heap.size,1,none⟩ = false ∧ wr.frozen? ⟨w.heap.size + 1 + 1,0,none⟩ = false ∧ wr.frozen? ⟨w.heap.size + 1 + 1,1,none⟩ = false :=
 ⟨(h.1.cell 0).trans rfl,(h.1.cell 1).trans rfl,(h.2.1.cell 0).trans rfl,(h.2.1.cell 1).trans rfl,(h.2.2.1.cell 0).trans rfl,(h.2.2.1.cell 1).trans rfl,h.1.frozen 0,h.1.frozen 1,h.2.2.1.frozen 0,h.2.2.1.frozen 1⟩
theorem St3.set0 {w wr : World} {p q c d : Nat} (h : St3 w p q c d wr) (x : Nat) : St3 w x q c d (wr.setCell ⟨w.heap.size,0,none⟩ (.int .u64 (x : Int))).drew :=
 ⟨by simpa using (h.1.set_ 0 (.int .u64 (x : Int))).drew,(h.2.1.far (by simp) _).drew,(h.2.2.1.far (by simp; omega) _).drew,(h.2.2.2.setCell (.inr (Nat.le_refl _)) _).drew⟩
theorem St3.set1 {w wr : World} {p q c d : Nat} (h : St3 w p q c d wr) (x : Nat) : St3 w p x c d (wr.setCell ⟨w.heap.size,1,none⟩ (.int .u64 (x : Int))).drew :=
 ⟨by simpa using (h.1.set_ 1 (.int .u64 (x : Int))).drew,(h.2.1.far (by simp) _).drew,(h.2.2.1.far (by simp; omega) _).drew,(h.2.2.2.setCell (.inr (Nat.le_refl _)) _).drew⟩
set_option maxHeartbeats 1000000 in
theorem meet_any (w : World) (s t : Sg) (hs : s.ok) (ht : t.ok) :
 Calls Tryz.prog 156 #[s.val,t.val] w fun e w' => e = .returned (s.meet t).val ∧ Keeps [] w w' := by
 obtain ⟨a,b⟩ := s
 obtain ⟨c,d⟩ := t
 have o1 := bits_and_u64_nat a c hs.1 ht.1
 have o2 := bits_and_u64_nat b d hs.2 ht.2
 unfold Sg.meet Sg.val
 simp only at o1 o2 ⊢
 obtain ⟨x,hx⟩ : ∃ x,a &&& c = x := ⟨_,rfl⟩
 obtain ⟨y,hy⟩ : ∃ y,b &&& d = y := ⟨_,rfl⟩
 rw [hx] at o1 ⊢
 rw [hy] at o2 ⊢
 clear hs ht hx hy
 go_enter Tryz.func156,Tryz.ntmps156
 go_wp2
 go_loopw [6] (fun i wr => (i = .int .i64 0 ∧ St3 w a b c d wr) ∨ (i = .int .i64 1 ∧ St3 w x b c d wr) ∨ (i = .int .i64 2 ∧ St3 w x y c d wr)) (fun i _ => 2 - (intOf i).toNat)
 case atStart => exact .inl ⟨rfl,St3.start w a b c d⟩
 case round =>
  rcases hrel with ⟨rfl,h⟩ | ⟨rfl,h⟩ | ⟨rfl,h⟩
  ·
   obtain ⟨a0,a1,b0,b1,r0,r1,z0,z1,z2,z3⟩ := h.cells
   have H := Lib.hid h
   clear h
   go_wp2_with fail
   go_region
   go_wp2_with fail
   go_roundw
   case rel => exact .inr (.inl ⟨rfl,H.out.set0 x⟩)
   case measure => decide
  ·
   obtain ⟨a0,a1,b0,b1,r0,r1,z0,z1,z2,z3⟩ := h.cells
   have H := Lib.hid h
   clear h
   go_wp2_with fail
   go_region
   go_wp2_with fail
   go_roundw
   case rel => exact .inr (.inr ⟨rfl,H.out.set1 y⟩)
   case measure => decide
  · obtain ⟨a0,a1,b0,b1,r0,r1,z0,z1,z2,z3⟩ := h.cells
    have H := Lib.hid h
    clear h
    go_wp2_with fail
    refine bodyPost_ret (v := .agg #[.int .u64 (x : Int),.int .u64 (y : Int)]) (by simp [results,Tryz.results156,go_sem,r0,r1]) rfl ⟨rfl,?_⟩
    exact (H.out.2.2.2.setCell (.inr (by show _ ≤ _ + 1 + 1; omega)) _).setCell (.inr (by show _ ≤ _ + 1 + 1; omega)) _
open Go.RowKit
theorem and_lt (a b : Nat) (ha : a < 18446744073709551616) : a &&& b < 18446744073709551616 := Nat.lt_of_le_of_lt Nat.and_le_left ha
theorem Sg.meet_ok {s : Sg} (t : Sg) (hs : s.ok) : (s.meet t).ok := ⟨and_lt _ _ hs.1,and_lt _ _ hs.2⟩
def Sg.none (s : Sg) : Bool := ((s.a : Int) == 0 && (s.b : Int) == 0)
theorem sig_zero (w : World) (s : Sg) : (Op.equalIn 10000 47 (.agg #[.int .u64 (s.a : Int),.int .u64 (s.b : Int)]) (.agg #[.int .u64 0,.int .u64 0])).run Tryz.prog w = .ok s.none w := sig_eq w _ _ _ _
theorem meets_any (w : World) (s t : Sg) (hs : s.ok) (ht : t.ok) :
 Calls Tryz.prog 145 #[s.val,t.val] w fun e w' => e = .returned (.bool (!(s.meet t).none)) ∧ Keeps [] w w' := by
 have hc := fun w => meet_any w s t hs ht
 have hz := fun w => sig_zero w (s.meet t)
 obtain ⟨m,hm⟩ : ∃ m,s.meet t = m := ⟨_,rfl⟩
 rw [hm]
 simp only [hm] at hc hz
 have HC := Lib.hid hc
 clear hc hm
 unfold Sg.val at HC ⊢
 go_enter Tryz.func145,Tryz.ntmps145
 go_wp2_with fail
 refine (HC.out _).mono ?_
 rintro e w1 ⟨rfl,hk⟩
 have HK := Lib.hid hk
 clear hk
 go_wp2_with fail
 go_ret
 exact ⟨rfl,(((Keeps.refl [] w).alloc _).alloc _).trans HK.out (by simp)⟩
end Go.Proofs.YtmlnedilbneekaaGreat