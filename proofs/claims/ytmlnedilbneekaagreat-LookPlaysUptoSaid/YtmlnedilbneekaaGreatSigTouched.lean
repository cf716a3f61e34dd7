/- sig.Touched. -/
import Derived.Test.YtmlnedilbneekaaGreatSigMeets
import Derived.Test.YtmlnedilbneekaaGreatSigRef
import Derived.Test.YtmlnedilbneekaaGreatSrc
namespace Go.Proofs.YtmlnedilbneekaaGreat
open Go.RowKit
set_option linter.unusedVariables false
set_option linter.unusedSimpArgs false
theorem Tryz.infoIntR : (Tryz.prog.info? 3).map (fun i => (i.zero, i.size, i.bytes)) = some (some (.int .i64 0), 1, 8) := by kernel_rfl
/-- A slice of the call's own, of ints, and nothing else is new to what was there. -/
def RowAt (w wr : World) (v : Value) (l : List Int) : Prop := wr.ownsRow w.heap.size 3 1 v l.length (l.map (Value.int .i64)) ∧ Keeps [] w wr
theorem RowAt.nil {w wr : World} (h : Keeps [] w wr) : RowAt w wr (.slice none 0 0) [] := ⟨World.ownsRow_nil _ _ _ _, h⟩
theorem RowAt.keeps {w wr w' : World} {v : Value} {l : List Int} (h : RowAt w wr v l) (hk : Keeps [] wr w') : RowAt w w' v l := ⟨own_keeps h.1 hk (by simp), h.2.trans hk (by simp)⟩
theorem RowAt.own0 {w wr : World} {v : Value} {l : List Int} (h : RowAt w wr v l) (n : Nat) (hn : n = l.length) : wr.ownsRow 0 3 1 v n (l.map (Value.int .i64)) := hn ▸ own_base h.1 (fun k _ => Nat.zero_le k)
theorem RowAt.snoc {w wr w0 w1 : World} {v v1 : Value} {l m : List Int} (h : RowAt w wr v l) (hk : Keeps [] wr w0) {n : Nat} (hn : n = (l ++ m).length)
    (ho : w1.ownsRow 0 3 1 v1 n (l.map (Value.int .i64) ++ m.map (Value.int .i64))) (hg : w0.grownBy w1 v.ownBlock) (ha : v1.ownBlock = v.ownBlock ∨ v1.ownBlock = some w0.heap.size) : RowAt w w1 v1 (l ++ m) := by
  have hsz : w.heap.size ≤ w0.heap.size := Nat.le_trans h.2.size hk.size
  have hb : ∀ k, v.ownBlock = some k → w.heap.size ≤ k := fun k hk' => (h.1.lt k hk').1
  subst hn
  refine ⟨own_base (by simpa using ho) ?_, (h.2.trans hk (by simp)).grown hg fun k hk' => .inr (hb k hk')⟩
  intro k hk'
  rcases ha with e | e
  · exact hb k (e ▸ hk')
  · rw [e] at hk'; injection hk' with hk'; omega
/-- One cell, made for an append. -/
theorem one_row (w : World) (x : Int) (k : Nat) (hk : w.heap.size = k) : (w.alloc (.cells #[.int .i64 x] 3)).ownsRow 0 3 1 (.slice (some ⟨k, 0, none⟩) 1 1) 1 ([x].map (Value.int .i64)) := by
  subst hk
  exact ⟨rfl, .inr ⟨w.heap.size, 1, #[.int .i64 x], rfl, Nat.zero_le _, heap_alloc_new w _, Nat.le_refl _, by decide, rfl, rfl⟩⟩
theorem one_ints (l : List Int) : ∀ u ∈ l.map (Value.int .i64), u.oneCell' = true := by
  intro u hu
  obtain ⟨x, _, rfl⟩ := List.mem_map.1 hu
  rfl

theorem ix0 (x y : Value) (w : World) : (Instr.index 47 (.agg #[x, y]) (.int .i64 0)).run Tryz.prog w = .ok x w := by kernel_rfl
theorem ix1 (x y : Value) (w : World) : (Instr.index 47 (.agg #[x, y]) (.int .i64 1)).run Tryz.prog w = .ok y w := by kernel_rfl
end Go.Proofs.YtmlnedilbneekaaGreat

namespace Go.Proofs.YtmlnedilbneekaaGreat
set_option linter.unusedVariables false
set_option linter.unusedSimpArgs false
theorem bit_lt64 {x i : Nat} (hx : x < 18446744073709551616) (h : x.testBit i = true) : i < 64 := by
  apply Nat.lt_of_not_le
  intro hle
  have : x.testBit i = false := Nat.testBit_lt_two_pow (Nat.lt_of_lt_of_le hx (by show 2 ^ 64 ≤ 2 ^ i; exact Nat.pow_le_pow_right (by omega) hle))
  rw [this] at h; cases h
theorem minusN_bit (x y : Nat) (hx : x < 18446744073709551616) (hy : y < 18446744073709551616) (i : Nat) : (minusN x y).testBit i = (x.testBit i && !y.testBit i) := by
  unfold minusN
  have e : 18446744073709551615 - y = 2 ^ 64 - (y + 1) := by omega
  rw [e, Nat.testBit_and, Nat.testBit_two_pow_sub_succ (by omega : y < 2 ^ 64)]
  by_cases hi : i < 64
  · simp [hi]
  · have : x.testBit i = false := by
      cases h : x.testBit i
      · rfl
      · exact absurd (bit_lt64 hx h) hi
    simp [this]
theorem minusN_lt (x y : Nat) (hx : x < 18446744073709551616) : minusN x y < 18446744073709551616 := and_lt _ _ hx
/-- No bit of b is new to a: a joined with b is a. -/
theorem minusN_zero (a b : Nat) (ha : a < 18446744073709551616) (hb : b < 18446744073709551616) : minusN b a = 0 ↔ a ||| b = a := by
  constructor
  · intro h
    apply Nat.eq_of_testBit_eq
    intro i
    have hi := minusN_bit b a hb ha i
    rw [h, Nat.zero_testBit] at hi
    rw [Nat.testBit_or]
    cases h1 : a.testBit i <;> cases h2 : b.testBit i <;> simp_all
  · intro h
    apply Nat.eq_of_testBit_eq
    intro i
    rw [minusN_bit b a hb ha i, Nat.zero_testBit]
    have hi : (a ||| b).testBit i = a.testBit i := by rw [h]
    rw [Nat.testBit_or] at hi
    cases h1 : a.testBit i <;> cases h2 : b.testBit i <;> simp_all
end Go.Proofs.YtmlnedilbneekaaGreat

namespace Go.Proofs.YtmlnedilbneekaaGreat
open Go.RowKit
set_option linter.unusedVariables false
set_option linter.unusedSimpArgs false

/-- The signature with the two bits of a cell more. -/
def Sg.add (n : Int) (s : Sg) (c : Int) : Sg := (s.set (hA c n).toNat).set (hB c n).toNat
def ofL (n : Int) (l : List Int) : Sg := l.foldl (Sg.add n) Sg.zero
def fromL (l : List Int) : Sg := l.foldl (fun s b => s.set b.toNat) Sg.zero
def isCell (c : Int) : Bool := decide (0 ≤ c) && decide (c ≤ 255)
def isBit (c : Int) : Bool := decide (0 ≤ c) && decide (c ≤ 127)
theorem isCell_yes {c : Int} : isCell c = true ↔ 0 ≤ c ∧ c ≤ 255 := by simp [isCell]
theorem isBit_yes {c : Int} : isBit c = true ↔ 0 ≤ c ∧ c ≤ 127 := by simp [isBit]
theorem add_ok {n : Int} (n0 : 1 ≤ n) (n1 : n ≤ 128) {s : Sg} (hs : s.ok) (c : Int) : (s.add n c).ok := by
  have h1 := hA_rng c n n0 n1
  have h2 := hB_rng c n n0 n1
  exact Sg.set_ok _ (Sg.set_ok s hs _ (by omega)) _ (by omega)
theorem zero_ok : Sg.zero.ok := by unfold Sg.ok Sg.zero; decide
theorem ofL_ok {n : Int} (n0 : 1 ≤ n) (n1 : n ≤ 128) (l : List Int) : (ofL n l).ok := by
  unfold ofL
  have : ∀ s : Sg, s.ok → (l.foldl (Sg.add n) s).ok := by
    induction l with
    | nil => exact fun s h => h
    | cons x l ih => exact fun s h => ih _ (add_ok n0 n1 h x)
  exact this _ zero_ok
theorem ofL_snoc (n : Int) (l : List Int) (x : Int) : ofL n (l ++ [x]) = (ofL n l).add n x := by simp [ofL]
theorem take_snoc {l : List Int} {k : Nat} {x : Int} (h : l[k]? = some x) : l.take (k + 1) = l.take k ++ [x] := by rw [List.take_add_one, h]; rfl

/-- What holds in the loop: the result's block is empty yet, the signature stands in its own. -/
def Acc2 (w : World) (s : Sg) (wr : World) : Prop :=
  Blk wr w.heap.size 47 #[.int .u64 0, .int .u64 0] ∧ Blk wr (w.heap.size + 1) 47 #[.int .u64 (s.a : Int), .int .u64 (s.b : Int)] ∧ Keeps [] w wr
theorem Acc2.start (w : World) : Acc2 w Sg.zero ((w.alloc (.cells #[.int .u64 0, .int .u64 0] 47)).alloc (.cells #[.int .u64 0, .int .u64 0] 47)) :=
  ⟨(Blk.new _ _ _).alloc _, new_at _ _ _ (by simp), ((Keeps.refl _ _).alloc _).alloc _⟩

theorem of_arg (w : World) (A : Option Addr) (m c : Nat) (n : Int) (hn : n < 1 ∨ 128 < n) :
    Calls Tryz.prog 188 #[.slice A m c, .int .i64 n] w fun e w' => e = .returned (.tuple #[Sg.zero.val, .int .i64 1]) ∧ Keeps [] w w' := by
  have hd : decide (n < 1) = true ∨ (decide (n < 1) = false ∧ decide (128 < n) = true) := by
    rcases hn with h | h
    · left; simpa using h
    · right; constructor <;> simp <;> omega
  clear hn
  rcases hd with hd | ⟨hd, hd2⟩
  all_goals
    go_enter Tryz.func188, Tryz.ntmps188
    go_wp2
    refine bodyPost_ret (v := .tuple #[.agg #[.int .u64 0, .int .u64 0], .int .i64 1]) (by simp [results, Tryz.results188, go_sem]) rfl ⟨rfl, ?_⟩
    simp

/-- What Of answers. -/
def ofR (n : Int) (l : List Int) : Sg := if l.all isCell then ofL n l else Sg.zero
def ofE (l : List Int) : Int := if l.all isCell then 0 else 2

theorem set_int (w : World) (a b : Nat) (s : Sg) (hs : s.ok) (ha : a = s.a) (hb : b = s.b) (k : Int) (h0 : 0 ≤ k) (h1 : k < 128) :
    Calls Tryz.prog 191 #[.agg #[.int .u64 (a : Int), .int .u64 (b : Int)], .int .i64 k] w fun e w' => (e = .returned (.agg #[.int .u64 ((s.set k.toNat).a : Int), .int .u64 ((s.set k.toNat).b : Int)])) ∧ Keeps [] w w' := by
  subst ha hb
  have := set_any w s hs k.toNat (by omega)
  rw [Int.toNat_of_nonneg h0] at this
  exact this
theorem with_int (w : World) (a b : Nat) (s : Sg) (hs : s.ok) (ha : a = s.a) (hb : b = s.b) (k : Int) (h0 : 0 ≤ k) (h1 : k < 128) :
    Calls Tryz.prog 151 #[.agg #[.int .u64 (a : Int), .int .u64 (b : Int)], .int .i64 k] w fun e w' => (e = .returned (.agg #[.int .u64 ((s.set k.toNat).a : Int), .int .u64 ((s.set k.toNat).b : Int)])) ∧ Keeps [] w w' := by
  subst ha hb
  have := with_any w s hs k.toNat (by omega)
  rw [Int.toNat_of_nonneg h0] at this
  exact this
theorem Acc2.next {w wr w1 : World} {s s' : Sg} (h : Acc2 w s wr) (hk : Keeps [] wr w1) : Acc2 w s' ((w1.setCell ⟨w.heap.size + 1, 0, none⟩ (.int .u64 (s'.a : Int))).setCell ⟨w.heap.size + 1, 1, none⟩ (.int .u64 (s'.b : Int))) := by
  obtain ⟨h1, h2, h3⟩ := h
  refine ⟨?_, ?_, ?_⟩
  · exact ((h1.keeps hk (by simp)).far (by simp) _).far (by simp) _
  · have := ((h2.keeps hk (by simp)).set_ 0 (.int .u64 (s'.a : Int))).set_ 1 (.int .u64 (s'.b : Int))
    simpa using this
  · exact ((h3.trans hk (by simp)).setCell (.inr (Nat.le_succ _)) _).setCell (.inr (Nat.le_succ _)) _

set_option maxHeartbeats 1000000 in
theorem of_any (w : World) (A : Option Addr) (c : Nat) (l : List Int) (hA : Slc w A l) (n : Int) (n0 : 1 ≤ n) (n1 : n ≤ 128) :
    Calls Tryz.prog 188 #[.slice A l.length c, .int .i64 n] w fun e w' => e = .returned (.tuple #[(ofR n l).val, .int .i64 (ofE l)]) ∧ Keeps [] w w' := by
  have hlen := hA.1
  have HA := Lib.hid hA
  unfold maxLen at hlen
  clear hA
  go_enter Tryz.func188, Tryz.ntmps188
  go_wp2
  go_loopw [21] (fun i wr => ∃ k : Nat, k ≤ l.length ∧ i = .int .i64 k ∧ Hid ((l.take k).all isCell = true) ∧ Acc2 w (ofL n (l.take k)) wr) (fun i _ => l.length - (intOf i).toNat)
  case atStart => exact ⟨0, Nat.zero_le _, rfl, by unfold Hid; simp, Acc2.start w⟩
  case round =>
    obtain ⟨k, hk, rfl, hall, hacc⟩ := hrel
    have H := Lib.hid hacc
    have r0 : wr.cell? ⟨w.heap.size, 0, none⟩ = some (.int .u64 0) := (hacc.1.cell 0).trans rfl
    have r1 : wr.cell? ⟨w.heap.size, 1, none⟩ = some (.int .u64 0) := (hacc.1.cell 1).trans rfl
    have g0 := hacc.1.frozen 0
    have g1 := hacc.1.frozen 1
    have c0 : wr.cell? ⟨w.heap.size + 1, 0, none⟩ = some (.int .u64 ((ofL n (l.take k)).a : Int)) := (hacc.2.1.cell 0).trans rfl
    have c1 : wr.cell? ⟨w.heap.size + 1, 1, none⟩ = some (.int .u64 ((ofL n (l.take k)).b : Int)) := (hacc.2.1.cell 1).trans rfl
    obtain ⟨s, hs⟩ : ∃ s, ofL n (l.take k) = s := ⟨_, rfl⟩
    have hok : s.ok := hs ▸ ofL_ok n0 n1 _
    rw [hs] at c0 c1
    have HS := Lib.hid hs
    have HOK := Lib.hid hok
    clear hacc hs hok
    by_cases hlt : k < l.length
    · obtain ⟨x, hx⟩ : ∃ x, l[k]? = some x := ⟨_, List.getElem?_eq_getElem hlt⟩
      rcases (HA.out.keeps H.out.2.2).2 with h0 | ⟨b, off, rfl, hb, hc⟩
      · subst h0; simp at hlt
      have d1 := hc k x hx
      have HX := Lib.hid hx
      clear hc hx
      have k0 : (0 : Int) ≤ (k : Int) := by omega
      have k1 : (k : Int) < (l.length : Int) := by omega
      by_cases hc : isCell x = true
      · have hxr := isCell_yes.1 hc
        have ra := hA_rng x n n0 n1
        have rb := hB_rng x n n0 n1
        have HC := Lib.hid hc
        clear hc
        go_wp2_with fail
        refine (hash_ok wr x n hxr.1 hxr.2 n0 n1).mono ?_
        rintro e w0 ⟨rfl, rfl⟩
        go_wp2_with fail
        refine (set_int wr s.a s.b s HOK.out rfl rfl (hA x n) ra.1 (by omega)).mono ?_
        rintro e w1 ⟨rfl, hk1⟩
        obtain ⟨s1, hs1⟩ : ∃ s1, s.set (hA x n).toNat = s1 := ⟨_, rfl⟩
        have hok1 : s1.ok := hs1 ▸ Sg.set_ok s HOK.out _ (by omega)
        rw [hs1]
        have HS1 := Lib.hid hs1
        have HOK1 := Lib.hid hok1
        have HK1 := Lib.hid hk1
        clear hs1 hok1 hk1
        go_wp2_with fail
        refine (set_int w1 s1.a s1.b s1 HOK1.out rfl rfl (hB x n) rb.1 (by omega)).mono ?_
        rintro e w2 ⟨rfl, hk2⟩
        obtain ⟨s2, hs2⟩ : ∃ s2, s1.set (hB x n).toNat = s2 := ⟨_, rfl⟩
        rw [hs2]
        have HS2 := Lib.hid hs2
        have hK := HK1.out.trans hk2 (by simp)
        have b2 := H.out.2.1.keeps hK (by simp)
        have e0 : w2.cell? ⟨w.heap.size + 1, 0, none⟩ = some (.int .u64 ((ofL n (l.take k)).a : Int)) := (b2.cell 0).trans rfl
        have e1 : w2.cell? ⟨w.heap.size + 1, 1, none⟩ = some (.int .u64 ((ofL n (l.take k)).b : Int)) := (b2.cell 1).trans rfl
        have f0 := b2.frozen 0
        have f1 := b2.frozen 1
        have HK2 := Lib.hid hK
        clear hs2 hk2 hK b2 c0 c1 d1
        go_wp2_with fail
        go_roundw
        case rel =>
          refine ⟨k + 1, by omega, by go_num, ?_, ?_⟩
          · unfold Hid
            rw [take_snoc HX.out, List.all_append, hall.out]
            simp [HC.out]
          · have e : ofL n (l.take (k + 1)) = s2 := by rw [take_snoc HX.out, ofL_snoc, HS.out]; unfold Sg.add; rw [HS1.out, HS2.out]
            rw [e]
            exact H.out.next HK2.out
        case measure => simp [intOf]; omega
      · have hcf : isCell x = false := by simpa using hc
        have hxr : x < 0 ∨ 255 < x := by
          rcases Classical.em (0 ≤ x ∧ x ≤ 255) with h | h
          · exact absurd (isCell_yes.2 h) hc
          · omega
        have HXR := Lib.hid hxr
        have HC := Lib.hid hcf
        clear hc hcf hxr
        go_wp2_with fail
        refine (hash_place wr x n n0 n1 HXR.out).mono ?_
        rintro e w0 ⟨rfl, rfl⟩
        go_wp2_with fail
        have hall2 : l.all isCell = false := by
          rw [List.all_eq_false]
          exact ⟨x, List.mem_of_getElem? HX.out, by simp [HC.out]⟩
        refine bodyPost_ret (v := .tuple #[.agg #[.int .u64 0, .int .u64 0], .int .i64 2]) (by simp [results, Tryz.results188, go_sem, r0, r1]) rfl ⟨by simp [ofR, ofE, hall2, Sg.zero, Sg.val], ?_⟩
        exact (H.out.2.2.setCell (.inr (Nat.le_refl _)) _).setCell (.inr (Nat.le_refl _)) _
    · have hge : ¬ ((k : Int) < (l.length : Int)) := by omega
      go_wp2_with fail
      have e : k = l.length := by omega
      subst e
      have hall2 : l.all isCell = true := by have := hall.out; rwa [List.take_length] at this
      have hs2 : ofL n l = s := by have := HS.out; rwa [List.take_length] at this
      refine bodyPost_ret (v := .tuple #[.agg #[.int .u64 (s.a : Int), .int .u64 (s.b : Int)], .int .i64 0]) (by simp [results, Tryz.results188, go_sem, r0, r1]) rfl ⟨by simp [ofR, ofE, hall2, hs2, Sg.val], ?_⟩
      exact (H.out.2.2.setCell (.inr (Nat.le_refl _)) _).setCell (.inr (Nat.le_refl _)) _
end Go.Proofs.YtmlnedilbneekaaGreat

namespace Go.Proofs.YtmlnedilbneekaaGreat
open Go.RowKit
set_option linter.unusedVariables false
set_option linter.unusedSimpArgs false
/-- The words with a bit. -/
def P0 (m : Sg) : List Int := []
def P1 (m : Sg) : List Int := P0 m ++ if m.a = 0 then [] else [0]
def P2 (m : Sg) : List Int := P1 m ++ if m.b = 0 then [] else [1]
def wordsL (m : Sg) : List Int := P2 m
theorem pw_len0 (m : Sg) : (P0 m).length ≤ 2 := by simp [P0]
theorem pw_len1 (m : Sg) : (P1 m).length ≤ 2 := by unfold P1 P0; split <;> simp
end Go.Proofs.YtmlnedilbneekaaGreat
