/- sig.Of and sig.From: contracts. -/
import Derived.Test.YtlpgcfgnimchaaaDoorSigRef
import Derived.Test.YtlpgcfgnimchaaaDoorSlc
namespace Go.Proofs.YtlpgcfgnimchaaaDoor
open Go.RowKit
set_option linter.unusedVariables false

/-- The signature with the two bits of a cell more. -/
def Sg.add (n : Int) (s : Sg) (c : Int) : Sg := (s.set (hA c n).toNat).set (hB c n).toNat
def ofL (n : Int) (l : List Int) : Sg := l.foldl (Sg.add n) Sg.zero
def fromL (l : List Int) : Sg := l.foldl (fun s b => s.set b.toNat) Sg.zero
def isCell (c : Int) : Bool := decide (0 ≤ c) && decide (c ≤ 255)
def isBit (c : Int) : Bool := decide (0 ≤ c) && decide (c ≤ 127)
theorem isCell_yes {c : Int} : isCell c = true ↔ 0 ≤ c ∧ c ≤ 255 := by simp [isCell]
theorem isBit_yes {c : Int} : isBit c = true ↔ 0 ≤ c ∧ c ≤ 127 := by simp [isBit]
theorem add_ok {n : Int} (n0 : 1 ≤ n) (n1 : n ≤ 128) {s : Sg} (hs : s.ok) (c : Int) : (s.add n c).ok := by
  have h1 := hA_rng c n n0 n1
  have h2 := hB_rng c n n0 n1
  exact Sg.set_ok _ (Sg.set_ok s hs _ (by omega)) _ (by omega)
theorem zero_ok : Sg.zero.ok := by unfold Sg.ok Sg.zero; decide
theorem ofL_ok {n : Int} (n0 : 1 ≤ n) (n1 : n ≤ 128) (l : List Int) : (ofL n l).ok := by
  unfold ofL
  have : ∀ s : Sg, s.ok → (l.foldl (Sg.add n) s).ok := by
    induction l with
    | nil => exact fun s h => h
    | cons x l ih => exact fun s h => ih _ (add_ok n0 n1 h x)
  exact this _ zero_ok
theorem ofL_snoc (n : Int) (l : List Int) (x : Int) : ofL n (l ++ [x]) = (ofL n l).add n x := by simp [ofL]
theorem take_snoc {l : List Int} {k : Nat} {x : Int} (h : l[k]? = some x) : l.take (k + 1) = l.take k ++ [x] := by rw [List.take_add_one, h]; rfl

/-- What holds in the loop: the result's block is empty yet, the signature stands in its own. -/
def Acc2 (w : World) (s : Sg) (wr : World) : Prop :=
  Blk wr w.heap.size 31 #[.int .u64 0, .int .u64 0] ∧ Blk wr (w.heap.size + 1) 31 #[.int .u64 (s.a : Int), .int .u64 (s.b : Int)] ∧ Keeps [] w wr
theorem Acc2.start (w : World) : Acc2 w Sg.zero ((w.alloc (.cells #[.int .u64 0, .int .u64 0] 31)).alloc (.cells #[.int .u64 0, .int .u64 0] 31)) :=
  ⟨(Blk.new _ _ _).alloc _, new_at _ _ _ (by simp), ((Keeps.refl _ _).alloc _).alloc _⟩

theorem of_arg (w : World) (A : Option Addr) (m c : Nat) (n : Int) (hn : n < 1 ∨ 128 < n) :
    Calls Tryd.prog 13 #[.slice A m c, .int .i64 n] w fun e w' => e = .returned (.tuple #[Sg.zero.val, .int .i64 1]) ∧ Keeps [] w w' := by
  have hd : decide (n < 1) = true ∨ (decide (n < 1) = false ∧ decide (128 < n) = true) := by
    rcases hn with h | h
    · left; simpa using h
    · right; constructor <;> simp <;> omega
  clear hn
  rcases hd with hd | ⟨hd, hd2⟩
  all_goals
    go_enter Tryd.func13, Tryd.ntmps13
    go_wp2
    refine bodyPost_ret (v := .tuple #[.agg #[.int .u64 0, .int .u64 0], .int .i64 1]) (by simp [results, Tryd.results13, go_sem]) rfl ⟨rfl, ?_⟩
    simp

/-- What Of answers. -/
def ofR (n : Int) (l : List Int) : Sg := if l.all isCell then ofL n l else Sg.zero
def ofE (l : List Int) : Int := if l.all isCell then 0 else 2

theorem set_int (w : World) (a b : Nat) (s : Sg) (hs : s.ok) (ha : a = s.a) (hb : b = s.b) (k : Int) (h0 : 0 ≤ k) (h1 : k < 128) :
    Calls Tryd.prog 34 #[.agg #[.int .u64 (a : Int), .int .u64 (b : Int)], .int .i64 k] w fun e w' => (e = .returned (.agg #[.int .u64 ((s.set k.toNat).a : Int), .int .u64 ((s.set k.toNat).b : Int)])) ∧ Keeps [] w w' := by
  subst ha hb
  have := set_any w s hs k.toNat (by omega)
  rw [Int.toNat_of_nonneg h0] at this
  exact this
theorem with_int (w : World) (a b : Nat) (s : Sg) (hs : s.ok) (ha : a = s.a) (hb : b = s.b) (k : Int) (h0 : 0 ≤ k) (h1 : k < 128) :
    Calls Tryd.prog 35 #[.agg #[.int .u64 (a : Int), .int .u64 (b : Int)], .int .i64 k] w fun e w' => (e = .returned (.agg #[.int .u64 ((s.set k.toNat).a : Int), .int .u64 ((s.set k.toNat).b : Int)])) ∧ Keeps [] w w' := by
  subst ha hb
  have := with_any w s hs k.toNat (by omega)
  rw [Int.toNat_of_nonneg h0] at this
  exact this
theorem Acc2.next {w wr w1 : World} {s s' : Sg} (h : Acc2 w s wr) (hk : Keeps [] wr w1) : Acc2 w s' ((w1.setCell ⟨w.heap.size + 1, 0, none⟩ (.int .u64 (s'.a : Int))).setCell ⟨w.heap.size + 1, 1, none⟩ (.int .u64 (s'.b : Int))) := by
  obtain ⟨h1, h2, h3⟩ := h
  refine ⟨?_, ?_, ?_⟩
  · exact ((h1.keeps hk (by simp)).far (by simp) _).far (by simp) _
  · have := ((h2.keeps hk (by simp)).set_ 0 (.int .u64 (s'.a : Int))).set_ 1 (.int .u64 (s'.b : Int))
    simpa using this
  · exact ((h3.trans hk (by simp)).setCell (.inr (Nat.le_succ _)) _).setCell (.inr (Nat.le_succ _)) _

set_option maxHeartbeats 1000000 in
theorem of_any (w : World) (A : Option Addr) (c : Nat) (l : List Int) (hA : Slc w A l) (n : Int) (n0 : 1 ≤ n) (n1 : n ≤ 128) :
    Calls Tryd.prog 13 #[.slice A l.length c, .int .i64 n] w fun e w' => e = .returned (.tuple #[(ofR n l).val, .int .i64 (ofE l)]) ∧ Keeps [] w w' := by
  have hlen := hA.1
  have HA := Lib.hid hA
  unfold maxLen at hlen
  clear hA
  go_enter Tryd.func13, Tryd.ntmps13
  go_wp2
  go_loopw [21] (fun i wr => ∃ k : Nat, k ≤ l.length ∧ i = .int .i64 k ∧ Hid ((l.take k).all isCell = true) ∧ Acc2 w (ofL n (l.take k)) wr) (fun i _ => l.length - (intOf i).toNat)
  case atStart => exact ⟨0, Nat.zero_le _, rfl, by unfold Hid; simp, Acc2.start w⟩
  case round =>
    obtain ⟨k, hk, rfl, hall, hacc⟩ := hrel
    have H := Lib.hid hacc
    have r0 : wr.cell? ⟨w.heap.size, 0, none⟩ = some (.int .u64 0) := (hacc.1.cell 0).trans rfl
    have r1 : wr.cell? ⟨w.heap.size, 1, none⟩ = some (.int .u64 0) := (hacc.1.cell 1).trans rfl
    have g0 := hacc.1.frozen 0
    have g1 := hacc.1.frozen 1
    have c0 : wr.cell? ⟨w.heap.size + 1, 0, none⟩ = some (.int .u64 ((ofL n (l.take k)).a : Int)) := (hacc.2.1.cell 0).trans rfl
    have c1 : wr.cell? ⟨w.heap.size + 1, 1, none⟩ = some (.int .u64 ((ofL n (l.take k)).b : Int)) := (hacc.2.1.cell 1).trans rfl
    obtain ⟨s, hs⟩ : ∃ s, ofL n (l.take k) = s := ⟨_, rfl⟩
    have hok : s.ok := hs ▸ ofL_ok n0 n1 _
    rw [hs] at c0 c1
    have HS := Lib.hid hs
    have HOK := Lib.hid hok
    clear hacc hs hok
    by_cases hlt : k < l.length
    · obtain ⟨x, hx⟩ : ∃ x, l[k]? = some x := ⟨_, List.getElem?_eq_getElem hlt⟩
      rcases (HA.out.keeps H.out.2.2).2 with h0 | ⟨b, off, rfl, hb, hc⟩
      · subst h0; simp at hlt
      have d1 := hc k x hx
      have HX := Lib.hid hx
      clear hc hx
      have k0 : (0 : Int) ≤ (k : Int) := by omega
      have k1 : (k : Int) < (l.length : Int) := by omega
      by_cases hc : isCell x = true
      · have hxr := isCell_yes.1 hc
        have ra := hA_rng x n n0 n1
        have rb := hB_rng x n n0 n1
        have HC := Lib.hid hc
        clear hc
        go_wp2_with fail
        refine (hash_ok wr x n hxr.1 hxr.2 n0 n1).mono ?_
        rintro e w0 ⟨rfl, rfl⟩
        go_wp2_with fail
        refine (set_int wr s.a s.b s HOK.out rfl rfl (hA x n) ra.1 (by omega)).mono ?_
        rintro e w1 ⟨rfl, hk1⟩
        obtain ⟨s1, hs1⟩ : ∃ s1, s.set (hA x n).toNat = s1 := ⟨_, rfl⟩
        have hok1 : s1.ok := hs1 ▸ Sg.set_ok s HOK.out _ (by omega)
        rw [hs1]
        have HS1 := Lib.hid hs1
        have HOK1 := Lib.hid hok1
        have HK1 := Lib.hid hk1
        clear hs1 hok1 hk1
        go_wp2_with fail
        refine (set_int w1 s1.a s1.b s1 HOK1.out rfl rfl (hB x n) rb.1 (by omega)).mono ?_
        rintro e w2 ⟨rfl, hk2⟩
        obtain ⟨s2, hs2⟩ : ∃ s2, s1.set (hB x n).toNat = s2 := ⟨_, rfl⟩
        rw [hs2]
        have HS2 := Lib.hid hs2
        have hK := HK1.out.trans hk2 (by simp)
        have b2 := H.out.2.1.keeps hK (by simp)
        have e0 : w2.cell? ⟨w.heap.size + 1, 0, none⟩ = some (.int .u64 ((ofL n (l.take k)).a : Int)) := (b2.cell 0).trans rfl
        have e1 : w2.cell? ⟨w.heap.size + 1, 1, none⟩ = some (.int .u64 ((ofL n (l.take k)).b : Int)) := (b2.cell 1).trans rfl
        have f0 := b2.frozen 0
        have f1 := b2.frozen 1
        have HK2 := Lib.hid hK
        clear hs2 hk2 hK b2 c0 c1 d1
        go_wp2_with fail
        go_roundw
        case rel =>
          refine ⟨k + 1, by omega, by go_num, ?_, ?_⟩
          · unfold Hid
            rw [take_snoc HX.out, List.all_append, hall.out]
            simp [HC.out]
          · have e : ofL n (l.take (k + 1)) = s2 := by rw [take_snoc HX.out, ofL_snoc, HS.out]; unfold Sg.add; rw [HS1.out, HS2.out]
            rw [e]
            exact H.out.next HK2.out
        case measure => simp [intOf]; omega
      · have hcf : isCell x = false := by simpa using hc
        have hxr : x < 0 ∨ 255 < x := by
          rcases Classical.em (0 ≤ x ∧ x ≤ 255) with h | h
          · exact absurd (isCell_yes.2 h) hc
          · omega
        have HXR := Lib.hid hxr
        have HC := Lib.hid hcf
        clear hc hcf hxr
        go_wp2_with fail
        refine (hash_place wr x n n0 n1 HXR.out).mono ?_
        rintro e w0 ⟨rfl, rfl⟩
        go_wp2_with fail
        have hall2 : l.all isCell = false := by
          rw [List.all_eq_false]
          exact ⟨x, List.mem_of_getElem? HX.out, by simp [HC.out]⟩
        refine bodyPost_ret (v := .tuple #[.agg #[.int .u64 0, .int .u64 0], .int .i64 2]) (by simp [results, Tryd.results13, go_sem, r0, r1]) rfl ⟨by simp [ofR, ofE, hall2, Sg.zero, Sg.val], ?_⟩
        exact (H.out.2.2.setCell (.inr (Nat.le_refl _)) _).setCell (.inr (Nat.le_refl _)) _
    · have hge : ¬ ((k : Int) < (l.length : Int)) := by omega
      go_wp2_with fail
      have e : k = l.length := by omega
      subst e
      have hall2 : l.all isCell = true := by have := hall.out; rwa [List.take_length] at this
      have hs2 : ofL n l = s := by have := HS.out; rwa [List.take_length] at this
      refine bodyPost_ret (v := .tuple #[.agg #[.int .u64 (s.a : Int), .int .u64 (s.b : Int)], .int .i64 0]) (by simp [results, Tryd.results13, go_sem, r0, r1]) rfl ⟨by simp [ofR, ofE, hall2, hs2, Sg.val], ?_⟩
      exact (H.out.2.2.setCell (.inr (Nat.le_refl _)) _).setCell (.inr (Nat.le_refl _)) _
end Go.Proofs.YtlpgcfgnimchaaaDoor
