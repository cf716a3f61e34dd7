/- The calls of a table of a nil meter, outcomes merged. -/
import Derived.Test.YtelljfhhjapgnaaSlotsAll
import Derived.Laws.StructEq
namespace Go.Proofs.Ytelljfhhjapgnaa
open Go.RowKit
set_option linter.unusedVariables false
theorem sig_eqF (f : Nat) (w : World) (a b c d : Int) : (Op.equalIn (f + 2) 32 (.agg #[.int .u64 a, .int .u64 b]) (.agg #[.int .u64 c, .int .u64 d])).run Try.prog w = .ok (a == c && b == d) w := by
  have hu : Try.prog.underlying 32 = some (.array 2 30) := by kernel_rfl
  have hp (x y : Value) : ∀ w, (part 30 #[x, y] 0).run Try.prog w = .ok x w := fun _ => by kernel_rfl
  have hq (x y : Value) : ∀ w, (part 30 #[x, y] 1).run Try.prog w = .ok y w := fun _ => by kernel_rfl
  have hs : ∀ w, (sizeOf 30).run Try.prog w = .ok 1 w := fun _ => by kernel_rfl
  have hi (x y : Int) : ∀ w, (Op.equalIn (f + 1) 30 (.int .u64 x) (.int .u64 y)).run Try.prog w = .ok (x == y) w := fun w => run_equalIn_int w f 30 .u64 .u64 x y (by kernel_rfl)
  unfold Op.equalIn
  simp only [Sem.run_bind, run_underlying hu, Result.andThen_ok, hs]
  simp
  have hr : List.range' 0 2 = [0, 1] := by decide
  rw [hr]
  simp only [List.forIn_cons, List.forIn_nil, Sem.run_bind, hp, hi, Result.andThen_ok]
  cases h1 : (a == c) <;> cases h2 : (b == d) <;> simp [Sem.run_bind, hq, hi, h2]
theorem sig_same9 (w : World) (a b : Int) : (Op.equalIn 9999 32 (.agg #[.int .u64 a, .int .u64 b]) (.agg #[.int .u64 a, .int .u64 b])).run Try.prog w = .ok true w := by
  have h := sig_eqF 9997 w a b a b
  simpa using h
theorem sig_same10 (w : World) (a b : Int) : (Op.equalIn 10000 32 (.agg #[.int .u64 a, .int .u64 b]) (.agg #[.int .u64 a, .int .u64 b])).run Try.prog w = .ok true w := by
  have h := sig_eqF 9998 w a b a b
  simpa using h
/-- Generations after k steps. -/
def Gens (k : Nat) (H : List Hd) : Prop := ∀ (j : Nat) (x : Hd), H[j]? = some x → 0 ≤ x.gen ∧ x.gen ≤ k
/-- What a call at slot s leaves of the heads. -/
structure Moved (k s : Nat) (H H' : List Hd) : Prop where
  len : H'.length = H.length
  gens : Gens (k + 1) H'
  other : ∀ j, j ≠ s → H'[j]? = H[j]?
theorem Moved.same {k s : Nat} {H : List Hd} (hg : Gens k H) : Moved k s H H := ⟨rfl, fun j x hx => by have := hg j x hx; omega, fun _ _ => rfl⟩
theorem Moved.set {k s : Nat} {H : List Hd} (hg : Gens k H) (y : Hd) (h0 : 0 ≤ y.gen) (h1 : y.gen ≤ (k + 1 : Nat)) : Moved k s H (H.set s y) := by
  refine ⟨by simp, fun j x hx => ?_, fun j hj => by rw [List.getElem?_set_ne (Ne.symm hj)]⟩
  rw [List.getElem?_set] at hx
  split at hx
  · split at hx
    · injection hx with hx; subst hx; exact ⟨h0, h1⟩
    · cases hx
  · have := hg j x hx; omega
theorem sl_get (l : List Sl) (i : Nat) (y : Sl) (h : l[i]? = some y) (j : Nat) (u : Value) (hu : y.cells[j]? = some u) : (l.flatMap Sl.cells)[i * 8 + j]? = some u := by
  induction l generalizing i with
  | nil => simp at h
  | cons z l ih =>
    have hj : j < y.cells.length := (List.getElem?_eq_some_iff.1 hu).1
    have h8 : ∀ q : Sl, q.cells.length = 8 := fun q => rfl
    rw [List.flatMap_cons]
    cases i with
    | zero =>
      simp at h; subst h
      rw [Nat.zero_mul, Nat.zero_add, List.getElem?_append_left hj]
      exact hu
    | succ i =>
      have e : (i + 1) * 8 + j = z.cells.length + (i * 8 + j) := by rw [h8]; omega
      rw [e, List.getElem?_append_right (by omega), Nat.add_sub_cancel_left]
      exact ih i (by simpa using h)
section
variable {w0 w : World} {t : Tb} {H : List Hd} {W : List Int} {k s : Nat}
theorem ts_claim_raw (h : TS w0 w t H W) (hg : Gens k H) (hk : k ≤ 4611686018427387904) (hs : s < H.length) (th : Int) : Calls Try.prog 23 #[.pointer (some ⟨t.q, 0, none⟩), .int .i64 s, .int .i64 th] w fun e w' => ∃ a b : Int, ∃ H', e = .returned (.tuple #[.int .i64 a, .int .i64 b]) ∧ TS w0 w' t H' W ∧ Moved k s H H' ∧ Keeps [t.b, t.c] w w' := by
  obtain ⟨x, hx⟩ : ∃ x, H[s]? = some x := ⟨_, List.getElem?_eq_getElem hs⟩
  have hgx := hg s x hx
  by_cases ht : 1 ≤ th ∧ th ≤ 8
  · by_cases h0 : x.state = 0
    · exact (h.step (claim_ok w t none H W h.tab 0 MS.zero (met0 _) room0 s x hx th ht.1 ht.2 h0)).mono fun e w' ⟨he, h1, h2⟩ => ⟨_, _, _, he, h1, Moved.set hg _ (by simp only [wrap64]; omega) (by simp only [wrap64]; omega), h2⟩
    · exact (h.step (claim_held w t none H W h.tab 0 MS.zero (met0 _) room0 s x hx th ht.1 ht.2 (by omega) h0)).mono fun e w' ⟨he, h1, h2⟩ => ⟨_, _, _, he, h1, Moved.same hg, h2⟩
  · exact (h.still (claim_bad w t.q s th (by omega))).mono fun e w' ⟨he, h1, h2⟩ => ⟨_, _, _, he, h1, Moved.same hg, h2⟩
theorem ts_ready_raw (h : TS w0 w t H W) (hg : Gens k H) (hk : k ≤ 4611686018427387904) (hs : s < H.length) (g st : Int) : Calls Try.prog 24 #[.pointer (some ⟨t.q, 0, none⟩), .int .i64 s, .int .i64 g, .int .i64 st] w fun e w' => ∃ b : Int, ∃ H', e = .returned (.int .i64 b) ∧ TS w0 w' t H' W ∧ Moved k s H H' ∧ Keeps [t.b, t.c] w w' := by
  obtain ⟨x, hx⟩ : ∃ x, H[s]? = some x := ⟨_, List.getElem?_eq_getElem hs⟩
  have hgx := hg s x hx
  by_cases ht : 1 ≤ st
  · by_cases h0 : x.state = 1
    · by_cases h1 : x.gen = g
      · exact (h.step (ready_ok w t none H W h.tab 0 MS.zero (met0 _) room0 s x hx g st ht h0 h1)).mono fun e w' ⟨he, h1, h2⟩ => ⟨_, _, he, h1, Moved.set hg _ (by simp only; omega) (by simp only; omega), h2⟩
      · exact (h.step (ready_no w t none H W h.tab 0 MS.zero (met0 _) room0 s x hx g st ht (by omega) h0 h1)).mono fun e w' ⟨he, h1, h2⟩ => ⟨_, _, he, h1, Moved.same hg, h2⟩
    · exact (h.step (ready_not w t none H W h.tab 0 MS.zero (met0 _) room0 s x hx g st ht (by omega) h0)).mono fun e w' ⟨he, h1, h2⟩ => ⟨_, _, he, h1, Moved.same hg, h2⟩
  · exact (h.still (ready_bad w t.q s g st (by omega))).mono fun e w' ⟨he, h1, h2⟩ => ⟨_, _, he, h1, Moved.same hg, h2⟩
theorem ts_doom_raw (h : TS w0 w t H W) (hg : Gens k H) (hk : k ≤ 4611686018427387904) (hs : s < H.length) (g b : Int) : Calls Try.prog 21 #[.pointer (some ⟨t.q, 0, none⟩), .int .i64 s, .int .i64 g, .int .i64 b] w fun e w' => ∃ b : Int, ∃ H', e = .returned (.int .i64 b) ∧ TS w0 w' t H' W ∧ Moved k s H H' ∧ Keeps [t.b, t.c] w w' := by
  obtain ⟨x, hx⟩ : ∃ x, H[s]? = some x := ⟨_, List.getElem?_eq_getElem hs⟩
  have hgx := hg s x hx
  by_cases ht : 1 ≤ b ∧ b ≤ 8
  · by_cases h0 : x.state = 2
    · by_cases h1 : x.gen = g
      · by_cases hd : x.doomed = true
        · exact (h.step (doom_old w t none H W h.tab 0 MS.zero (met0 _) room0 s x hx g b ht.1 ht.2 h0 h1 hd)).mono fun e w' ⟨he, h1, h2⟩ => ⟨_, _, he, h1, Moved.set hg _ (by omega) (by omega), h2⟩
        · exact (h.step (doom_new w t none H W h.tab 0 MS.zero (met0 _) room0 s x hx g b ht.1 ht.2 h0 h1 (by simpa using hd))).mono fun e w' ⟨he, h1, h2⟩ => ⟨_, _, he, h1, Moved.set hg _ (by simp only; omega) (by simp only; omega), h2⟩
      · by_cases hd : x.doomed = true
        · exact (h.step (doom_no1 w t none H W h.tab 0 MS.zero (met0 _) room0 s x hx g b ht.1 ht.2 (by omega) h0 h1 hd)).mono fun e w' ⟨he, h1, h2⟩ => ⟨_, _, he, h1, Moved.same hg, h2⟩
        · exact (h.step (doom_no0 w t none H W h.tab 0 MS.zero (met0 _) room0 s x hx g b ht.1 ht.2 (by omega) h0 h1 (by simpa using hd))).mono fun e w' ⟨he, h1, h2⟩ => ⟨_, _, he, h1, Moved.same hg, h2⟩
    · by_cases hd : x.doomed = true
      · exact (h.step (doom_not1 w t none H W h.tab 0 MS.zero (met0 _) room0 s x hx g b ht.1 ht.2 (by omega) h0 hd)).mono fun e w' ⟨he, h1, h2⟩ => ⟨_, _, he, h1, Moved.same hg, h2⟩
      · exact (h.step (doom_not0 w t none H W h.tab 0 MS.zero (met0 _) room0 s x hx g b ht.1 ht.2 (by omega) h0 (by simpa using hd))).mono fun e w' ⟨he, h1, h2⟩ => ⟨_, _, he, h1, Moved.same hg, h2⟩
  · exact (h.still (doom_bad w t.q s g b (by omega))).mono fun e w' ⟨he, h1, h2⟩ => ⟨_, _, he, h1, Moved.same hg, h2⟩
theorem ts_free_raw (h : TS w0 w t H W) (hg : Gens k H) (hk : k ≤ 4611686018427387904) (hs : s < H.length) (g : Int) : Calls Try.prog 22 #[.pointer (some ⟨t.q, 0, none⟩), .int .i64 s, .int .i64 g] w fun e w' => ∃ b : Int, ∃ H', e = .returned (.int .i64 b) ∧ TS w0 w' t H' W ∧ Moved k s H H' ∧ Keeps [t.b, t.c] w w' := by
  obtain ⟨x, hx⟩ : ∃ x, H[s]? = some x := ⟨_, List.getElem?_eq_getElem hs⟩
  have hgx := hg s x hx
  by_cases h0 : x.state = 0
  · exact (h.step (free_not w t none H W h.tab 0 MS.zero (met0 _) room0 s x hx g (by omega) h0)).mono fun e w' ⟨he, h1, h2⟩ => ⟨_, _, he, h1, Moved.same hg, h2⟩
  · by_cases h1 : x.gen = g
    · exact (h.step (free_ok w t none H W h.tab 0 MS.zero (met0 _) room0 s x hx g h0 h1)).mono fun e w' ⟨he, h1, h2⟩ => ⟨_, _, he, h1, Moved.set hg _ (by simp only; omega) (by simp only; omega), h2⟩
    · exact (h.step (free_no w t none H W h.tab 0 MS.zero (met0 _) room0 s x hx g (by omega) h0 h1)).mono fun e w' ⟨he, h1, h2⟩ => ⟨_, _, he, h1, Moved.same hg, h2⟩
/-- What Put leaves of the words. -/
def Wrote (s : Nat) (W W' : List Int) : Prop := W'.length = W.length ∧ ∀ j, j ≠ 2 * s → j ≠ 2 * s + 1 → W'[j]? = W[j]?
theorem ts_put_raw (h : TS w0 w t H W) (hs : s < H.length) (j : Int) (x : Int) : Calls Try.prog 71 #[.pointer (some ⟨t.q, 0, none⟩), .int .i64 s, .int .i64 j, .int .u64 x] w fun e w' => ∃ b : Int, ∃ W', e = .returned (.int .i64 b) ∧ TS w0 w' t H W' ∧ Wrote s W W' ∧ Keeps [t.b, t.c] w w' := by
  by_cases hj : 0 ≤ j ∧ j < 2
  · obtain ⟨i, rfl⟩ : ∃ i : Nat, j = i := ⟨j.toNat, by omega⟩
    exact (h.step (slots_put w t none H W h.tab 0 MS.zero (met0 _) room0 s i ⟨hs, by omega⟩ x)).mono fun e w' ⟨he, h1, h2⟩ => ⟨_, _, he, h1, ⟨by simp, fun q h3 h4 => by rw [List.getElem?_set_ne (by omega)]⟩, h2⟩
  · exact (h.still (slots_put_no w t none H W h.tab s j (by omega) x)).mono fun e w' ⟨he, h1, h2⟩ => ⟨_, _, he, h1, ⟨rfl, fun _ _ _ => rfl⟩, h2⟩
/-- Now: a new row of slots. -/
theorem ts_now (h : TS w0 w t H W) : Calls Try.prog 45 #[.pointer (some ⟨t.q, 0, none⟩)] w fun e w' => ∃ a c, e = .returned (.slice (some ⟨a, 0, none⟩) H.length c) ∧ TS w0 w' t H W ∧ w.heap.size ≤ a ∧ (∀ (k : Nat) (y : Sl), (slL H W)[k]? = some y → w'.rangeAt a (k * 8) y.cells) ∧ Keeps [] w w' :=
  (slots_now w t none H W h.tab).mono fun e w' ⟨v, he, hr⟩ => by
    have hlen := slL_len H W h.tab.len
    have hn := h.tab.n1
    rcases hr.1.2 with ⟨_, h0⟩ | ⟨a, cap, cur, rfl, hb, hg, h3, h4, _⟩
    · omega
    · refine ⟨a, cap, by rw [he, hlen], h.calm hr.2, hb, fun k y hy j v hv => ?_, hr.2⟩
      have hk := (List.getElem?_eq_some_iff.1 hy).1
      have hj : j < 8 := (List.getElem?_eq_some_iff.1 hv).1
      exact (hr.1.cellAt (k * 8 + j) (by omega)).trans (sl_get (slL H W) k y hy j v hv)
end
end Go.Proofs.Ytelljfhhjapgnaa
