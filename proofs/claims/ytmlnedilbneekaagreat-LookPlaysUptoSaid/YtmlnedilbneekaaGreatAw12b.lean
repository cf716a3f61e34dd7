/- quashlaw12.awake: the document's examples. -/
import Derived.Test.YtmlnedilbneekaaGreatLookE
import Derived.Test.YtmlnedilbneekaaGreatSpF
import Derived.Test.YtmlnedilbneekaaGreatLookM
import Derived.Test.YtmlnedilbneekaaGreatVcSm
namespace Go.Proofs.YtmlnedilbneekaaGreat
open Go.RowKit
set_option linter.unusedVariables false
theorem Sp.wu_of {S S' : Sp} (h : S.wu) (e : S'.W = S.W) : S'.wu := by unfold Sp.wu; rw [e]; exact h
theorem Sp.claim_W (S : Sp) (i t : Int) : (S.claim i t).2.W = S.W ∧ (S.claim i t).2.c = S.c := by unfold Sp.claim; split; exact ⟨rfl, rfl⟩; split; exact ⟨rfl, rfl⟩; split <;> exact ⟨rfl, rfl⟩
theorem Sp.ready_W (S : Sp) (i g t : Int) : (S.ready i g t).2.W = S.W ∧ (S.ready i g t).2.c = S.c := by unfold Sp.ready; split; exact ⟨rfl, rfl⟩; split; exact ⟨rfl, rfl⟩; split <;> exact ⟨rfl, rfl⟩
theorem Sp.doom_W (S : Sp) (i g t : Int) : (S.doom i g t).2.W = S.W ∧ (S.doom i g t).2.c = S.c := by unfold Sp.doom; split; exact ⟨rfl, rfl⟩; split; exact ⟨rfl, rfl⟩; split <;> exact ⟨rfl, rfl⟩
theorem Sp.free_W (S : Sp) (i g : Int) : (S.free i g).2.W = S.W ∧ (S.free i g).2.c = S.c := by unfold Sp.free; split; exact ⟨rfl, rfl⟩; split <;> exact ⟨rfl, rfl⟩
theorem Sp.put_wu {S : Sp} (h : S.wu) (i j x : Int) (hx : isU x) : (S.put i j x).2.wu ∧ (S.put i j x).2.c = S.c := by
  unfold Sp.put
  split
  · exact ⟨h, rfl⟩
  · refine ⟨fun v hv => ?_, rfl⟩
    rcases List.mem_or_eq_of_mem_set hv with h1 | h1
    · exact h v h1
    · subst h1; exact hx
theorem Sp.new_wu (c : Cf) : (Sp.new c).wu := fun v hv => by
  simp only [Sp.new] at hv
  rw [List.mem_replicate] at hv
  rw [hv.2]
  exact ⟨by decide, by decide⟩
/-- Who is not free was claimed. -/
def GenOk (S : Sp) : Prop := ∀ x, x ∈ S.H → 0 ≤ x.gen ∧ (x.state ≠ 0 → 1 ≤ x.gen)
theorem GenOk.new (c : Cf) : GenOk (Sp.new c) := fun x hx => by
  simp only [Sp.new] at hx
  rw [List.mem_replicate] at hx
  rw [hx.2]
  exact ⟨by decide, fun h => absurd rfl h⟩
theorem GenOk.at_ {S : Sp} (h : GenOk S) {i : Int} {x : Hd} (hx : nth S.H i = some x) : 0 ≤ x.gen ∧ (x.state ≠ 0 → 1 ≤ x.gen) := h x (List.mem_of_getElem? (nth_len hx).2.2)
theorem GenOk.set {S S' : Sp} (h : GenOk S) (i : Nat) (y : Hd) (hy : 0 ≤ y.gen ∧ (y.state ≠ 0 → 1 ≤ y.gen)) (e : S'.H = S.H.set i y) : GenOk S' := fun x hx => by
  rw [e] at hx
  rcases List.mem_or_eq_of_mem_set hx with h1 | h1
  · exact h x h1
  · rw [h1]; exact hy
theorem GenOk.same {S S' : Sp} (h : GenOk S) (e : S'.H = S.H) : GenOk S' := fun x hx => h x (e ▸ hx)
theorem GenOk.put {S : Sp} (h : GenOk S) (i j x : Int) : GenOk (S.put i j x).2 := by
  unfold Sp.put
  split
  · exact h
  · exact h.same rfl
theorem GenOk.claim {S : Sp} (h : GenOk S) (i t : Int) : GenOk (S.claim i t).2 := by
  unfold Sp.claim
  split
  · exact h
  · split
    · exact h
    · rename_i x hx
      have h1 := h.at_ hx
      split
      · exact h.set i.toNat ⟨x.gen + 1, 1, 0, t, false, 0⟩ ⟨by show 0 ≤ x.gen + 1; omega, fun _ => by show 1 ≤ x.gen + 1; omega⟩ rfl
      · exact h.same rfl
theorem GenOk.ready {S : Sp} (h : GenOk S) (i g t : Int) : GenOk (S.ready i g t).2 := by
  unfold Sp.ready
  split
  · exact h
  · split
    · exact h
    · rename_i x hx
      have h1 := h.at_ hx
      split
      · rename_i h2
        exact h.set i.toNat ⟨x.gen, 2, t, x.thread, x.doomed, x.who⟩ ⟨h1.1, fun _ => h1.2 (by rw [h2.1]; decide)⟩ rfl
      · exact h.same rfl
theorem GenOk.doom {S : Sp} (h : GenOk S) (i g t : Int) : GenOk (S.doom i g t).2 := by
  unfold Sp.doom
  split
  · exact h
  · split
    · exact h
    · rename_i x hx
      have h1 := h.at_ hx
      split
      · rename_i h2
        refine h.set i.toNat (x.doom t) ?_ rfl
        rw [Hd.doom_gen]
        exact ⟨h1.1, fun _ => h1.2 (by rw [h2.1]; decide)⟩
      · exact h.same rfl
/-- A space of eight slots, laid since w; k: how many calls at most. -/
structure Seated (w wr : World) (z : Sb) (c : Cf) (k : Nat) : Prop where
  ex : ∃ F S, SP w wr z F S ∧ Fit k S ∧ S.wu ∧ S.c = c ∧ GenOk S
section
variable {w wr w' : World} {z : Sb} {c : Cf} {k : Nat}
theorem Seated.calm (h : Seated w wr z c k) (hk : Keeps [] wr w') : Seated w w' z c k := by
  obtain ⟨F, S, h1, h2⟩ := h
  exact ⟨F, S, h1.calm hk, h2⟩
theorem Seated.keep (h : Seated w wr z c k) : Keeps [] w wr := by
  obtain ⟨F, S, h1, _⟩ := h
  exact h1.keep
theorem Seated.slots (h : Seated w wr z c k) : Calls Tryz.prog 25 #[PT z.p] wr fun e w' => e = .returned (PT z.t.q) ∧ wr = w' := by
  obtain ⟨F, S, h1, _⟩ := h
  exact sp_slots h1
theorem Seated.len (h : Seated w wr z c k) : Calls Tryz.prog 106 #[PT z.t.q] wr fun e w' => e = .returned (.int .i64 c.slots) ∧ wr = w' := by
  obtain ⟨F, S, h1, h2, h3, h4, hg⟩ := h
  have h5 := sp_len h1
  have h6 := h2.slots
  have h7 := h2.c.2.1
  rw [h4] at h6 h7
  rw [show (S.H.length : Int) = c.slots from by omega] at h5
  exact h5
theorem Seated.put (h : Seated w wr z c k) (hk : k ≤ 1099511627775) (i j x : Int) (hx : isU x) : Calls Tryz.prog 28 #[PT z.t.q, .int .i64 i, .int .i64 j, .int .u64 x] wr fun e w' => ∃ a : Int, e = .returned (.int .i64 a) ∧ Seated w w' z c (k + 1) := by
  obtain ⟨F, S, h1, h2, h3, h4, hg⟩ := h
  exact (sp_put h1 h2 (by omega) i j x).mono fun e w' ⟨he, F', h5, _, _⟩ => ⟨_, he, F', _, h5, h2.put i j x, (Sp.put_wu h3 i j x hx).1, (Sp.put_wu h3 i j x hx).2.trans h4, hg.put i j x⟩
theorem Seated.claim (h : Seated w wr z c k) (hk : k ≤ 1099511627775) (i t : Int) : Calls Tryz.prog 26 #[PT z.t.q, .int .i64 i, .int .i64 t] wr fun e w' => ∃ a b : Int, e = .returned (.tuple #[.int .i64 a, .int .i64 b]) ∧ Seated w w' z c (k + 1) := by
  obtain ⟨F, S, h1, h2, h3, h4, hg⟩ := h
  exact (sp_claim h1 h2 (by omega) i t).mono fun e w' ⟨he, F', h5, _, _⟩ => ⟨_, _, he, F', _, h5, h2.claim i t, Sp.wu_of h3 (S.claim_W i t).1, (S.claim_W i t).2.trans h4, hg.claim i t⟩
theorem Seated.ready (h : Seated w wr z c k) (hk : k ≤ 1099511627775) (i g t : Int) : Calls Tryz.prog 29 #[PT z.t.q, .int .i64 i, .int .i64 g, .int .i64 t] wr fun e w' => ∃ a : Int, e = .returned (.int .i64 a) ∧ Seated w w' z c (k + 1) := by
  obtain ⟨F, S, h1, h2, h3, h4, hg⟩ := h
  exact (sp_ready h1 h2 (by omega) i g t).mono fun e w' ⟨he, F', h5, _, _⟩ => ⟨_, he, F', _, h5, h2.ready i g t, Sp.wu_of h3 (S.ready_W i g t).1, (S.ready_W i g t).2.trans h4, hg.ready i g t⟩
theorem Seated.doom (h : Seated w wr z c k) (hk : k ≤ 1099511627775) (i g t : Int) : Calls Tryz.prog 88 #[PT z.t.q, .int .i64 i, .int .i64 g, .int .i64 t] wr fun e w' => ∃ a : Int, e = .returned (.int .i64 a) ∧ Seated w w' z c (k + 1) := by
  obtain ⟨F, S, h1, h2, h3, h4, hg⟩ := h
  exact (sp_doom h1 h2 (by omega) i g t).mono fun e w' ⟨he, F', h5, _, _⟩ => ⟨_, he, F', _, h5, h2.doom i g t, Sp.wu_of h3 (S.doom_W i g t).1, (S.doom_W i g t).2.trans h4, hg.doom i g t⟩
end
end Go.Proofs.YtmlnedilbneekaaGreat

namespace Go.Proofs.YtmlnedilbneekaaGreat
open Go.RowKit
set_option linter.unusedVariables false
def c12 (n : Int) : Cf := ⟨1, n, 8, 1, 0, 0⟩
theorem table_any (w : World) (n : Int) (h1 : 1 ≤ n) (h8 : n ≤ 8) : Calls Tryz.prog 24 #[.int .i64 n] w fun e w' => ∃ z F, e = .returned (.tuple #[PT z.p, .bool true]) ∧ SP w w' z F (Sp.new (c12 n)) := by
  have hn := fun w => sp_new w (c12 n) (by unfold Cf.ok c12; simp; omega)
  have HN : Hid (∀ w, Calls Tryz.prog 6 #[.agg #[.int .i64 1, .int .i64 n, .int .i64 8, .int .i64 1, .int .i64 0, .int .i64 0]] w fun e w' => ∃ z F, e = .returned (.tuple #[PT z.p, .int .i64 0]) ∧ SP w w' z F (Sp.new (c12 n))) := hn
  clear hn
  go_enter Tryz.func24, Tryz.ntmps24
  go_wp2_with fail
  refine (HN.out _).mono ?_
  rintro e w1 ⟨z, F, rfl, hs⟩
  have HS := Lib.hid hs
  clear hs HN
  go_wp2_with fail
  refine (sp_slots HS.out).mono ?_
  rintro e wq ⟨rfl, rfl⟩
  go_wp2_with fail
  go_ret2
  exact ⟨z, F, rfl, HS.out⟩
end Go.Proofs.YtmlnedilbneekaaGreat

namespace Go.Proofs.YtmlnedilbneekaaGreat
open Go.RowKit
set_option linter.unusedVariables false
theorem lk_new_bad {w0 w : World} {z : Sb} {F : List Nat} {S : Sp} (h : SP w0 w z F S) (s : Sg) (slot : Int) (hb : slot < 0 ∨ (S.H.length : Int) ≤ slot) : Calls Tryz.prog 30 #[PT z.p, .int .i64 slot, .agg #[.int .u64 (s.a : Int), .int .u64 (s.b : Int)]] w fun e w' => e = .returned (.tuple #[.pointer none, .int .i64 2]) ∧ Keeps [] w w' := by
  obtain ⟨n, hn⟩ : ∃ n, S.H.length = n := ⟨_, rfl⟩
  have hk0 : Keeps [] w (w.alloc (.cells #[.int .u64 (s.a : Int), .int .u64 (s.b : Int)] 47)) := by simp
  have h0 := h.calm hk0
  have QS := Lib.hid (fun w' (hk : Keeps [] (w.alloc (.cells #[.int .u64 (s.a : Int), .int .u64 (s.b : Int)] 47)) w') => slots_held h0 hk)
  have QL := Lib.hid (fun w' (hk : Keeps [] (w.alloc (.cells #[.int .u64 (s.a : Int), .int .u64 (s.b : Int)] 47)) w') => len_heldS h0 hk)
  rw [hn] at hb QL
  have HK := Lib.hid hk0
  clear hk0 h0 h hn
  by_cases hlo : slot < 0
  · have n1 : decide (slot < 0) = true := by simpa using hlo
    clear hb
    go_enter Tryz.func30, Tryz.ntmps30
    go_wp2_with fail
    refine (QS.out _ (by simp)).mono ?_
    rintro e w1 ⟨rfl, hk1⟩
    go_wp2_with fail
    refine (QL.out _ hk1).mono ?_
    rintro e w2 ⟨rfl, hk2⟩
    go_wp2_with fail
    go_ret2
    exact ⟨rfl, HK.out.trans hk2 (by simp)⟩
  · have n1 : decide (slot < 0) = false := by simpa using hlo
    have n2 : decide (slot ≥ (n : Int)) = true := by simp; omega
    clear hb
    go_enter Tryz.func30, Tryz.ntmps30
    go_wp2_with fail
    refine (QS.out _ (by simp)).mono ?_
    rintro e w1 ⟨rfl, hk1⟩
    go_wp2_with fail
    refine (QL.out _ hk1).mono ?_
    rintro e w2 ⟨rfl, hk2⟩
    go_wp2_with fail
    go_ret2
    exact ⟨rfl, HK.out.trans hk2 (by simp)⟩
namespace Aw12
def s1 : Sp := ((Sp.new (c12 3)).claim 1 4).2
def s2 : Sp := (s1.free 1 1).2
def s3 : Sp := (s2.claim 1 4).2
def s4 : Sp := (s3.put 1 0 6).2
def s5 : Sp := (s4.ready 1 2 9).2
def s6 : Sp := (s5.claim 2 5).2
def x0 : Lk := Lk.new 3 0 ⟨2, 0⟩
def run : Nat → Lk × Sp
  | 0 => (x0, s6)
  | n + 1 => (((run n).1.step (run n).2).2.1, ((run n).1.step (run n).2).2.2)
theorem fit6 : Fit 6 s6 := (((((Fit.new (c := c12 3) (by decide)).claim 1 4).free 1 1).claim 1 4).put 1 0 6 |>.ready 1 2 9).claim 2 5
theorem wu6 : s6.wu := by
  have h := Sp.new_wu (c12 3)
  have h1 := Sp.wu_of h (Sp.claim_W (Sp.new (c12 3)) 1 4).1
  have h2 := Sp.wu_of h1 (Sp.free_W s1 1 1).1
  have h3 := Sp.wu_of h2 (Sp.claim_W s2 1 4).1
  have h4 := (Sp.put_wu h3 1 0 6 ⟨by decide, by decide⟩).1
  have h5 := Sp.wu_of h4 (Sp.ready_W s4 1 2 9).1
  exact Sp.wu_of h5 (Sp.claim_W s5 2 5).1
theorem inv : ∀ n, Fit (6 + n) (run n).2 ∧ (run n).2.wu ∧ (run n).1.Ok n
  | 0 => ⟨fit6, wu6, Lk.new_ok (by decide) 0 ⟨by decide, by decide⟩⟩
  | n + 1 => by
    obtain ⟨h1, h2, h3⟩ := inv n
    exact ⟨h1.lkstep _, h2.lkstep _, h3.step h2⟩
theorem tr : ∀ n, n < 4 → (run n).1.turns.isEmpty = false ∧ ((run n).1.step (run n).2).1 = 1
  | 0, _ => ⟨rfl, rfl⟩
  | 1, _ => ⟨rfl, rfl⟩
  | 2, _ => ⟨rfl, rfl⟩
  | 3, _ => ⟨rfl, rfl⟩
  | n + 4, h => absurd h (by omega)
def vs : List Vc := [⟨1, 2, 9, 4⟩]
theorem end4 : (run 4).1.turns.isEmpty = true ∧ (run 4).1.victims = vs := ⟨rfl, rfl⟩
def y0 : Dm := Dm.new 5 vs
theorem dstep : (y0.step (run 4).2).1 = 1 ∧ (y0.step (run 4).2).2.1 = ⟨5, [], vs⟩ := ⟨rfl, rfl⟩
def s11 : Sp := (y0.step (run 4).2).2.2
theorem lk11 : (s11.look 1).1.1 = ⟨2, 2, 9, 4, true, 5⟩ := rfl
end Aw12
open Aw12
set_option maxRecDepth 100000 in
set_option maxHeartbeats 8000000 in
theorem awake12 (w : World) : Calls Tryz.prog 5 #[] w fun e w' => e = .returned (.bool true) ∧ Keeps [] w w' := by
  go_enter Tryz.func5, Tryz.ntmps5
  go_wp2_with fail
  refine (table_any _ 3 (by decide) (by decide)).mono ?_
  rintro e w1 ⟨z, F, rfl, hs⟩
  have HS := Lib.hid hs
  have HF : Hid (Fit 0 (Sp.new (c12 3))) := Fit.new (c := c12 3) (by decide)
  clear hs
  go_wp2_with fail
  refine (sp_slots HS.out).mono ?_
  rintro e wq ⟨rfl, rfl⟩
  go_wp2_with fail
  refine (sp_claim HS.out HF.out (by decide) 1 4).mono ?_
  rintro e w2 ⟨rfl, F1, hs, hk, hn⟩
  replace HF := Lib.hid (HF.out.claim 1 4)
  clear HS
  have HS := Lib.hid hs
  clear hs hk hn
  go_wp2_with fail
  refine (sp_free HS.out HF.out (by decide) 1 1).mono ?_
  rintro e w3 ⟨rfl, F2, hs, hk, hn⟩
  replace HF := Lib.hid (HF.out.free 1 1)
  clear HS
  have HS := Lib.hid hs
  clear hs hk hn
  go_wp2_with fail
  refine (sp_claim HS.out HF.out (by decide) 1 4).mono ?_
  rintro e w4 ⟨rfl, F3, hs, hk, hn⟩
  replace HF := Lib.hid (HF.out.claim 1 4)
  clear HS
  have HS := Lib.hid hs
  clear hs hk hn
  go_wp2_with fail
  refine (sp_put HS.out HF.out (by decide) 1 0 6).mono ?_
  rintro e w5 ⟨rfl, F4, hs, hk, hn⟩
  replace HF := Lib.hid (HF.out.put 1 0 6)
  clear HS
  have HS := Lib.hid hs
  clear hs hk hn
  go_wp2_with fail
  refine (sp_ready HS.out HF.out (by decide) 1 2 9).mono ?_
  rintro e w6 ⟨rfl, F5, hs, hk, hn⟩
  replace HF := Lib.hid (HF.out.ready 1 2 9)
  clear HS
  have HS := Lib.hid hs
  clear hs hk hn
  go_wp2_with fail
  refine (sp_claim HS.out HF.out (by decide) 2 5).mono ?_
  rintro e w7 ⟨rfl, F6, hs, hk, hn⟩
  replace HF := Lib.hid (HF.out.claim 2 5)
  clear HS
  have HS := Lib.hid hs
  clear hs hk hn
  replace HS : Hid (SP w w7 z F6 s6) := HS
  clear HF
  go_wp2_with fail
  have hq : Calls Tryz.prog 30 #[PT z.p, .int .i64 0, .agg #[.int .u64 2, .int .u64 0]] w7 fun e w' => ∃ b G, e = .returned (.tuple #[PT b, .int .i64 0]) ∧ LK w w' z F6 b G x0 ∧ (∀ q, q ∈ G → w7.heap.size ≤ q) ∧ Keeps [] w7 w' := lk_new HS.out fit6 ⟨2, 0⟩ 0 (by decide) (by decide)
  refine hq.mono ?_
  rintro e w8 ⟨b, G, rfl, hl, hg, hk⟩
  replace HS := Lib.hid (HS.out.calm hk)
  have HL := Lib.hid hl
  clear hl hg hk hq
  go_wp2_with fail
  have hq : Calls Tryz.prog 30 #[PT z.p, .int .i64 3, .agg #[.int .u64 2, .int .u64 0]] w8 fun e w' => e = .returned (.tuple #[.pointer none, .int .i64 2]) ∧ Keeps [] w8 w' := lk_new_bad HS.out ⟨2, 0⟩ 3 (.inr (by decide))
  refine hq.mono ?_
  rintro e w9 ⟨rfl, hk⟩
  have HI : Hid (∃ F G, SP w w9 z F (run 0).2 ∧ LK w w9 z F b G (run 0).1) := ⟨F6, G, HS.out.calm hk, HL.out.calm hk⟩
  clear hk hq HS HL
  go_wp2_with fail
  go_loopw [8] (fun i wr => ∃ j : Nat, j ≤ 4 ∧ i = .int .i64 j ∧ ∃ F G, SP w wr z F (run j).2 ∧ LK w wr z F b G (run j).1) (fun i _ => 4 - (intOf i).toNat)
  case atStart => exact ⟨0, by decide, rfl, HI.out⟩
  case round =>
    obtain ⟨j, hj, rfl, Fr, Gr, hs, hl⟩ := hrel
    have HS := Lib.hid hs
    have HL := Lib.hid hl
    clear hs hl HI
    obtain ⟨fi, wi, oi⟩ := inv j
    have FI := Lib.hid fi
    have WI := Lib.hid wi
    have OI := Lib.hid oi
    clear fi wi oi
    by_cases hlt : (j : Int) < 4
    · obtain ⟨t1, t2⟩ := tr j (by omega)
      obtain ⟨tv, wv, vv, ha, _⟩ := HL.out.ex
      have hd := lk_done ha
      rw [t1] at hd
      have HD := Lib.hid hd
      have hst := lk_step HS.out FI.out (by omega) HL.out WI.out OI.out (by omega)
      rw [t2] at hst
      have HST := Lib.hid hst
      clear hd hst t1 t2 ha
      go_wp2_with fail
      refine HD.out.mono ?_
      rintro e wq ⟨rfl, rfl⟩
      go_wp2_with fail
      refine HST.out.mono ?_
      rintro e wa ⟨rfl, F', G', h1, h2, _⟩
      have H1 := Lib.hid h1
      have H2 := Lib.hid h2
      clear h1 h2 HST HD
      go_wp2_with fail
      exact ⟨⟨j + 1, by omega, by simp, F', G', H1.out, H2.out⟩, by simp [intOf]; omega⟩
    · obtain rfl : j = 4 := by omega
      obtain ⟨t1, t2⟩ := end4
      obtain ⟨tv, wv, vv, ha, _⟩ := HL.out.ex
      have hvi := lk_victims ha (by rw [t2]; decide)
      have hd := fun w' (hk : Keeps [] wr w') => lk_done (ha.keeps hk (by simp))
      rw [t2] at hvi
      simp only [t1] at hd
      have HV : Hid (Calls Tryz.prog 33 #[PT b] wr fun e w' => ∃ v, e = .returned v ∧ NewRow 113 4 1 (vcCells vs) [] wr w' v) := hvi
      have HD := Lib.hid hd
      clear hvi hd t1 t2 ha
      go_wp2_with fail
      refine HV.out.mono ?_
      rintro e w10 ⟨v, rfl, ho, hk⟩
      obtain ⟨g, cc, rfl, hgb, hgl⟩ := ho.form (by decide)
      obtain ⟨c0, c1, c2, c3⟩ : w10.cell? ⟨g, 0, none⟩ = some (.int .i64 1) ∧ w10.cell? ⟨g, 1, none⟩ = some (.int .i64 2) ∧ w10.cell? ⟨g, 2, none⟩ = some (.int .i64 9) ∧ w10.cell? ⟨g, 3, none⟩ = some (.int .i64 4) := ⟨(ho.cellAt 0 (by decide)).trans rfl, (ho.cellAt 1 (by decide)).trans rfl, (ho.cellAt 2 (by decide)).trans rfl, (ho.cellAt 3 (by decide)).trans rfl⟩
      have HO : Hid (w10.ownsRow 0 113 4 (.slice (some ⟨g, 0, none⟩) 1 cc) 1 (vcCells vs)) := own_base ho (fun _ _ => Nat.zero_le _)
      have HK := Lib.hid hk
      replace HS := Lib.hid (HS.out.calm hk)
      clear ho hk hgb HV
      go_wp2_with fail
      have hq : Calls Tryz.prog 34 #[PT z.p, .int .i64 5, .slice (some ⟨g, 0, none⟩) 1 cc] w10 fun e w' => ∃ b' G', e = .returned (.tuple #[PT b', .int .i64 0]) ∧ DM w w' z Fr b' G' y0 ∧ (∀ q, q ∈ G' → w10.heap.size ≤ q) ∧ Keeps [] w10 w' := dm_new HS.out FI.out vs HO.out 5 (by decide) (by decide) (by decide) (by decide)
      refine hq.mono ?_
      rintro e w11 ⟨d, G', rfl, hdm, hg, hk⟩
      replace HS := Lib.hid (HS.out.calm hk)
      replace HK := Lib.hid (HK.out.trans hk (by simp))
      have HDM := Lib.hid hdm
      obtain ⟨c0, c1, c2, c3⟩ : w11.cell? ⟨g, 0, none⟩ = some (.int .i64 1) ∧ w11.cell? ⟨g, 1, none⟩ = some (.int .i64 2) ∧ w11.cell? ⟨g, 2, none⟩ = some (.int .i64 9) ∧ w11.cell? ⟨g, 3, none⟩ = some (.int .i64 4) := ⟨(keeps_cell hk hgl (by simp)).trans c0, (keeps_cell hk hgl (by simp)).trans c1, (keeps_cell hk hgl (by simp)).trans c2, (keeps_cell hk hgl (by simp)).trans c3⟩
      clear hdm hg hk hq
      have hvs := vc_same w11 1 2 9 4
      go_wp2_with fail
      refine (HD.out _ HK.out).mono ?_
      rintro e wq ⟨rfl, rfl⟩
      go_wp2_with fail
      have hq : Calls Tryz.prog 35 #[PT d] w11 fun e w' => e = .returned (.int .i64 1) ∧ WentD w w11 w' z Fr G' d s11 ⟨5, [], vs⟩ := dm_step HS.out FI.out (by decide) HDM.out (by decide)
      have F11 : Hid (Fit 11 s11) := FI.out.dmstep y0
      refine hq.mono ?_
      rintro e w12 ⟨rfl, F12, G12, hs, hdm, _⟩
      clear hq HS HDM hvs c0 c1 c2 c3
      have HS := Lib.hid hs
      have HDM := Lib.hid hdm
      clear hs hdm
      go_wp2_with fail
      have hq : Calls Tryz.prog 36 #[PT z.t.q, .int .i64 1] w12 fun e w' => e = .returned (.tuple #[.agg #[.int .i64 2, .int .i64 2, .int .i64 9, .int .i64 4, .bool true, .int .i64 5], .int .i64 0]) ∧ Went w w12 w' z F12 (s11.look 1).2 := sp_look HS.out F11.out (by decide) 1
      refine hq.mono ?_
      rintro e w13 ⟨rfl, F13, hs, hk, hn⟩
      have HDM2 := Lib.hid (HDM.out.step hk hn)
      have F13' : Hid (Fit 12 (s11.look 1).2) := F11.out.look 1
      clear HS HDM hq
      have HS := Lib.hid hs
      clear hs hk hn
      have hka : Keeps [] w13 (w13.alloc (.cells #[.int .i64 2, .int .i64 2, .int .i64 9, .int .i64 4, .bool true, .int .i64 5] 115)) := by simp
      have hb : Blk (w13.alloc (.cells #[.int .i64 2, .int .i64 2, .int .i64 9, .int .i64 4, .bool true, .int .i64 5] 115)) w13.heap.size 115 #[.int .i64 2, .int .i64 2, .int .i64 9, .int .i64 4, .bool true, .int .i64 5] := Blk.new _ _ _
      replace HS := Lib.hid (HS.out.calm hka)
      replace HDM2 := Lib.hid (HDM2.out.calm hka)
      clear hka
      obtain ⟨lv, dv, ha, hGG⟩ := HDM2.out.ex
      have HA := Lib.hid ha
      clear ha hGG
      have HB := Lib.hid hb
      clear hb
      obtain ⟨w14, hw14⟩ : ∃ q, w13.alloc (.cells #[.int .i64 2, .int .i64 2, .int .i64 9, .int .i64 4, .bool true, .int .i64 5] 115) = q := ⟨_, rfl⟩
      obtain ⟨hp, hhp⟩ : ∃ q, w13.heap.size = q := ⟨_, rfl⟩
      go_wp2_with fail
      rw [hw14] at HS HDM2 HA HB
      rw [hhp] at HB
      clear hw14 hhp
      have hd : Calls Tryz.prog 37 #[PT d] w14 fun e w' => e = .returned (.bool true) ∧ w14 = w' := dm_done HA.out
      refine hd.mono ?_
      rintro e wq ⟨rfl, rfl⟩
      clear hd
      go_wp2_with fail
      have hq : Calls Tryz.prog 38 #[PT d] w14 fun e w' => ∃ v, e = .returned v ∧ NewRow 113 4 1 (vcCells vs) [] w14 w' v := dm_doomed HA.out (by decide)
      refine hq.mono ?_
      rintro e w15 ⟨v2, rfl, ho2, hk2⟩
      obtain ⟨g2, cc2, rfl, _, _⟩ := ho2.form (by decide)
      have hb2 := HB.out.keeps hk2 (by simp)
      have d4 : w15.cell? ⟨hp, 4, none⟩ = some (.bool true) := (hb2.cell 4).trans rfl
      have d5 : w15.cell? ⟨hp, 5, none⟩ = some (.int .i64 5) := (hb2.cell 5).trans rfl
      replace HS := Lib.hid (HS.out.calm hk2)
      replace HDM2 := Lib.hid (HDM2.out.calm hk2)
      clear hq hb2 ho2 hk2
      go_wp2_with fail
      have hq : Calls Tryz.prog 35 #[PT d] w15 fun e w' => e = .returned (.int .i64 3) ∧ WentD w w15 w' z F13 G12 d (s11.look 1).2 ⟨5, [], vs⟩ := dm_step HS.out F13'.out (by decide) HDM2.out (by decide)
      refine hq.mono ?_
      rintro e w16 ⟨rfl, F16, G16, hs, _⟩
      have HS2 := Lib.hid hs.keep
      clear hs hq
      go_wp2_with fail
      go_ret
      exact ⟨rfl, HS2.out⟩
end Go.Proofs.YtmlnedilbneekaaGreat
