/- Layer 13: Most. -/
import Derived.Test.YtcoekpomiljofaaGreatLookE
import Derived.Test.YtcoekpomiljofaaGreatSlotsRaw
import Derived.Test.YtcoekpomiljofaaGreatCmNew
import Derived.Test.YtcoekpomiljofaaGreatCmStep
import Derived.Test.YtcoekpomiljofaaGreatSpace
import Derived.Deep.QuietTactic
import Derived.BigQuiet
namespace Go.Proofs.YtcoekpomiljofaaGreat
open Go.RowKit
set_option linter.unusedVariables false
set_option linter.unusedSimpArgs false
theorem Sp.wu_of {S S' : Sp} (h : S.wu) (e : S'.W = S.W) : S'.wu := by unfold Sp.wu; rw [e]; exact h
theorem Sp.claim_W (S : Sp) (i t : Int) : (S.claim i t).2.W = S.W ∧ (S.claim i t).2.c = S.c := by unfold Sp.claim; split; exact ⟨rfl, rfl⟩; split; exact ⟨rfl, rfl⟩; split <;> exact ⟨rfl, rfl⟩
theorem Sp.ready_W (S : Sp) (i g t : Int) : (S.ready i g t).2.W = S.W ∧ (S.ready i g t).2.c = S.c := by unfold Sp.ready; split; exact ⟨rfl, rfl⟩; split; exact ⟨rfl, rfl⟩; split <;> exact ⟨rfl, rfl⟩
theorem Sp.doom_W (S : Sp) (i g t : Int) : (S.doom i g t).2.W = S.W ∧ (S.doom i g t).2.c = S.c := by unfold Sp.doom; split; exact ⟨rfl, rfl⟩; split; exact ⟨rfl, rfl⟩; split <;> exact ⟨rfl, rfl⟩
theorem Sp.free_W (S : Sp) (i g : Int) : (S.free i g).2.W = S.W ∧ (S.free i g).2.c = S.c := by unfold Sp.free; split; exact ⟨rfl, rfl⟩; split <;> exact ⟨rfl, rfl⟩
theorem Sp.put_wu {S : Sp} (h : S.wu) (i j x : Int) (hx : isU x) : (S.put i j x).2.wu ∧ (S.put i j x).2.c = S.c := by
  unfold Sp.put
  split
  · exact ⟨h, rfl⟩
  · refine ⟨fun v hv => ?_, rfl⟩
    rcases List.mem_or_eq_of_mem_set hv with h1 | h1
    · exact h v h1
    · subst h1; exact hx
theorem Sp.new_wu (c : Cf) : (Sp.new c).wu := fun v hv => by
  simp only [Sp.new] at hv
  rw [List.mem_replicate] at hv
  rw [hv.2]
  exact ⟨by decide, by decide⟩
/-- Who is not free was claimed. -/
def GenOk (S : Sp) : Prop := ∀ x, x ∈ S.H → 0 ≤ x.gen ∧ (x.state ≠ 0 → 1 ≤ x.gen)
theorem GenOk.new (c : Cf) : GenOk (Sp.new c) := fun x hx => by
  simp only [Sp.new] at hx
  rw [List.mem_replicate] at hx
  rw [hx.2]
  exact ⟨by decide, fun h => absurd rfl h⟩
theorem GenOk.at_ {S : Sp} (h : GenOk S) {i : Int} {x : Hd} (hx : nth S.H i = some x) : 0 ≤ x.gen ∧ (x.state ≠ 0 → 1 ≤ x.gen) := h x (List.mem_of_getElem? (nth_len hx).2.2)
theorem GenOk.set {S S' : Sp} (h : GenOk S) (i : Nat) (y : Hd) (hy : 0 ≤ y.gen ∧ (y.state ≠ 0 → 1 ≤ y.gen)) (e : S'.H = S.H.set i y) : GenOk S' := fun x hx => by
  rw [e] at hx
  rcases List.mem_or_eq_of_mem_set hx with h1 | h1
  · exact h x h1
  · rw [h1]; exact hy
theorem GenOk.same {S S' : Sp} (h : GenOk S) (e : S'.H = S.H) : GenOk S' := fun x hx => h x (e ▸ hx)
theorem GenOk.put {S : Sp} (h : GenOk S) (i j x : Int) : GenOk (S.put i j x).2 := by
  unfold Sp.put
  split
  · exact h
  · exact h.same rfl
theorem GenOk.claim {S : Sp} (h : GenOk S) (i t : Int) : GenOk (S.claim i t).2 := by
  unfold Sp.claim
  split
  · exact h
  · split
    · exact h
    · rename_i x hx
      have h1 := h.at_ hx
      split
      · exact h.set i.toNat ⟨x.gen + 1, 1, 0, t, false, 0⟩ ⟨by show 0 ≤ x.gen + 1; omega, fun _ => by show 1 ≤ x.gen + 1; omega⟩ rfl
      · exact h.same rfl
theorem GenOk.ready {S : Sp} (h : GenOk S) (i g t : Int) : GenOk (S.ready i g t).2 := by
  unfold Sp.ready
  split
  · exact h
  · split
    · exact h
    · rename_i x hx
      have h1 := h.at_ hx
      split
      · rename_i h2
        exact h.set i.toNat ⟨x.gen, 2, t, x.thread, x.doomed, x.who⟩ ⟨h1.1, fun _ => h1.2 (by rw [h2.1]; decide)⟩ rfl
      · exact h.same rfl
theorem GenOk.doom {S : Sp} (h : GenOk S) (i g t : Int) : GenOk (S.doom i g t).2 := by
  unfold Sp.doom
  split
  · exact h
  · split
    · exact h
    · rename_i x hx
      have h1 := h.at_ hx
      split
      · rename_i h2
        refine h.set i.toNat (x.doom t) ?_ rfl
        rw [Hd.doom_gen]
        exact ⟨h1.1, fun _ => h1.2 (by rw [h2.1]; decide)⟩
      · exact h.same rfl
/-- A space of eight slots, laid since w; k: how many calls at most. -/
structure Seated (w wr : World) (z : Sb) (c : Cf) (k : Nat) : Prop where
  ex : ∃ F S, SP w wr z F S ∧ Fit k S ∧ S.wu ∧ S.c = c ∧ GenOk S
section
variable {w wr w' : World} {z : Sb} {c : Cf} {k : Nat}
theorem Seated.calm (h : Seated w wr z c k) (hk : Keeps [] wr w') : Seated w w' z c k := by
  obtain ⟨F, S, h1, h2⟩ := h
  exact ⟨F, S, h1.calm hk, h2⟩
theorem Seated.keep (h : Seated w wr z c k) : Keeps [] w wr := by
  obtain ⟨F, S, h1, _⟩ := h
  exact h1.keep
theorem Seated.slots (h : Seated w wr z c k) : Calls Tryz.prog 13 #[PT z.p] wr fun e w' => e = .returned (PT z.t.q) ∧ wr = w' := by
  obtain ⟨F, S, h1, _⟩ := h
  exact sp_slots h1
theorem Seated.len (h : Seated w wr z c k) : Calls Tryz.prog 40 #[PT z.t.q] wr fun e w' => e = .returned (.int .i64 c.slots) ∧ wr = w' := by
  obtain ⟨F, S, h1, h2, h3, h4, hg⟩ := h
  have h5 := sp_len h1
  have h6 := h2.slots
  have h7 := h2.c.2.1
  rw [h4] at h6 h7
  rw [show (S.H.length : Int) = c.slots from by omega] at h5
  exact h5
theorem Seated.put (h : Seated w wr z c k) (hk : k ≤ 1099511627775) (i j x : Int) (hx : isU x) : Calls Tryz.prog 69 #[PT z.t.q, .int .i64 i, .int .i64 j, .int .u64 x] wr fun e w' => ∃ a : Int, e = .returned (.int .i64 a) ∧ Seated w w' z c (k + 1) := by
  obtain ⟨F, S, h1, h2, h3, h4, hg⟩ := h
  exact (sp_put h1 h2 (by omega) i j x).mono fun e w' ⟨he, F', h5, _, _⟩ => ⟨_, he, F', _, h5, h2.put i j x, (Sp.put_wu h3 i j x hx).1, (Sp.put_wu h3 i j x hx).2.trans h4, hg.put i j x⟩
theorem Seated.claim (h : Seated w wr z c k) (hk : k ≤ 1099511627775) (i t : Int) : Calls Tryz.prog 14 #[PT z.t.q, .int .i64 i, .int .i64 t] wr fun e w' => ∃ a b : Int, e = .returned (.tuple #[.int .i64 a, .int .i64 b]) ∧ Seated w w' z c (k + 1) := by
  obtain ⟨F, S, h1, h2, h3, h4, hg⟩ := h
  exact (sp_claim h1 h2 (by omega) i t).mono fun e w' ⟨he, F', h5, _, _⟩ => ⟨_, _, he, F', _, h5, h2.claim i t, Sp.wu_of h3 (S.claim_W i t).1, (S.claim_W i t).2.trans h4, hg.claim i t⟩
theorem Seated.ready (h : Seated w wr z c k) (hk : k ≤ 1099511627775) (i g t : Int) : Calls Tryz.prog 15 #[PT z.t.q, .int .i64 i, .int .i64 g, .int .i64 t] wr fun e w' => ∃ a : Int, e = .returned (.int .i64 a) ∧ Seated w w' z c (k + 1) := by
  obtain ⟨F, S, h1, h2, h3, h4, hg⟩ := h
  exact (sp_ready h1 h2 (by omega) i g t).mono fun e w' ⟨he, F', h5, _, _⟩ => ⟨_, he, F', _, h5, h2.ready i g t, Sp.wu_of h3 (S.ready_W i g t).1, (S.ready_W i g t).2.trans h4, hg.ready i g t⟩
theorem Seated.doom (h : Seated w wr z c k) (hk : k ≤ 1099511627775) (i g t : Int) : Calls Tryz.prog 70 #[PT z.t.q, .int .i64 i, .int .i64 g, .int .i64 t] wr fun e w' => ∃ a : Int, e = .returned (.int .i64 a) ∧ Seated w w' z c (k + 1) := by
  obtain ⟨F, S, h1, h2, h3, h4, hg⟩ := h
  exact (sp_doom h1 h2 (by omega) i g t).mono fun e w' ⟨he, F', h5, _, _⟩ => ⟨_, he, F', _, h5, h2.doom i g t, Sp.wu_of h3 (S.doom_W i g t).1, (S.doom_W i g t).2.trans h4, hg.doom i g t⟩
end
end Go.Proofs.YtcoekpomiljofaaGreat

namespace Go.Proofs.YtcoekpomiljofaaGreat
open Go.RowKit Pol
set_option linter.unusedVariables false
set_option linter.unusedSimpArgs false
/-- The space then. -/
def spL (c : Cf) : Sp := (((Sp.new c).claim 0 1).2.ready 0 1 5).2
def hdL : Hd := ⟨1, 2, 5, 1, false, 0⟩
theorem nth_rep {α : Type} {n : Nat} {a : α} (h : 1 ≤ n) : nth (List.replicate n a) 0 = some a := by
  obtain ⟨m, rfl⟩ : ∃ m, n = m + 1 := ⟨n - 1, by omega⟩
  rfl
theorem new_claim {c : Cf} (h : 1 ≤ c.slots) : (Sp.new c).claim 0 1 = ((1, 0), { (Sp.new c).acc 3 0 3 true with H := (List.replicate c.slots.toNat Hd.zero).set 0 ⟨1, 1, 0, 1, false, 0⟩ }) := by
  have hn : nth (Sp.new c).H 0 = some Hd.zero := nth_rep (by omega)
  unfold Sp.claim
  rw [if_neg (by decide), hn]
  simp [Hd.zero, Sp.new]
theorem spL_is {c : Cf} (h : 1 ≤ c.slots) : ((Sp.new c).claim 0 1).1 = (1, 0) ∧ (((Sp.new c).claim 0 1).2.ready 0 1 5).1 = 0 ∧ spL c = { ((Sp.new c).acc 3 0 3 true).acc 3 0 3 true with H := (List.replicate c.slots.toNat Hd.zero).set 0 hdL } := by
  have hn : nth ((List.replicate c.slots.toNat Hd.zero).set 0 ⟨1, 1, 0, 1, false, 0⟩) 0 = some ⟨1, 1, 0, 1, false, 0⟩ := by
    obtain ⟨m, hm⟩ : ∃ m, c.slots.toNat = m + 1 := ⟨c.slots.toNat - 1, by omega⟩
    rw [hm]
    rfl
  unfold spL
  rw [new_claim h]
  refine ⟨rfl, ?_, ?_⟩
  · unfold Sp.ready
    rw [if_neg (by decide)]
    simp only [hn]
    simp
  · unfold Sp.ready
    rw [if_neg (by decide)]
    simp only [hn]
    simp [hdL, Sp.acc]
theorem spL_fit {c : Cf} (h : c.ok) : Fit 2 (spL c) := ((Fit.new h).claim 0 1).ready 0 1 5
theorem spL_wu (c : Cf) : (spL c).wu := Sp.wu_of (Sp.new_wu c) ((Sp.ready_W _ _ _ _).1.trans (Sp.claim_W _ _ _).1)
theorem spL_c (c : Cf) : (spL c).c = c := (Sp.ready_W _ _ _ _).2.trans (Sp.claim_W _ _ _).2
set_option maxRecDepth 100000 in
set_option maxHeartbeats 2000000 in
theorem lives_any (w : World) (c : Cf) (hc : c.ok) : Calls Tryz.prog 9 #[.agg #[.int .i64 c.cells, .int .i64 c.slots, .int .i64 c.bits, .int .i64 c.tag, .int .i64 c.bias, .int .i64 c.defer]] w fun e w' => ∃ z jb F, e = .returned (.tuple #[PT z.p, PT jb, .bool true]) ∧ SP w w' z F (spL c) ∧ JAt w' jb c 0 ∧ w.heap.size ≤ jb := by
  have hk : Keeps [] w (w.alloc (.cells c.vals 30)) := by simp
  have hb : Blk (w.alloc (.cells c.vals 30)) w.heap.size 30 c.vals := Blk.new _ _ _
  obtain ⟨d0, d1, d2, d3, d4, d5⟩ := cf_cells hb
  have HK := Lib.hid hk
  have HB := Lib.hid hb
  have HCO := Lib.hid hc
  have HQ := Lib.hid (fun w' => sp_new w' c hc)
  have HJ := Lib.hid (fun w' => judge_new w' c hc)
  obtain ⟨s1, s2, s3⟩ := spL_is (c := c) hc.2.1.1
  have HS := Lib.hid (And.intro s1 (And.intro s2 s3))
  clear hk hb hc s1 s2 s3
  unfold Cf.vals at d0 d1 d2 d3 d4 d5
  go_enter Tryz.func9, Tryz.ntmps9
  go_wp2_with fail
  refine (HQ.out _).mono ?_
  rintro e w1 ⟨z, F, rfl, hs⟩
  have HS1 := Lib.hid (hs.base HK.out)
  obtain ⟨d0, d1, d2, d3, d4, d5⟩ := cf_cells (HB.out.keeps hs.keep (by simp))
  have HKW : Hid (Keeps [] w w1) := HK.out.trans hs.keep (by simp)
  clear hs
  go_wp2_with fail
  refine (HJ.out _).mono ?_
  rintro e w2 ⟨jb, rfl, hj, hlo, hk2⟩
  have HS2 := Lib.hid (HS1.out.calm hk2)
  have HJ2 := Lib.hid hj
  have HLO : Hid (w.heap.size ≤ jb) := Nat.le_trans HKW.out.size hlo
  clear hj hlo hk2 d0 d1 d2 d3 d4 d5
  go_wp2_with fail
  refine (sp_slots HS2.out).mono ?_
  rintro e w3 ⟨rfl, rfl⟩
  go_wp2_with fail
  refine (sp_gate HS2.out).mono ?_
  rintro e w3 ⟨rfl, rfl⟩
  go_wp2_with fail
  refine (sp_slots HS2.out).mono ?_
  rintro e w3 ⟨rfl, rfl⟩
  go_wp2_with fail
  refine (sp_claim HS2.out (Fit.new HCO.out) (by decide) 0 1).mono ?_
  rintro e w3 ⟨rfl, F3, h3, k3, n3⟩
  rw [HS.out.1]
  have HS3 := Lib.hid h3
  have HJ3 : Hid (JAt w3 jb c 0) := Blk.keeps HJ2.out k3 (HS2.out.out HJ2.out (by decide))
  clear h3 k3 n3
  go_wp2_with fail
  refine (sp_slots HS3.out).mono ?_
  rintro e w4 ⟨rfl, rfl⟩
  go_wp2_with fail
  refine (sp_ready HS3.out ((Fit.new HCO.out).claim 0 1) (by decide) 0 1 5).mono ?_
  rintro e w4 ⟨rfl, F4, h4, k4, n4⟩
  rw [HS.out.2.1]
  have HS4 := Lib.hid h4
  have HJ4 : Hid (JAt w4 jb c 0) := Blk.keeps HJ3.out k4 (HS3.out.out HJ3.out (by decide))
  clear h4 k4 n4
  go_wp2_with fail
  refine bodyPost_ret (v := .tuple #[PT z.p, PT jb, .bool true]) (by simp [results, Tryz.results9, go_sem]) rfl ?_
  exact ⟨z, jb, F4, rfl, HS4.out, HJ4.out, HLO.out⟩
end Go.Proofs.YtcoekpomiljofaaGreat

namespace Go.Proofs.YtcoekpomiljofaaGreat
open Go.RowKit
set_option linter.unusedVariables false
set_option linter.unusedSimpArgs false
instance (c : Cf) : Decidable c.ok := by unfold Cf.ok; infer_instance
/-- How many steps at most. -/
def mostOf (c : Cf) (n : Int) : Int := if c.ok ∧ 0 ≤ n ∧ n ≤ 16 then (c.slots - 1) * 4 + n + 3 else 0
set_option maxRecDepth 100000 in
theorem cm_most (w : World) (c : Cf) (n : Int) : Calls Tryz.prog 28 #[.agg #[.int .i64 c.cells, .int .i64 c.slots, .int .i64 c.bits, .int .i64 c.tag, .int .i64 c.bias, .int .i64 c.defer], .int .i64 n] w fun e w' => e = .returned (.int .i64 (mostOf c n)) ∧ Keeps [] w w' := by
  have hk : Keeps [] w (w.alloc (.cells c.vals 30)) := by simp
  have hb : Blk (w.alloc (.cells c.vals 30)) w.heap.size 30 c.vals := Blk.new _ _ _
  obtain ⟨d0, d1, d2, d3, d4, d5⟩ := cf_cells hb
  have HK := Lib.hid hk
  have HB := Lib.hid hb
  clear hk hb
  unfold Cf.vals at d0 d1 d2 d3 d4 d5
  obtain ⟨mm, hmm⟩ : ∃ q, mostOf c n = q := ⟨_, rfl⟩
  rw [hmm]
  unfold mostOf at hmm
  by_cases hc : c.ok
  · have HQ : Hid (∀ w : World, Calls Tryz.prog 56 #[.agg #[.int .i64 c.cells, .int .i64 c.slots, .int .i64 c.bits, .int .i64 c.tag, .int .i64 c.bias, .int .i64 c.defer]] w fun e w' => e = .returned (.int .i64 0) ∧ Keeps [] w w') := fun w => by
      have := sp_check w c
      rw [if_pos hc] at this
      exact this
    have hs := hc.2.1
    by_cases h0 : n < 0
    · rw [if_neg (fun h => by omega)] at hmm
      subst hmm
      have e0 : decide (n < 0) = true := decide_eq_true h0
      clear hc hs
      go_enter Tryz.func28, Tryz.ntmps28
      go_wp2_with fail
      refine (HQ.out _).mono ?_
      rintro e w1 ⟨rfl, hk1⟩
      have HK1 := Lib.hid (HK.out.trans hk1 (by simp))
      clear hk1
      go_wp2_with fail
      go_ret
      exact ⟨rfl, HK1.out⟩
    · have e0 : decide (n < 0) = false := decide_eq_false h0
      by_cases h1 : n > 16
      · rw [if_neg (fun h => by omega)] at hmm
        subst hmm
        have e1 : decide (16 < n) = true := decide_eq_true h1
        clear hc hs
        go_enter Tryz.func28, Tryz.ntmps28
        go_wp2_with fail
        refine (HQ.out _).mono ?_
        rintro e w1 ⟨rfl, hk1⟩
        have HK1 := Lib.hid (HK.out.trans hk1 (by simp))
        clear hk1
        go_wp2_with fail
        go_ret
        exact ⟨rfl, HK1.out⟩
      · rw [if_pos ⟨hc, by omega, by omega⟩] at hmm
        have e1 : decide (16 < n) = false := decide_eq_false h1
        have w1 : IntKind.i64.wrap (c.slots - 1) = c.slots - 1 := by rw [IntKind.wrap_i64]; omega
        have w2 : IntKind.i64.wrap ((c.slots - 1) * 4) = (c.slots - 1) * 4 := by rw [IntKind.wrap_i64]; omega
        have w3 : IntKind.i64.wrap ((c.slots - 1) * 4 + n) = (c.slots - 1) * 4 + n := by rw [IntKind.wrap_i64]; omega
        have w4 : IntKind.i64.wrap ((c.slots - 1) * 4 + n + 3) = (c.slots - 1) * 4 + n + 3 := by rw [IntKind.wrap_i64]; omega
        subst hmm
        clear hc
        go_enter Tryz.func28, Tryz.ntmps28
        go_wp2_with fail
        refine (HQ.out _).mono ?_
        rintro e w1 ⟨rfl, hk1⟩
        have HK1 := Lib.hid (HK.out.trans hk1 (by simp))
        obtain ⟨d0, d1, d2, d3, d4, d5⟩ := cf_cells (HB.out.keeps hk1 (by simp))
        clear hk1
        go_wp2_with fail
        go_ret
        exact ⟨rfl, HK1.out⟩
  · rw [if_neg (fun h => hc h.1)] at hmm
    subst hmm
    have HQ : Hid (∀ w : World, Calls Tryz.prog 56 #[.agg #[.int .i64 c.cells, .int .i64 c.slots, .int .i64 c.bits, .int .i64 c.tag, .int .i64 c.bias, .int .i64 c.defer]] w fun e w' => e = .returned (.int .i64 1) ∧ Keeps [] w w') := fun w => by
      have := sp_check w c
      rw [if_neg hc] at this
      exact this
    clear hc
    go_enter Tryz.func28, Tryz.ntmps28
    go_wp2_with fail
    refine (HQ.out _).mono ?_
    rintro e w1 ⟨rfl, hk1⟩
    have HK1 := Lib.hid (HK.out.trans hk1 (by simp))
    clear hk1
    go_wp2_with fail
    go_ret
    exact ⟨rfl, HK1.out⟩
end Go.Proofs.YtcoekpomiljofaaGreat
