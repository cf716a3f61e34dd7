/- What steps leave of words and generations; seats beside a space that is being laid. Plain, and the calls. -/
import Derived.Test.YtdhgiohjdhcedaaGreatLookE
import Derived.Test.YtdhgiohjdhcedaaGreatSlotsRaw
namespace Go.Proofs.YtdhgiohjdhcedaaGreat
open Go.RowKit
set_option linter.unusedVariables false
theorem Sp.wu_of {S S' : Sp} (h : S.wu) (e : S'.W = S.W) : S'.wu := by unfold Sp.wu; rw [e]; exact h
theorem Sp.claim_W (S : Sp) (i t : Int) : (S.claim i t).2.W = S.W ∧ (S.claim i t).2.c = S.c := by unfold Sp.claim; split; exact ⟨rfl, rfl⟩; split; exact ⟨rfl, rfl⟩; split <;> exact ⟨rfl, rfl⟩
theorem Sp.ready_W (S : Sp) (i g t : Int) : (S.ready i g t).2.W = S.W ∧ (S.ready i g t).2.c = S.c := by unfold Sp.ready; split; exact ⟨rfl, rfl⟩; split; exact ⟨rfl, rfl⟩; split <;> exact ⟨rfl, rfl⟩
theorem Sp.doom_W (S : Sp) (i g t : Int) : (S.doom i g t).2.W = S.W ∧ (S.doom i g t).2.c = S.c := by unfold Sp.doom; split; exact ⟨rfl, rfl⟩; split; exact ⟨rfl, rfl⟩; split <;> exact ⟨rfl, rfl⟩
theorem Sp.free_W (S : Sp) (i g : Int) : (S.free i g).2.W = S.W ∧ (S.free i g).2.c = S.c := by unfold Sp.free; split; exact ⟨rfl, rfl⟩; split <;> exact ⟨rfl, rfl⟩
theorem Sp.put_wu {S : Sp} (h : S.wu) (i j x : Int) (hx : isU x) : (S.put i j x).2.wu ∧ (S.put i j x).2.c = S.c := by
  unfold Sp.put
  split
  · exact ⟨h, rfl⟩
  · refine ⟨fun v hv => ?_, rfl⟩
    rcases List.mem_or_eq_of_mem_set hv with h1 | h1
    · exact h v h1
    · subst h1; exact hx
theorem Sp.new_wu (c : Cf) : (Sp.new c).wu := fun v hv => by
  simp only [Sp.new] at hv
  rw [List.mem_replicate] at hv
  rw [hv.2]
  exact ⟨by decide, by decide⟩
/-- Who is not free was claimed. -/
def GenOk (S : Sp) : Prop := ∀ x, x ∈ S.H → 0 ≤ x.gen ∧ (x.state ≠ 0 → 1 ≤ x.gen)
theorem GenOk.new (c : Cf) : GenOk (Sp.new c) := fun x hx => by
  simp only [Sp.new] at hx
  rw [List.mem_replicate] at hx
  rw [hx.2]
  exact ⟨by decide, fun h => absurd rfl h⟩
theorem GenOk.at_ {S : Sp} (h : GenOk S) {i : Int} {x : Hd} (hx : nth S.H i = some x) : 0 ≤ x.gen ∧ (x.state ≠ 0 → 1 ≤ x.gen) := h x (List.mem_of_getElem? (nth_len hx).2.2)
theorem GenOk.set {S S' : Sp} (h : GenOk S) (i : Nat) (y : Hd) (hy : 0 ≤ y.gen ∧ (y.state ≠ 0 → 1 ≤ y.gen)) (e : S'.H = S.H.set i y) : GenOk S' := fun x hx => by
  rw [e] at hx
  rcases List.mem_or_eq_of_mem_set hx with h1 | h1
  · exact h x h1
  · rw [h1]; exact hy
theorem GenOk.same {S S' : Sp} (h : GenOk S) (e : S'.H = S.H) : GenOk S' := fun x hx => h x (e ▸ hx)
theorem GenOk.put {S : Sp} (h : GenOk S) (i j x : Int) : GenOk (S.put i j x).2 := by
  unfold Sp.put
  split
  · exact h
  · exact h.same rfl
theorem GenOk.claim {S : Sp} (h : GenOk S) (i t : Int) : GenOk (S.claim i t).2 := by
  unfold Sp.claim
  split
  · exact h
  · split
    · exact h
    · rename_i x hx
      have h1 := h.at_ hx
      split
      · exact h.set i.toNat ⟨x.gen + 1, 1, 0, t, false, 0⟩ ⟨by show 0 ≤ x.gen + 1; omega, fun _ => by show 1 ≤ x.gen + 1; omega⟩ rfl
      · exact h.same rfl
theorem GenOk.ready {S : Sp} (h : GenOk S) (i g t : Int) : GenOk (S.ready i g t).2 := by
  unfold Sp.ready
  split
  · exact h
  · split
    · exact h
    · rename_i x hx
      have h1 := h.at_ hx
      split
      · rename_i h2
        exact h.set i.toNat ⟨x.gen, 2, t, x.thread, x.doomed, x.who⟩ ⟨h1.1, fun _ => h1.2 (by rw [h2.1]; decide)⟩ rfl
      · exact h.same rfl
theorem GenOk.doom {S : Sp} (h : GenOk S) (i g t : Int) : GenOk (S.doom i g t).2 := by
  unfold Sp.doom
  split
  · exact h
  · split
    · exact h
    · rename_i x hx
      have h1 := h.at_ hx
      split
      · rename_i h2
        refine h.set i.toNat (x.doom t) ?_ rfl
        rw [Hd.doom_gen]
        exact ⟨h1.1, fun _ => h1.2 (by rw [h2.1]; decide)⟩
      · exact h.same rfl
/-- A space of eight slots, laid since w; k: how many calls at most. -/
structure Seated (w wr : World) (z : Sb) (c : Cf) (k : Nat) : Prop where
  ex : ∃ F S, SP w wr z F S ∧ Fit k S ∧ S.wu ∧ S.c = c ∧ GenOk S
section
variable {w wr w' : World} {z : Sb} {c : Cf} {k : Nat}
theorem Seated.calm (h : Seated w wr z c k) (hk : Keeps [] wr w') : Seated w w' z c k := by
  obtain ⟨F, S, h1, h2⟩ := h
  exact ⟨F, S, h1.calm hk, h2⟩
theorem Seated.keep (h : Seated w wr z c k) : Keeps [] w wr := by
  obtain ⟨F, S, h1, _⟩ := h
  exact h1.keep
theorem Seated.slots (h : Seated w wr z c k) : Calls Tryz.prog 19 #[PT z.p] wr fun e w' => e = .returned (PT z.t.q) ∧ wr = w' := by
  obtain ⟨F, S, h1, _⟩ := h
  exact sp_slots h1
theorem Seated.len (h : Seated w wr z c k) : Calls Tryz.prog 55 #[PT z.t.q] wr fun e w' => e = .returned (.int .i64 c.slots) ∧ wr = w' := by
  obtain ⟨F, S, h1, h2, h3, h4, hg⟩ := h
  have h5 := sp_len h1
  have h6 := h2.slots
  have h7 := h2.c.2.1
  rw [h4] at h6 h7
  rw [show (S.H.length : Int) = c.slots from by omega] at h5
  exact h5
theorem Seated.put (h : Seated w wr z c k) (hk : k ≤ 1099511627775) (i j x : Int) (hx : isU x) : Calls Tryz.prog 104 #[PT z.t.q, .int .i64 i, .int .i64 j, .int .u64 x] wr fun e w' => ∃ a : Int, e = .returned (.int .i64 a) ∧ Seated w w' z c (k + 1) := by
  obtain ⟨F, S, h1, h2, h3, h4, hg⟩ := h
  exact (sp_put h1 h2 (by omega) i j x).mono fun e w' ⟨he, F', h5, _, _⟩ => ⟨_, he, F', _, h5, h2.put i j x, (Sp.put_wu h3 i j x hx).1, (Sp.put_wu h3 i j x hx).2.trans h4, hg.put i j x⟩
theorem Seated.claim (h : Seated w wr z c k) (hk : k ≤ 1099511627775) (i t : Int) : Calls Tryz.prog 22 #[PT z.t.q, .int .i64 i, .int .i64 t] wr fun e w' => ∃ a b : Int, e = .returned (.tuple #[.int .i64 a, .int .i64 b]) ∧ Seated w w' z c (k + 1) := by
  obtain ⟨F, S, h1, h2, h3, h4, hg⟩ := h
  exact (sp_claim h1 h2 (by omega) i t).mono fun e w' ⟨he, F', h5, _, _⟩ => ⟨_, _, he, F', _, h5, h2.claim i t, Sp.wu_of h3 (S.claim_W i t).1, (S.claim_W i t).2.trans h4, hg.claim i t⟩
theorem Seated.ready (h : Seated w wr z c k) (hk : k ≤ 1099511627775) (i g t : Int) : Calls Tryz.prog 23 #[PT z.t.q, .int .i64 i, .int .i64 g, .int .i64 t] wr fun e w' => ∃ a : Int, e = .returned (.int .i64 a) ∧ Seated w w' z c (k + 1) := by
  obtain ⟨F, S, h1, h2, h3, h4, hg⟩ := h
  exact (sp_ready h1 h2 (by omega) i g t).mono fun e w' ⟨he, F', h5, _, _⟩ => ⟨_, he, F', _, h5, h2.ready i g t, Sp.wu_of h3 (S.ready_W i g t).1, (S.ready_W i g t).2.trans h4, hg.ready i g t⟩
theorem Seated.doom (h : Seated w wr z c k) (hk : k ≤ 1099511627775) (i g t : Int) : Calls Tryz.prog 20 #[PT z.t.q, .int .i64 i, .int .i64 g, .int .i64 t] wr fun e w' => ∃ a : Int, e = .returned (.int .i64 a) ∧ Seated w w' z c (k + 1) := by
  obtain ⟨F, S, h1, h2, h3, h4, hg⟩ := h
  exact (sp_doom h1 h2 (by omega) i g t).mono fun e w' ⟨he, F', h5, _, _⟩ => ⟨_, he, F', _, h5, h2.doom i g t, Sp.wu_of h3 (S.doom_W i g t).1, (S.doom_W i g t).2.trans h4, hg.doom i g t⟩
