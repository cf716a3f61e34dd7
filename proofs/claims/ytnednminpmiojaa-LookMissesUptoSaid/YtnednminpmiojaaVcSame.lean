/- quashref12.Same of two lists that are the same; == of two slots that are the same. -/
import Derived.Test.YtnednminpmiojaaLookE
import Derived.Test.YtnednminpmiojaaElSeat
import Derived.Test.YtnednminpmiojaaSlotsP
import Derived.Test.YtnednminpmiojaaSigMeets
import Derived.Deep.QuietTactic
import Derived.BigQuiet
namespace Go.Proofs.Ytnednminpmiojaa
open Go.RowKit
set_option linter.unusedVariables false
set_option linter.unusedSimpArgs false
theorem i64_and3 (n : Int) : bits .and .i64 n 3 = n % 4 := by
  have hm : (BitVec.ofInt 64 3).toNat = 2 ^ 2 - 1 := by decide
  have key : (BitVec.ofInt 64 n &&& BitVec.ofInt 64 3).toNat = (n % ((2 ^ 64 : Nat) : Int)).toNat % 2 ^ 2 := by
    rw [BitVec.toNat_and, BitVec.toNat_ofInt, hm, Nat.and_two_pow_sub_one_eq_mod]
  show IntKind.i64.wrap ((BitVec.ofInt 64 n &&& BitVec.ofInt 64 3).toNat : Nat) = n % 4
  rw [key, IntKind.wrap_i64]
  omega
def c12 (n : Int) : Cf := ⟨1, n, 8, 1, 0, 0⟩
theorem Sp.wu_of {S S' : Sp} (h : S.wu) (e : S'.W = S.W) : S'.wu := by unfold Sp.wu; rw [e]; exact h
theorem Sp.claim_W (S : Sp) (i t : Int) : (S.claim i t).2.W = S.W ∧ (S.claim i t).2.c = S.c := by unfold Sp.claim; split; exact ⟨rfl, rfl⟩; split; exact ⟨rfl, rfl⟩; split <;> exact ⟨rfl, rfl⟩
theorem Sp.ready_W (S : Sp) (i g t : Int) : (S.ready i g t).2.W = S.W ∧ (S.ready i g t).2.c = S.c := by unfold Sp.ready; split; exact ⟨rfl, rfl⟩; split; exact ⟨rfl, rfl⟩; split <;> exact ⟨rfl, rfl⟩
theorem Sp.doom_W (S : Sp) (i g t : Int) : (S.doom i g t).2.W = S.W ∧ (S.doom i g t).2.c = S.c := by unfold Sp.doom; split; exact ⟨rfl, rfl⟩; split; exact ⟨rfl, rfl⟩; split <;> exact ⟨rfl, rfl⟩
theorem Sp.free_W (S : Sp) (i g : Int) : (S.free i g).2.W = S.W ∧ (S.free i g).2.c = S.c := by unfold Sp.free; split; exact ⟨rfl, rfl⟩; split <;> exact ⟨rfl, rfl⟩
theorem Sp.put_wu {S : Sp} (h : S.wu) (i j x : Int) (hx : isU x) : (S.put i j x).2.wu ∧ (S.put i j x).2.c = S.c := by
  unfold Sp.put
  split
  · exact ⟨h, rfl⟩
  · refine ⟨fun v hv => ?_, rfl⟩
    rcases List.mem_or_eq_of_mem_set hv with h1 | h1
    · exact h v h1
    · subst h1; exact hx
theorem Sp.new_wu (c : Cf) : (Sp.new c).wu := fun v hv => by
  simp only [Sp.new] at hv
  rw [List.mem_replicate] at hv
  rw [hv.2]
  exact ⟨by decide, by decide⟩
/-- Who is not free was claimed. -/
def GenOk (S : Sp) : Prop := ∀ x, x ∈ S.H → 0 ≤ x.gen ∧ (x.state ≠ 0 → 1 ≤ x.gen)
theorem GenOk.new (c : Cf) : GenOk (Sp.new c) := fun x hx => by
  simp only [Sp.new] at hx
  rw [List.mem_replicate] at hx
  rw [hx.2]
  exact ⟨by decide, fun h => absurd rfl h⟩
theorem GenOk.at_ {S : Sp} (h : GenOk S) {i : Int} {x : Hd} (hx : nth S.H i = some x) : 0 ≤ x.gen ∧ (x.state ≠ 0 → 1 ≤ x.gen) := h x (List.mem_of_getElem? (nth_len hx).2.2)
theorem GenOk.set {S S' : Sp} (h : GenOk S) (i : Nat) (y : Hd) (hy : 0 ≤ y.gen ∧ (y.state ≠ 0 → 1 ≤ y.gen)) (e : S'.H = S.H.set i y) : GenOk S' := fun x hx => by
  rw [e] at hx
  rcases List.mem_or_eq_of_mem_set hx with h1 | h1
  · exact h x h1
  · rw [h1]; exact hy
theorem GenOk.same {S S' : Sp} (h : GenOk S) (e : S'.H = S.H) : GenOk S' := fun x hx => h x (e ▸ hx)
theorem GenOk.put {S : Sp} (h : GenOk S) (i j x : Int) : GenOk (S.put i j x).2 := by
  unfold Sp.put
  split
  · exact h
  · exact h.same rfl
theorem GenOk.claim {S : Sp} (h : GenOk S) (i t : Int) : GenOk (S.claim i t).2 := by
  unfold Sp.claim
  split
  · exact h
  · split
    · exact h
    · rename_i x hx
      have h1 := h.at_ hx
      split
      · exact h.set i.toNat ⟨x.gen + 1, 1, 0, t, false, 0⟩ ⟨by show 0 ≤ x.gen + 1; omega, fun _ => by show 1 ≤ x.gen + 1; omega⟩ rfl
      · exact h.same rfl
theorem GenOk.ready {S : Sp} (h : GenOk S) (i g t : Int) : GenOk (S.ready i g t).2 := by
  unfold Sp.ready
  split
  · exact h
  · split
    · exact h
    · rename_i x hx
      have h1 := h.at_ hx
      split
      · rename_i h2
        exact h.set i.toNat ⟨x.gen, 2, t, x.thread, x.doomed, x.who⟩ ⟨h1.1, fun _ => h1.2 (by rw [h2.1]; decide)⟩ rfl
      · exact h.same rfl
theorem GenOk.doom {S : Sp} (h : GenOk S) (i g t : Int) : GenOk (S.doom i g t).2 := by
  unfold Sp.doom
  split
  · exact h
  · split
    · exact h
    · rename_i x hx
      have h1 := h.at_ hx
      split
      · rename_i h2
        refine h.set i.toNat (x.doom t) ?_ rfl
        rw [Hd.doom_gen]
        exact ⟨h1.1, fun _ => h1.2 (by rw [h2.1]; decide)⟩
      · exact h.same rfl
/-- A space of eight slots, laid since w; k: how many calls at most. -/
structure Seated (w wr : World) (z : Sb) (c : Cf) (k : Nat) : Prop where
  ex : ∃ F S, SP w wr z F S ∧ Fit k S ∧ S.wu ∧ S.c = c ∧ GenOk S
section
variable {w wr w' : World} {z : Sb} {c : Cf} {k : Nat}
theorem Seated.calm (h : Seated w wr z c k) (hk : Keeps [] wr w') : Seated w w' z c k := by
  obtain ⟨F, S, h1, h2⟩ := h
  exact ⟨F, S, h1.calm hk, h2⟩
theorem Seated.keep (h : Seated w wr z c k) : Keeps [] w wr := by
  obtain ⟨F, S, h1, _⟩ := h
  exact h1.keep
theorem Seated.slots (h : Seated w wr z c k) : Calls Try.prog 32 #[PT z.p] wr fun e w' => e = .returned (PT z.t.q) ∧ wr = w' := by
  obtain ⟨F, S, h1, _⟩ := h
  exact sp_slots h1
theorem Seated.len (h : Seated w wr z c k) : Calls Try.prog 81 #[PT z.t.q] wr fun e w' => e = .returned (.int .i64 c.slots) ∧ wr = w' := by
  obtain ⟨F, S, h1, h2, h3, h4, hg⟩ := h
  have h5 := sp_len h1
  have h6 := h2.slots
  have h7 := h2.c.2.1
  rw [h4] at h6 h7
  rw [show (S.H.length : Int) = c.slots from by omega] at h5
  exact h5
theorem Seated.put (h : Seated w wr z c k) (hk : k ≤ 1099511627775) (i j x : Int) (hx : isU x) : Calls Try.prog 33 #[PT z.t.q, .int .i64 i, .int .i64 j, .int .u64 x] wr fun e w' => ∃ a : Int, e = .returned (.int .i64 a) ∧ Seated w w' z c (k + 1) := by
  obtain ⟨F, S, h1, h2, h3, h4, hg⟩ := h
  exact (sp_put h1 h2 (by omega) i j x).mono fun e w' ⟨he, F', h5, _, _⟩ => ⟨_, he, F', _, h5, h2.put i j x, (Sp.put_wu h3 i j x hx).1, (Sp.put_wu h3 i j x hx).2.trans h4, hg.put i j x⟩
theorem Seated.claim (h : Seated w wr z c k) (hk : k ≤ 1099511627775) (i t : Int) : Calls Try.prog 36 #[PT z.t.q, .int .i64 i, .int .i64 t] wr fun e w' => ∃ a b : Int, e = .returned (.tuple #[.int .i64 a, .int .i64 b]) ∧ Seated w w' z c (k + 1) := by
  obtain ⟨F, S, h1, h2, h3, h4, hg⟩ := h
  exact (sp_claim h1 h2 (by omega) i t).mono fun e w' ⟨he, F', h5, _, _⟩ => ⟨_, _, he, F', _, h5, h2.claim i t, Sp.wu_of h3 (S.claim_W i t).1, (S.claim_W i t).2.trans h4, hg.claim i t⟩
theorem Seated.ready (h : Seated w wr z c k) (hk : k ≤ 1099511627775) (i g t : Int) : Calls Try.prog 51 #[PT z.t.q, .int .i64 i, .int .i64 g, .int .i64 t] wr fun e w' => ∃ a : Int, e = .returned (.int .i64 a) ∧ Seated w w' z c (k + 1) := by
  obtain ⟨F, S, h1, h2, h3, h4, hg⟩ := h
  exact (sp_ready h1 h2 (by omega) i g t).mono fun e w' ⟨he, F', h5, _, _⟩ => ⟨_, he, F', _, h5, h2.ready i g t, Sp.wu_of h3 (S.ready_W i g t).1, (S.ready_W i g t).2.trans h4, hg.ready i g t⟩
theorem Seated.doom (h : Seated w wr z c k) (hk : k ≤ 1099511627775) (i g t : Int) : Calls Try.prog 82 #[PT z.t.q, .int .i64 i, .int .i64 g, .int .i64 t] wr fun e w' => ∃ a : Int, e = .returned (.int .i64 a) ∧ Seated w w' z c (k + 1) := by
  obtain ⟨F, S, h1, h2, h3, h4, hg⟩ := h
  exact (sp_doom h1 h2 (by omega) i g t).mono fun e w' ⟨he, F', h5, _, _⟩ => ⟨_, he, F', _, h5, h2.doom i g t, Sp.wu_of h3 (S.doom_W i g t).1, (S.doom_W i g t).2.trans h4, hg.doom i g t⟩
theorem table_any (w : World) (n : Int) (h1 : 1 ≤ n) (h8 : n ≤ 8) : Calls Try.prog 40 #[.int .i64 n] w fun e w' => ∃ z F, e = .returned (.tuple #[PT z.p, .bool true]) ∧ SP w w' z F (Sp.new (c12 n)) := by
  have hn := fun w => sp_new w (c12 n) (by unfold Cf.ok c12; simp; omega)
  have HN : Hid (∀ w, Calls Try.prog 12 #[.agg #[.int .i64 1, .int .i64 n, .int .i64 8, .int .i64 1, .int .i64 0, .int .i64 0]] w fun e w' => ∃ z F, e = .returned (.tuple #[PT z.p, .int .i64 0]) ∧ SP w w' z F (Sp.new (c12 n))) := hn
  clear hn
  go_enter Try.func40, Try.ntmps40
  go_wp2_with fail
  refine (HN.out _).mono ?_
  rintro e w1 ⟨z, F, rfl, hs⟩
  have HS := Lib.hid hs
  clear hs HN
  go_wp2_with fail
  refine (sp_slots HS.out).mono ?_
  rintro e wq ⟨rfl, rfl⟩
  go_wp2_with fail
  go_ret2
  exact ⟨z, F, rfl, HS.out⟩
set_option maxRecDepth 100000 in
set_option maxHeartbeats 8000000 in
theorem seats_any (w0 w : World) (z : Sb) (k0 : Nat) (c : Cf) (hs : Seated w0 w z c k0) (hk0 : k0 ≤ 1000) (hc8 : c.slots = 8) (A : Option Addr) (n cap : Nat) (l : List ElSeat) (hl : LstSeat w0 A n cap l) : Calls Try.prog 41 #[PT z.p, .slice A n cap] w fun e w' => e = .returned (.tuple #[]) ∧ Seated w0 w' z c (k0 + 40) := by
  have HS := Lib.hid hs
  have HL := Lib.hid hl
  have hcap := hl.2.2.1
  have hncap := hl.2.1
  clear hs hl
  go_enter Try.func41, Try.ntmps41
  go_wp2_with fail
  refine HS.out.slots.mono ?_
  rintro e wq ⟨rfl, rfl⟩
  go_wp2_with fail
  go_loopw [5, 6] (fun i st wr => ∃ j : Nat, j ≤ n ∧ j ≤ 8 ∧ i = .int .i64 j ∧ Seated w0 wr z c (k0 + 5 * j)) (fun i _ _ => 9 - (intOf i).toNat)
  case atStart => exact ⟨0, Nat.zero_le _, by decide, rfl, HS.out⟩
  case round =>
    obtain ⟨j, hj, hj8, rfl, hr⟩ := hrel
    have HR := Lib.hid hr
    clear hr HS
    have q0 : (0 : Int) ≤ (j : Int) := by omega
    by_cases hlt : (j : Int) < (n : Int)
    · have hd : decide ((j : Int) < (n : Int)) = true := by simpa using hlt
      go_wp2_with fail
      have hln := HR.out.len
      rw [hc8] at hln
      refine hln.mono ?_
      rintro e wq ⟨rfl, rfl⟩
      clear hln
      by_cases h8 : (j : Int) < 8
      · obtain ⟨b, off, p, rfl, hp, hat⟩ := HL.out.at_ (k := j) (by omega)
        have HAT := Lib.hid hat
        have HKR := Lib.hid HR.out.keep
        obtain ⟨e0, e1, e2, e3, e4, o0, o1, o2, o3⟩ := hat _ HR.out.keep
        have HU := Lib.hid o3
        clear hat hp o0 o1 o2 o3
        have h3 := i64_and3 p.state
        have h7 := i64_and7 p.thread
        have h10 := i64_and1023 p.stamp
        obtain ⟨q, hq, hq0, hq3⟩ : ∃ q : Int, p.state % 4 = q ∧ 0 ≤ q ∧ q ≤ 3 := ⟨_, rfl, by omega, by omega⟩
        obtain ⟨t7, ht, ht0, ht7⟩ : ∃ q : Int, p.thread % 8 = q ∧ 0 ≤ q ∧ q ≤ 7 := ⟨_, rfl, by omega, by omega⟩
        obtain ⟨sm, hs, hs0, hs7⟩ : ∃ q : Int, p.stamp % 1024 = q ∧ 0 ≤ q ∧ q ≤ 1023 := ⟨_, rfl, by omega, by omega⟩
        rw [hq] at h3
        rw [ht] at h7
        rw [hs] at h10
        clear hq ht hs
        have hj5 : Hid (k0 + 5 * j ≤ 1040) := by unfold Hid; omega
        have hU0 := HU.out.1
        have hU1 := HU.out.2
        have HU0 : Hid (isU (p.words.a : Int) ∧ isU (p.words.b : Int)) := ⟨⟨Int.natCast_nonneg _, by omega⟩, ⟨Int.natCast_nonneg _, by omega⟩⟩
        clear hU0 hU1 HU
        have w7 : IntKind.i64.wrap (1 + t7) = 1 + t7 := by rw [IntKind.wrap_i64]; omega
        have w10 : IntKind.i64.wrap (1 + sm) = 1 + sm := by rw [IntKind.wrap_i64]; omega
        have HJ5 := hj5
        have hB : Hid (∀ x : Nat, x ≤ 5 → k0 + 5 * j + x ≤ 1099511627775) := fun x hx => by have := hj5.out; omega
        clear hj5
        go_wp2_with fail
        refine (HR.out.put (by have := hB.out 0 (by decide); omega) j 0 p.words.a HU0.out.1).mono ?_
        rintro e wp1 ⟨a, rfl, hr⟩
        replace HR := Lib.hid hr
        clear e0 e1 e2 e3 e4 hr
        obtain ⟨e0, e1, e2, e3, e4, o0, o1, o2, o3⟩ := HAT.out _ HR.out.keep
        clear o0 o1 o2 o3
        go_wp2_with fail
        refine (HR.out.put (hB.out 1 (by decide)) j 1 p.words.b HU0.out.2).mono ?_
        rintro e wp2 ⟨a, rfl, hr⟩
        replace HR := Lib.hid hr
        clear e0 e1 e2 e3 e4 hr
        obtain ⟨e0, e1, e2, e3, e4, o0, o1, o2, o3⟩ := HAT.out _ HR.out.keep
        clear o0 o1 o2 o3
        obtain rfl | rfl | rfl | rfl : q = 0 ∨ q = 1 ∨ q = 2 ∨ q = 3 := by omega
        · clear hq0 hq3
          go_wp2_with fail
          exact ⟨⟨j + 1, by omega, by omega, by simp, (by obtain ⟨F, S, g1, g2, g3⟩ := HR.out; exact ⟨F, S, g1, g2.wide (by omega), g3⟩)⟩, by simp [intOf]; omega⟩
        · clear hq0 hq3
          go_wp2_with fail
          refine (HR.out.claim (hB.out 2 (by decide)) j (1 + t7)).mono ?_
          rintro e wp3 ⟨a, b1, rfl, hr⟩
          replace HR := Lib.hid hr
          clear e0 e1 e2 e3 e4 hr
          obtain ⟨e0, e1, e2, e3, e4, o0, o1, o2, o3⟩ := HAT.out _ HR.out.keep
          clear o0 o1 o2 o3
          go_wp2_with fail
          exact ⟨⟨j + 1, by omega, by omega, by simp, (by obtain ⟨F, S, g1, g2, g3⟩ := HR.out; exact ⟨F, S, g1, g2.wide (by omega), g3⟩)⟩, by simp [intOf]; omega⟩
        · clear hq0 hq3
          go_wp2_with fail
          refine (HR.out.claim (hB.out 2 (by decide)) j (1 + t7)).mono ?_
          rintro e wp3 ⟨a, b1, rfl, hr⟩
          replace HR := Lib.hid hr
          clear e0 e1 e2 e3 e4 hr
          obtain ⟨e0, e1, e2, e3, e4, o0, o1, o2, o3⟩ := HAT.out _ HR.out.keep
          clear o0 o1 o2 o3
          go_wp2_with fail
          refine (HR.out.ready (hB.out 3 (by decide)) j 1 (1 + sm)).mono ?_
          rintro e wp4 ⟨a, rfl, hr⟩
          replace HR := Lib.hid hr
          clear e0 e1 e2 e3 e4 hr
          obtain ⟨e0, e1, e2, e3, e4, o0, o1, o2, o3⟩ := HAT.out _ HR.out.keep
          clear o0 o1 o2 o3
          go_wp2_with fail
          exact ⟨⟨j + 1, by omega, by omega, by simp, (by obtain ⟨F, S, g1, g2, g3⟩ := HR.out; exact ⟨F, S, g1, g2.wide (by omega), g3⟩)⟩, by simp [intOf]; omega⟩
        · clear hq0 hq3
          go_wp2_with fail
          refine (HR.out.claim (hB.out 2 (by decide)) j (1 + t7)).mono ?_
          rintro e wp3 ⟨a, b1, rfl, hr⟩
          replace HR := Lib.hid hr
          clear e0 e1 e2 e3 e4 hr
          obtain ⟨e0, e1, e2, e3, e4, o0, o1, o2, o3⟩ := HAT.out _ HR.out.keep
          clear o0 o1 o2 o3
          go_wp2_with fail
          refine (HR.out.ready (hB.out 3 (by decide)) j 1 (1 + sm)).mono ?_
          rintro e wp4 ⟨a, rfl, hr⟩
          replace HR := Lib.hid hr
          clear e0 e1 e2 e3 e4 hr
          obtain ⟨e0, e1, e2, e3, e4, o0, o1, o2, o3⟩ := HAT.out _ HR.out.keep
          clear o0 o1 o2 o3
          go_wp2_with fail
          refine (HR.out.doom (hB.out 4 (by decide)) j 1 8).mono ?_
          rintro e wp5 ⟨a, rfl, hr⟩
          replace HR := Lib.hid hr
          clear e0 e1 e2 e3 e4 hr
          obtain ⟨e0, e1, e2, e3, e4, o0, o1, o2, o3⟩ := HAT.out _ HR.out.keep
          clear o0 o1 o2 o3
          go_wp2_with fail
          exact ⟨⟨j + 1, by omega, by omega, by simp, (by obtain ⟨F, S, g1, g2, g3⟩ := HR.out; exact ⟨F, S, g1, g2.wide (by omega), g3⟩)⟩, by simp [intOf]; omega⟩
      · have hd8 : decide ((j : Int) < 8) = false := by simpa using h8
        go_wp2_with fail
        go_end0
        exact ⟨rfl, by obtain ⟨F, S, g1, g2, g3⟩ := HR.out; exact ⟨F, S, g1, g2.wide (by omega), g3⟩⟩
    · have hd : decide ((j : Int) < (n : Int)) = false := by simpa using hlt
      go_wp2_with fail
      go_end0
      exact ⟨rfl, by obtain ⟨F, S, g1, g2, g3⟩ := HR.out; exact ⟨F, S, g1, g2.wide (by omega), g3⟩⟩
end
end Go.Proofs.Ytnednminpmiojaa

namespace Go.Proofs.Ytnednminpmiojaa
open Go.RowKit
set_option linter.unusedVariables false
set_option linter.unusedSimpArgs false
theorem lk_new_bad {w0 w : World} {z : Sb} {F : List Nat} {S : Sp} (h : SP w0 w z F S) (s : Sg) (slot : Int) (hb : slot < 0 ∨ (S.H.length : Int) ≤ slot) : Calls Try.prog 42 #[PT z.p, .int .i64 slot, .agg #[.int .u64 (s.a : Int), .int .u64 (s.b : Int)]] w fun e w' => e = .returned (.tuple #[.pointer none, .int .i64 2]) ∧ Keeps [] w w' := by
  obtain ⟨n, hn⟩ : ∃ n, S.H.length = n := ⟨_, rfl⟩
  have hk0 : Keeps [] w (w.alloc (.cells #[.int .u64 (s.a : Int), .int .u64 (s.b : Int)] 57)) := by simp
  have h0 := h.calm hk0
  have QS := Lib.hid (fun w' (hk : Keeps [] (w.alloc (.cells #[.int .u64 (s.a : Int), .int .u64 (s.b : Int)] 57)) w') => slots_held h0 hk)
  have QL := Lib.hid (fun w' (hk : Keeps [] (w.alloc (.cells #[.int .u64 (s.a : Int), .int .u64 (s.b : Int)] 57)) w') => len_heldS h0 hk)
  rw [hn] at hb QL
  have HK := Lib.hid hk0
  clear hk0 h0 h hn
  by_cases hlo : slot < 0
  · have n1 : decide (slot < 0) = true := by simpa using hlo
    clear hb
    go_enter Try.func42, Try.ntmps42
    go_wp2_with fail
    refine (QS.out _ (by simp)).mono ?_
    rintro e w1 ⟨rfl, hk1⟩
    go_wp2_with fail
    refine (QL.out _ hk1).mono ?_
    rintro e w2 ⟨rfl, hk2⟩
    go_wp2_with fail
    go_ret2
    exact ⟨rfl, HK.out.trans hk2 (by simp)⟩
  · have n1 : decide (slot < 0) = false := by simpa using hlo
    have n2 : decide (slot ≥ (n : Int)) = true := by simp; omega
    clear hb
    go_enter Try.func42, Try.ntmps42
    go_wp2_with fail
    refine (QS.out _ (by simp)).mono ?_
    rintro e w1 ⟨rfl, hk1⟩
    go_wp2_with fail
    refine (QL.out _ hk1).mono ?_
    rintro e w2 ⟨rfl, hk2⟩
    go_wp2_with fail
    go_ret2
    exact ⟨rfl, HK.out.trans hk2 (by simp)⟩
theorem vc_same (w : World) (a b c d : Int) : (Op.equalIn 10000 101 (.agg #[.int .i64 a, .int .i64 b, .int .i64 c, .int .i64 d]) (.agg #[.int .i64 a, .int .i64 b, .int .i64 c, .int .i64 d])).run Try.prog w = .ok true w := by
  simp [go_sem]
namespace Aw12
def s1 : Sp := ((Sp.new (c12 3)).claim 1 4).2
def s2 : Sp := (s1.free 1 1).2
def s3 : Sp := (s2.claim 1 4).2
def s4 : Sp := (s3.put 1 0 6).2
def s5 : Sp := (s4.ready 1 2 9).2
def s6 : Sp := (s5.claim 2 5).2
def x0 : Lk := Lk.new 3 0 ⟨2, 0⟩
def run : Nat → Lk × Sp
  | 0 => (x0, s6)
  | n + 1 => (((run n).1.step (run n).2).2.1, ((run n).1.step (run n).2).2.2)
theorem fit6 : Fit 6 s6 := (((((Fit.new (c := c12 3) (by decide)).claim 1 4).free 1 1).claim 1 4).put 1 0 6 |>.ready 1 2 9).claim 2 5
theorem wu6 : s6.wu := by
  have h := Sp.new_wu (c12 3)
  have h1 := Sp.wu_of h (Sp.claim_W (Sp.new (c12 3)) 1 4).1
  have h2 := Sp.wu_of h1 (Sp.free_W s1 1 1).1
  have h3 := Sp.wu_of h2 (Sp.claim_W s2 1 4).1
  have h4 := (Sp.put_wu h3 1 0 6 ⟨by decide, by decide⟩).1
  have h5 := Sp.wu_of h4 (Sp.ready_W s4 1 2 9).1
  exact Sp.wu_of h5 (Sp.claim_W s5 2 5).1
theorem inv : ∀ n, Fit (6 + n) (run n).2 ∧ (run n).2.wu ∧ (run n).1.Ok n
  | 0 => ⟨fit6, wu6, Lk.new_ok (by decide) 0 ⟨by decide, by decide⟩⟩
  | n + 1 => by
    obtain ⟨h1, h2, h3⟩ := inv n
    exact ⟨h1.lkstep _, h2.lkstep _, h3.step h2⟩
theorem tr : ∀ n, n < 4 → (run n).1.turns.isEmpty = false ∧ ((run n).1.step (run n).2).1 = 1
  | 0, _ => ⟨rfl, rfl⟩
  | 1, _ => ⟨rfl, rfl⟩
  | 2, _ => ⟨rfl, rfl⟩
  | 3, _ => ⟨rfl, rfl⟩
  | n + 4, h => absurd h (by omega)
def vs : List Vc := [⟨1, 2, 9, 4⟩]
theorem end4 : (run 4).1.turns.isEmpty = true ∧ (run 4).1.victims = vs := ⟨rfl, rfl⟩
def y0 : Dm := Dm.new 5 vs
theorem dstep : (y0.step (run 4).2).1 = 1 ∧ (y0.step (run 4).2).2.1 = ⟨5, [], vs⟩ := ⟨rfl, rfl⟩
def s11 : Sp := (y0.step (run 4).2).2.2
theorem lk11 : (s11.look 1).1.1 = ⟨2, 2, 9, 4, true, 5⟩ := rfl
end Aw12
open Aw12
set_option maxRecDepth 100000 in
set_option maxHeartbeats 8000000 in
theorem awake12 (w : World) : Calls Try.prog 39 #[] w fun e w' => e = .returned (.bool true) ∧ Keeps [] w w' := by
  go_enter Try.func39, Try.ntmps39
  go_wp2_with fail
  refine (table_any _ 3 (by decide) (by decide)).mono ?_
  rintro e w1 ⟨z, F, rfl, hs⟩
  have HS := Lib.hid hs
  have HF : Hid (Fit 0 (Sp.new (c12 3))) := Fit.new (c := c12 3) (by decide)
  clear hs
  go_wp2_with fail
  refine (sp_slots HS.out).mono ?_
  rintro e wq ⟨rfl, rfl⟩
  go_wp2_with fail
  refine (sp_claim HS.out HF.out (by decide) 1 4).mono ?_
  rintro e w2 ⟨rfl, F1, hs, hk, hn⟩
  replace HF := Lib.hid (HF.out.claim 1 4)
  clear HS
  have HS := Lib.hid hs
  clear hs hk hn
  go_wp2_with fail
  refine (sp_free HS.out HF.out (by decide) 1 1).mono ?_
  rintro e w3 ⟨rfl, F2, hs, hk, hn⟩
  replace HF := Lib.hid (HF.out.free 1 1)
  clear HS
  have HS := Lib.hid hs
  clear hs hk hn
  go_wp2_with fail
  refine (sp_claim HS.out HF.out (by decide) 1 4).mono ?_
  rintro e w4 ⟨rfl, F3, hs, hk, hn⟩
  replace HF := Lib.hid (HF.out.claim 1 4)
  clear HS
  have HS := Lib.hid hs
  clear hs hk hn
  go_wp2_with fail
  refine (sp_put HS.out HF.out (by decide) 1 0 6).mono ?_
  rintro e w5 ⟨rfl, F4, hs, hk, hn⟩
  replace HF := Lib.hid (HF.out.put 1 0 6)
  clear HS
  have HS := Lib.hid hs
  clear hs hk hn
  go_wp2_with fail
  refine (sp_ready HS.out HF.out (by decide) 1 2 9).mono ?_
  rintro e w6 ⟨rfl, F5, hs, hk, hn⟩
  replace HF := Lib.hid (HF.out.ready 1 2 9)
  clear HS
  have HS := Lib.hid hs
  clear hs hk hn
  go_wp2_with fail
  refine (sp_claim HS.out HF.out (by decide) 2 5).mono ?_
  rintro e w7 ⟨rfl, F6, hs, hk, hn⟩
  replace HF := Lib.hid (HF.out.claim 2 5)
  clear HS
  have HS := Lib.hid hs
  clear hs hk hn
  replace HS : Hid (SP w w7 z F6 s6) := HS
  clear HF
  go_wp2_with fail
  have hq : Calls Try.prog 42 #[PT z.p, .int .i64 0, .agg #[.int .u64 2, .int .u64 0]] w7 fun e w' => ∃ b G, e = .returned (.tuple #[PT b, .int .i64 0]) ∧ LK w w' z F6 b G x0 ∧ (∀ q, q ∈ G → w7.heap.size ≤ q) ∧ Keeps [] w7 w' := lk_new HS.out fit6 ⟨2, 0⟩ 0 (by decide) (by decide)
  refine hq.mono ?_
  rintro e w8 ⟨b, G, rfl, hl, hg, hk⟩
  replace HS := Lib.hid (HS.out.calm hk)
  have HL := Lib.hid hl
  clear hl hg hk hq
  go_wp2_with fail
  have hq : Calls Try.prog 42 #[PT z.p, .int .i64 3, .agg #[.int .u64 2, .int .u64 0]] w8 fun e w' => e = .returned (.tuple #[.pointer none, .int .i64 2]) ∧ Keeps [] w8 w' := lk_new_bad HS.out ⟨2, 0⟩ 3 (.inr (by decide))
  refine hq.mono ?_
  rintro e w9 ⟨rfl, hk⟩
  have HI : Hid (∃ F G, SP w w9 z F (run 0).2 ∧ LK w w9 z F b G (run 0).1) := ⟨F6, G, HS.out.calm hk, HL.out.calm hk⟩
  clear hk hq HS HL
  go_wp2_with fail
  go_loopw [8] (fun i wr => ∃ j : Nat, j ≤ 4 ∧ i = .int .i64 j ∧ ∃ F G, SP w wr z F (run j).2 ∧ LK w wr z F b G (run j).1) (fun i _ => 4 - (intOf i).toNat)
  case atStart => exact ⟨0, by decide, rfl, HI.out⟩
  case round =>
    obtain ⟨j, hj, rfl, Fr, Gr, hs, hl⟩ := hrel
    have HS := Lib.hid hs
    have HL := Lib.hid hl
    clear hs hl HI
    obtain ⟨fi, wi, oi⟩ := inv j
    have FI := Lib.hid fi
    have WI := Lib.hid wi
    have OI := Lib.hid oi
    clear fi wi oi
    by_cases hlt : (j : Int) < 4
    · obtain ⟨t1, t2⟩ := tr j (by omega)
      obtain ⟨tv, wv, vv, ha, _⟩ := HL.out.ex
      have hd := lk_done ha
      rw [t1] at hd
      have HD := Lib.hid hd
      have hst := lk_step HS.out FI.out (by omega) HL.out WI.out OI.out (by omega)
      rw [t2] at hst
      have HST := Lib.hid hst
      clear hd hst t1 t2 ha
      go_wp2_with fail
      refine HD.out.mono ?_
      rintro e wq ⟨rfl, rfl⟩
      go_wp2_with fail
      refine HST.out.mono ?_
      rintro e wa ⟨rfl, F', G', h1, h2, _⟩
      have H1 := Lib.hid h1
      have H2 := Lib.hid h2
      clear h1 h2 HST HD
      go_wp2_with fail
      exact ⟨⟨j + 1, by omega, by simp, F', G', H1.out, H2.out⟩, by simp [intOf]; omega⟩
    · obtain rfl : j = 4 := by omega
      obtain ⟨t1, t2⟩ := end4
      obtain ⟨tv, wv, vv, ha, _⟩ := HL.out.ex
      have hvi := lk_victims ha (by rw [t2]; decide)
      have hd := fun w' (hk : Keeps [] wr w') => lk_done (ha.keeps hk (by simp))
      rw [t2] at hvi
      simp only [t1] at hd
      have HV : Hid (Calls Try.prog 45 #[PT b] wr fun e w' => ∃ v, e = .returned v ∧ NewRow 101 4 1 (vcCells vs) [] wr w' v) := hvi
      have HD := Lib.hid hd
      clear hvi hd t1 t2 ha
      go_wp2_with fail
      refine HV.out.mono ?_
      rintro e w10 ⟨v, rfl, ho, hk⟩
      obtain ⟨g, cc, rfl, hgb, hgl⟩ := ho.form (by decide)
      obtain ⟨c0, c1, c2, c3⟩ : w10.cell? ⟨g, 0, none⟩ = some (.int .i64 1) ∧ w10.cell? ⟨g, 1, none⟩ = some (.int .i64 2) ∧ w10.cell? ⟨g, 2, none⟩ = some (.int .i64 9) ∧ w10.cell? ⟨g, 3, none⟩ = some (.int .i64 4) := ⟨(ho.cellAt 0 (by decide)).trans rfl, (ho.cellAt 1 (by decide)).trans rfl, (ho.cellAt 2 (by decide)).trans rfl, (ho.cellAt 3 (by decide)).trans rfl⟩
      have HO : Hid (w10.ownsRow 0 101 4 (.slice (some ⟨g, 0, none⟩) 1 cc) 1 (vcCells vs)) := own_base ho (fun _ _ => Nat.zero_le _)
      have HK := Lib.hid hk
      replace HS := Lib.hid (HS.out.calm hk)
      clear ho hk hgb HV
      go_wp2_with fail
      have hq : Calls Try.prog 46 #[PT z.p, .int .i64 5, .slice (some ⟨g, 0, none⟩) 1 cc] w10 fun e w' => ∃ b' G', e = .returned (.tuple #[PT b', .int .i64 0]) ∧ DM w w' z Fr b' G' y0 ∧ (∀ q, q ∈ G' → w10.heap.size ≤ q) ∧ Keeps [] w10 w' := dm_new HS.out FI.out vs HO.out 5 (by decide) (by decide) (by decide) (by decide)
      refine hq.mono ?_
      rintro e w11 ⟨d, G', rfl, hdm, hg, hk⟩
      replace HS := Lib.hid (HS.out.calm hk)
      replace HK := Lib.hid (HK.out.trans hk (by simp))
      have HDM := Lib.hid hdm
      obtain ⟨c0, c1, c2, c3⟩ : w11.cell? ⟨g, 0, none⟩ = some (.int .i64 1) ∧ w11.cell? ⟨g, 1, none⟩ = some (.int .i64 2) ∧ w11.cell? ⟨g, 2, none⟩ = some (.int .i64 9) ∧ w11.cell? ⟨g, 3, none⟩ = some (.int .i64 4) := ⟨(keeps_cell hk hgl (by simp)).trans c0, (keeps_cell hk hgl (by simp)).trans c1, (keeps_cell hk hgl (by simp)).trans c2, (keeps_cell hk hgl (by simp)).trans c3⟩
      clear hdm hg hk hq
      have hvs := vc_same w11 1 2 9 4
      go_wp2_with fail
      refine (HD.out _ HK.out).mono ?_
      rintro e wq ⟨rfl, rfl⟩
      go_wp2_with fail
      have hq : Calls Try.prog 49 #[PT d] w11 fun e w' => e = .returned (.int .i64 1) ∧ WentD w w11 w' z Fr G' d s11 ⟨5, [], vs⟩ := dm_step HS.out FI.out (by decide) HDM.out (by decide)
      have F11 : Hid (Fit 11 s11) := FI.out.dmstep y0
      refine hq.mono ?_
      rintro e w12 ⟨rfl, F12, G12, hs, hdm, _⟩
      clear hq HS HDM hvs c0 c1 c2 c3
      have HS := Lib.hid hs
      have HDM := Lib.hid hdm
      clear hs hdm
      go_wp2_with fail
      have hq : Calls Try.prog 37 #[PT z.t.q, .int .i64 1] w12 fun e w' => e = .returned (.tuple #[.agg #[.int .i64 2, .int .i64 2, .int .i64 9, .int .i64 4, .bool true, .int .i64 5], .int .i64 0]) ∧ Went w w12 w' z F12 (s11.look 1).2 := sp_look HS.out F11.out (by decide) 1
      refine hq.mono ?_
      rintro e w13 ⟨rfl, F13, hs, hk, hn⟩
      have HDM2 := Lib.hid (HDM.out.step hk hn)
      have F13' : Hid (Fit 12 (s11.look 1).2) := F11.out.look 1
      clear HS HDM hq
      have HS := Lib.hid hs
      clear hs hk hn
      have hka : Keeps [] w13 (w13.alloc (.cells #[.int .i64 2, .int .i64 2, .int .i64 9, .int .i64 4, .bool true, .int .i64 5] 54)) := by simp
      have hb : Blk (w13.alloc (.cells #[.int .i64 2, .int .i64 2, .int .i64 9, .int .i64 4, .bool true, .int .i64 5] 54)) w13.heap.size 54 #[.int .i64 2, .int .i64 2, .int .i64 9, .int .i64 4, .bool true, .int .i64 5] := Blk.new _ _ _
      replace HS := Lib.hid (HS.out.calm hka)
      replace HDM2 := Lib.hid (HDM2.out.calm hka)
      clear hka
      obtain ⟨lv, dv, ha, hGG⟩ := HDM2.out.ex
      have HA := Lib.hid ha
      clear ha hGG
      have HB := Lib.hid hb
      clear hb
      obtain ⟨w14, hw14⟩ : ∃ q, w13.alloc (.cells #[.int .i64 2, .int .i64 2, .int .i64 9, .int .i64 4, .bool true, .int .i64 5] 54) = q := ⟨_, rfl⟩
      obtain ⟨hp, hhp⟩ : ∃ q, w13.heap.size = q := ⟨_, rfl⟩
      go_wp2_with fail
      rw [hw14] at HS HDM2 HA HB
      rw [hhp] at HB
      clear hw14 hhp
      have hd : Calls Try.prog 48 #[PT d] w14 fun e w' => e = .returned (.bool true) ∧ w14 = w' := dm_done HA.out
      refine hd.mono ?_
      rintro e wq ⟨rfl, rfl⟩
      clear hd
      go_wp2_with fail
      have hq : Calls Try.prog 50 #[PT d] w14 fun e w' => ∃ v, e = .returned v ∧ NewRow 101 4 1 (vcCells vs) [] w14 w' v := dm_doomed HA.out (by decide)
      refine hq.mono ?_
      rintro e w15 ⟨v2, rfl, ho2, hk2⟩
      obtain ⟨g2, cc2, rfl, _, _⟩ := ho2.form (by decide)
      have hb2 := HB.out.keeps hk2 (by simp)
      have d4 : w15.cell? ⟨hp, 4, none⟩ = some (.bool true) := (hb2.cell 4).trans rfl
      have d5 : w15.cell? ⟨hp, 5, none⟩ = some (.int .i64 5) := (hb2.cell 5).trans rfl
      replace HS := Lib.hid (HS.out.calm hk2)
      replace HDM2 := Lib.hid (HDM2.out.calm hk2)
      clear hq hb2 ho2 hk2
      go_wp2_with fail
      have hq : Calls Try.prog 49 #[PT d] w15 fun e w' => e = .returned (.int .i64 3) ∧ WentD w w15 w' z F13 G12 d (s11.look 1).2 ⟨5, [], vs⟩ := dm_step HS.out F13'.out (by decide) HDM2.out (by decide)
      refine hq.mono ?_
      rintro e w16 ⟨rfl, F16, G16, hs, _⟩
      have HS2 := Lib.hid hs.keep
      clear hs hq
      go_wp2_with fail
      go_ret
      exact ⟨rfl, HS2.out⟩
end Go.Proofs.Ytnednminpmiojaa

namespace Go.Proofs.Ytnednminpmiojaa
open Go.RowKit
set_option linter.unusedVariables false
set_option linter.unusedSimpArgs false
theorem slot_same (w : World) (a b c d : Int) (e : Bool) (f g h : Int) : (Op.equalIn 10000 59 (.agg #[.int .i64 a, .int .i64 b, .int .i64 c, .int .i64 d, .bool e, .int .i64 f, .int .u64 g, .int .u64 h]) (.agg #[.int .i64 a, .int .i64 b, .int .i64 c, .int .i64 d, .bool e, .int .i64 f, .int .u64 g, .int .u64 h])).run Try.prog w = .ok true w := by
  simp [go_sem, sig_same9]
/-- The cells of a list of victims. -/
theorem vc_cells {w : World} {v : Value} {l : List Vc} {n : Nat} (h : w.ownsRow 0 101 4 v n (vcCells l)) (hn : l.length = n) (hp : 0 < n) : ∃ g c, v = .slice (some ⟨g, 0, none⟩) n c ∧ g < w.heap.size ∧ ∀ (j : Nat) (x : Vc), l[j]? = some x → w.cell? ⟨g, j * 4, none⟩ = some (.int .i64 x.slot) ∧ w.cell? ⟨g, j * 4 + 1, none⟩ = some (.int .i64 x.gen) ∧ w.cell? ⟨g, j * 4 + 2, none⟩ = some (.int .i64 x.stamp) ∧ w.cell? ⟨g, j * 4 + 3, none⟩ = some (.int .i64 x.thread) := by
  obtain ⟨g, c, rfl, _, hl⟩ := h.form hp
  refine ⟨g, c, rfl, hl, fun j x hx => ?_⟩
  obtain ⟨h0, h1, h2, h3⟩ := vc_at l j x hx
  have hj := (List.getElem?_eq_some_iff.1 hx).1
  have hc : ∀ i u, (vcCells l)[i]? = some u → w.cell? ⟨g, i, none⟩ = some u := fun i u hu => by
    have hi := (List.getElem?_eq_some_iff.1 hu).1
    rw [vcCells_len] at hi
    exact (h.cellAt i (by omega)).trans hu
  exact ⟨hc _ _ h0, hc _ _ h1, hc _ _ h2, hc _ _ h3⟩
set_option maxRecDepth 100000 in
set_option maxHeartbeats 4000000 in
theorem vc_same_yes (w : World) (v1 v2 : Value) (l : List Vc) (n : Nat) (hn : l.length = n) (hb : n ≤ 1099511627776) (h1 : w.ownsRow 0 101 4 v1 n (vcCells l)) (h2 : w.ownsRow 0 101 4 v2 n (vcCells l)) :
    Calls Try.prog 47 #[v1, v2] w fun e w' => e = .returned (.bool true) ∧ Keeps [] w w' := by
  obtain ⟨A1, c1, rfl⟩ := own_form h1
  obtain ⟨A2, c2, rfl⟩ := own_form h2
  have H1 := Lib.hid h1
  have H2 := Lib.hid h2
  have HN := Lib.hid hn
  have HB := Lib.hid hb
  clear h1 h2 hn hb
  go_enter Try.func47, Try.ntmps47
  go_wp2_with fail
  go_loopw [5] (fun i wr => ∃ j : Nat, j ≤ n ∧ i = .int .i64 j ∧ Keeps [] w wr) (fun i _ => n - (intOf i).toNat)
  case atStart => exact ⟨0, Nat.zero_le _, rfl, Keeps.refl _ _⟩
  case round =>
    obtain ⟨j, hj, rfl, hk⟩ := hrel
    have HK := Lib.hid hk
    clear hk
    by_cases hlt : (j : Int) < (n : Int)
    · have q0 : (0 : Int) ≤ (j : Int) := by omega
      obtain ⟨x, hx⟩ : ∃ x, l[j]? = some x := ⟨_, List.getElem?_eq_getElem (by have := HN.out; omega)⟩
      obtain ⟨g1, d1, e1, _, k1⟩ := vc_cells (own_keeps H1.out HK.out (by simp)) HN.out (by omega)
      obtain ⟨g2, d2, e2, _, k2⟩ := vc_cells (own_keeps H2.out HK.out (by simp)) HN.out (by omega)
      injection e1 with e1 _ e1'
      injection e2 with e2 _ e2'
      subst e1 e1' e2 e2'
      obtain ⟨p0, p1, p2, p3⟩ := k1 j x hx
      obtain ⟨r0, r1, r2, r3⟩ := k2 j x hx
      have hv := fun w => vc_same w x.slot x.gen x.stamp x.thread
      have hw : IntKind.i64.wrap ((j : Int) + 1) = (j : Int) + 1 := by have := HB.out; rw [IntKind.wrap_i64]; omega
      clear k1 k2 hx
      go_wp2_with fail
      go_quiet (fail)
      go_wp2_with fail
      exact ⟨⟨j + 1, by omega, by simp, by first | exact HK.out.drew | exact HK.out.drewN _⟩, by simp [intOf]; omega⟩
    · go_wp2_with fail
      go_ret
      exact ⟨rfl, HK.out⟩
end Go.Proofs.Ytnednminpmiojaa
