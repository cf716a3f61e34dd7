/- Layer 11: another head beside a read: dooming, freeing, claiming, getting ready at slot 0. -/
import Derived.Test.YtdhgiohjdhcedaaGreatRdAl
import Derived.Test.YtdhgiohjdhcedaaGreatReadN
import Derived.Test.YtdhgiohjdhcedaaGreatReadP
namespace Go.Proofs.YtdhgiohjdhcedaaGreat
open Go.RowKit
set_option linter.unusedVariables false
set_option linter.unusedSimpArgs false
/-- A read and its space. -/
def Al (wb : World) (z : Sb) (b : Nat) (c : Cf) (L : List Int) (h : Hd) (v cell : Int) (both : Sg) (R k : Nat) (wr : World) : Prop :=
  ∃ F G S x, SP wb wr z F S ∧ Fit k S ∧ RD wb wr z F b G x ∧ AS c L h v cell both S x R
section
variable {wb wr w' : World} {z : Sb} {b : Nat} {c : Cf} {L : List Int} {h : Hd} {v cell : Int} {both : Sg} {R k : Nat}
theorem Al.calm (a : Al wb z b c L h v cell both R k wr) (hk : Keeps [] wr w') : Al wb z b c L h v cell both R k w' := by
  obtain ⟨F, G, S, x, h1, h2, h3, h4⟩ := a
  exact ⟨F, G, S, x, h1.calm hk, h2, h3.calm hk, h4⟩
theorem Al.keep (a : Al wb z b c L h v cell both R k wr) : Keeps [] wb wr := by
  obtain ⟨F, G, S, x, h1, _⟩ := a
  exact h1.keep
theorem Al.done_ (a : Al wb z b c L h v cell both R k wr) : Calls Tryz.prog 163 #[PT b] wr fun e w' => e = .returned (.bool (R == 0)) ∧ wr = w' := by
  obtain ⟨F, G, S, x, h1, h2, ⟨⟨wv, ha, _⟩, _, _⟩, h4⟩ := a
  have := rd_done ha
  rw [h4.over] at this
  exact this
theorem Al.step (a : Al wb z b c L h v cell both R k wr) (hR : R ≠ 0) (hk : k ≤ 1099511627776) : Calls Tryz.prog 78 #[PT b] wr fun e w' => e = .returned (.int .i64 1) ∧ Al wb z b c L h v cell both (R - 1) (k + 1) w' := by
  obtain ⟨F, G, S, x, h1, h2, h3, h4⟩ := a
  obtain ⟨e1, h5⟩ := h4.step hR
  refine (rd_step h1 h2 hk h3 h4.i).mono fun e w' ⟨he, F', G', k1, k2, _⟩ => ?_
  rw [e1] at he
  exact ⟨he, F', G', _, _, k1, h4.i.fit h2, k2, h5⟩
theorem Al.idle (a : Al wb z b c L h v cell both 0 k wr) (hk : k ≤ 1099511627776) : Calls Tryz.prog 78 #[PT b] wr fun e w' => e = .returned (.int .i64 3) ∧ Keeps [] wb w' := by
  obtain ⟨F, G, S, x, h1, h2, h3, h4⟩ := a
  refine (rd_step h1 h2 hk h3 h4.i).mono fun e w' ⟨he, F', G', k1, k2, _⟩ => ?_
  rw [Rd.step_fin h4.ended.1] at he
  exact ⟨he, k1.keep⟩
theorem Al.value (a : Al wb z b c L h v cell both 0 k wr) : Calls Tryz.prog 164 #[PT b] wr fun e w' => e = .returned (.tuple #[.int .i64 (if good h = true then v else 0), .int .i64 (if good h = true then 0 else 7)]) ∧ Keeps [] wr w' := by
  obtain ⟨F, G, S, x, h1, h2, ⟨⟨wv, ha, _⟩, _, _⟩, h4⟩ := a
  have := rd_value ha
  rw [h4.ended.2.2.1, h4.ended.2.1] at this
  exact this
theorem Al.from_ (a : Al wb z b c L h v cell both 0 k wr) : Calls Tryz.prog 165 #[PT b] wr fun e w' => e = .returned (.agg #[.int .i64 0, .int .i64 1, .int .i64 0, .int .u64 (both.a : Int), .int .u64 (both.b : Int)]) ∧ Keeps [] wr w' := by
  obtain ⟨F, G, S, x, h1, h2, ⟨⟨wv, ha, _⟩, _, _⟩, h4⟩ := a
  have := rd_from ha
  rw [h4.ended.2.2.2] at this
  exact this
theorem Al.slots (a : Al wb z b c L h v cell both R k wr) : Calls Tryz.prog 19 #[PT z.p] wr fun e w' => e = .returned (PT z.t.q) ∧ wr = w' := by
  obtain ⟨F, G, S, x, h1, _⟩ := a
  exact sp_slots h1
end
/-- What a reader's space holds. -/
def c11 (n b : Int) : Cf := ⟨n, 1, b, 1, 0, 0⟩
def hd0 : Hd := ⟨1, 2, 1, 1, false, 0⟩
def sp11 (n b : Int) : Sp := ((((Sp.new (c11 n b)).claim 0 1).2).ready 0 1 1).2
theorem sp11_is (n b : Int) : (sp11 n b).c = c11 n b ∧ (sp11 n b).gate.number = 0 ∧ (sp11 n b).cells = List.replicate n.toNat 0 ∧ (sp11 n b).H = [hd0] ∧ (sp11 n b).W = [0, 0] := ⟨rfl, rfl, rfl, rfl, rfl⟩
theorem c11_ok {n b : Int} (n0 : 1 ≤ n) (n1 : n ≤ 256) (b0 : 1 ≤ b) (b1 : b ≤ 128) : (c11 n b).ok := by unfold Cf.ok c11; simp; omega
theorem reader_any (w : World) (n b : Int) (n0 : 1 ≤ n) (n1 : n ≤ 256) (b0 : 1 ≤ b) (b1 : b ≤ 128) : Calls Tryz.prog 162 #[.int .i64 n, .int .i64 b] w fun e w' => ∃ z F, e = .returned (.tuple #[PT z.p, .bool true]) ∧ SP w w' z F (sp11 n b) ∧ Fit 2 (sp11 n b) := by
  have hok := c11_ok n0 n1 b0 b1
  have HN : Hid (∀ w, Calls Tryz.prog 50 #[.agg #[.int .i64 n, .int .i64 1, .int .i64 b, .int .i64 1, .int .i64 0, .int .i64 0]] w fun e w' => ∃ z F, e = .returned (.tuple #[PT z.p, .int .i64 0]) ∧ SP w w' z F (Sp.new (c11 n b))) := fun w => sp_new w (c11 n b) hok
  have hf0 : Fit 0 (Sp.new (c11 n b)) := Fit.new hok
  have HF0 := Lib.hid hf0
  have e1 : (Sp.new (c11 n b)).claim 0 1 = ((1, 0), ((Sp.new (c11 n b)).claim 0 1).2) := rfl
  have e2 : (((Sp.new (c11 n b)).claim 0 1).2).ready 0 1 1 = (0, sp11 n b) := rfl
  have HF2 : Hid (Fit 2 (sp11 n b)) := (hf0.claim 0 1).ready 0 1 1
  have HE := Lib.hid (And.intro e1 e2)
  clear hok hf0 e1 e2 n0 n1 b0 b1
  go_enter Tryz.func162, Tryz.ntmps162
  go_wp2_with fail
  refine (HN.out _).mono ?_
  rintro e w1 ⟨z, F, rfl, hs⟩
  have HS := Lib.hid hs
  clear hs HN
  go_wp2_with fail
  refine (sp_slots HS.out).mono ?_
  rintro e wq ⟨rfl, rfl⟩
  go_wp2_with fail
  refine (sp_gate HS.out).mono ?_
  rintro e wq ⟨rfl, rfl⟩
  go_wp2_with fail
  refine (sp_slots HS.out).mono ?_
  rintro e wq ⟨rfl, rfl⟩
  go_wp2_with fail
  have hcl : Calls Tryz.prog 22 #[PT z.t.q, .int .i64 0, .int .i64 1] w1 fun e w' => e = .returned (.tuple #[.int .i64 1, .int .i64 0]) ∧ Went w w1 w' z F ((Sp.new (c11 n b)).claim 0 1).2 := by
    have h := sp_claim HS.out HF0.out (by decide) 0 1
    rw [HE.out.1] at h
    exact h
  refine hcl.mono ?_
  rintro e w2 ⟨rfl, F2, hs2, _, _⟩
  have HS2 := Lib.hid hs2
  clear hs2 hcl HS
  go_wp2_with fail
  refine (sp_slots HS2.out).mono ?_
  rintro e wq ⟨rfl, rfl⟩
  go_wp2_with fail
  have hcl : Calls Tryz.prog 23 #[PT z.t.q, .int .i64 0, .int .i64 1, .int .i64 1] w2 fun e w' => e = .returned (.int .i64 0) ∧ Went w w2 w' z F2 (sp11 n b) := by
    have h := sp_ready HS2.out (HF0.out.claim 0 1) (by decide) 0 1 1
    rw [HE.out.2] at h
    exact h
  refine hcl.mono ?_
  rintro e w3 ⟨rfl, F3, hs3, _, _⟩
  have HS3 := Lib.hid hs3
  clear hs3 hcl HS2
  go_wp2_with fail
  go_ret2
  exact ⟨z, F3, rfl, HS3.out, HF2.out⟩
end Go.Proofs.YtdhgiohjdhcedaaGreat

namespace Go.Proofs.YtdhgiohjdhcedaaGreat
open Go.RowKit
set_option linter.unusedVariables false
set_option linter.unusedSimpArgs false
section
variable {wb wr w' : World} {z : Sb} {b : Nat} {c : Cf} {L : List Int} {h : Hd} {v cell : Int} {both : Sg} {R k : Nat}
theorem Al.doom (a : Al wb z b c L h v cell both R k wr) (hR : R ≠ 0) (hk : k ≤ 1099511627776) (g t : Int) (h1' : h.state = 2) (h2' : h.gen = g) (t1 : 1 ≤ t) (t8 : t ≤ 8) : Calls Tryz.prog 20 #[PT z.t.q, .int .i64 0, .int .i64 g, .int .i64 t] wr fun e w' => (∃ r : Int, e = .returned (.int .i64 r)) ∧ Al wb z b c L (h.doom t) v cell both R (k + 1) w' := by
  obtain ⟨F, G, S, x, h1, h2, h3, h4⟩ := a
  have hn : nth S.H 0 = some h := by rw [h4.H]; rfl
  have e : S.doom 0 g t = (0, { S.acc 3 0 3 true with H := S.H.set 0 (h.doom t) }) := by
    unfold Sp.doom
    simp only [hn]
    rw [if_neg (by omega), if_pos ⟨h1', h2'⟩]; rfl
  have hH : (S.acc 3 0 3 true).H = S.H := rfl
  refine (sp_doom h1 h2 hk 0 g t).mono fun e' w' ⟨he, F', k1, k2, k3⟩ => ?_
  refine ⟨⟨_, he⟩, F', G, _, x, k1, h2.doom 0 g t, h3.step k2 k3, h4.headed hR (by rw [e]; rfl) (by rw [e]; rfl) (by rw [e]; rfl) (by rw [e]; show S.H.set 0 _ = _; rw [h4.H]; rfl) (by rw [e]; rfl)⟩
theorem Al.free (a : Al wb z b c L h v cell both R k wr) (hR : R ≠ 0) (hk : k ≤ 1099511627776) (g : Int) (h1' : h.state ≠ 0) (h2' : h.gen = g) : Calls Tryz.prog 21 #[PT z.t.q, .int .i64 0, .int .i64 g] wr fun e w' => (∃ r : Int, e = .returned (.int .i64 r)) ∧ Al wb z b c L (⟨h.gen, 0, 0, 0, false, 0⟩) v cell both R (k + 1) w' := by
  obtain ⟨F, G, S, x, h1, h2, h3, h4⟩ := a
  have hn : nth S.H 0 = some h := by rw [h4.H]; rfl
  have e : S.free 0 g = (0, { S.acc 3 0 3 true with H := S.H.set 0 ⟨h.gen, 0, 0, 0, false, 0⟩ }) := by
    unfold Sp.free
    simp only [hn]
    rw [if_pos ⟨h1', h2'⟩]; rfl
  have hH : (S.acc 3 0 3 true).H = S.H := rfl
  refine (sp_free h1 h2 hk 0 g).mono fun e' w' ⟨he, F', k1, k2, k3⟩ => ?_
  refine ⟨⟨_, he⟩, F', G, _, x, k1, h2.free 0 g, h3.step k2 k3, h4.headed hR (by rw [e]; rfl) (by rw [e]; rfl) (by rw [e]; rfl) (by rw [e]; show S.H.set 0 _ = _; rw [h4.H]; rfl) (by rw [e]; rfl)⟩
theorem Al.claim (a : Al wb z b c L h v cell both R k wr) (hR : R ≠ 0) (hk : k ≤ 1099511627776) (t : Int) (h1' : h.state = 0) (t1 : 1 ≤ t) (t8 : t ≤ 8) : Calls Tryz.prog 22 #[PT z.t.q, .int .i64 0, .int .i64 t] wr fun e w' => (∃ r s : Int, e = .returned (.tuple #[.int .i64 r, .int .i64 s])) ∧ Al wb z b c L (⟨h.gen + 1, 1, 0, t, false, 0⟩) v cell both R (k + 1) w' := by
  obtain ⟨F, G, S, x, h1, h2, h3, h4⟩ := a
  have hn : nth S.H 0 = some h := by rw [h4.H]; rfl
  have e : S.claim 0 t = ((h.gen + 1, 0), { S.acc 3 0 3 true with H := S.H.set 0 ⟨h.gen + 1, 1, 0, t, false, 0⟩ }) := by
    unfold Sp.claim
    simp only [hn]
    rw [if_neg (by omega), if_pos h1']; rfl
  have hH : (S.acc 3 0 3 true).H = S.H := rfl
  refine (sp_claim h1 h2 hk 0 t).mono fun e' w' ⟨he, F', k1, k2, k3⟩ => ?_
  refine ⟨⟨_, _, he⟩, F', G, _, x, k1, h2.claim 0 t, h3.step k2 k3, h4.headed hR (by rw [e]; rfl) (by rw [e]; rfl) (by rw [e]; rfl) (by rw [e]; show S.H.set 0 _ = _; rw [h4.H]; rfl) (by rw [e]; rfl)⟩
theorem Al.ready (a : Al wb z b c L h v cell both R k wr) (hR : R ≠ 0) (hk : k ≤ 1099511627776) (g t : Int) (h1' : h.state = 1) (h2' : h.gen = g) (t1 : 1 ≤ t) : Calls Tryz.prog 23 #[PT z.t.q, .int .i64 0, .int .i64 g, .int .i64 t] wr fun e w' => (∃ r : Int, e = .returned (.int .i64 r)) ∧ Al wb z b c L (⟨h.gen, 2, t, h.thread, h.doomed, h.who⟩) v cell both R (k + 1) w' := by
  obtain ⟨F, G, S, x, h1, h2, h3, h4⟩ := a
  have hn : nth S.H 0 = some h := by rw [h4.H]; rfl
  have e : S.ready 0 g t = (0, { S.acc 3 0 3 true with H := S.H.set 0 ⟨h.gen, 2, t, h.thread, h.doomed, h.who⟩ }) := by
    unfold Sp.ready
    simp only [hn]
    rw [if_neg (by omega), if_pos ⟨h1', h2'⟩]; rfl
  have hH : (S.acc 3 0 3 true).H = S.H := rfl
  refine (sp_ready h1 h2 hk 0 g t).mono fun e' w' ⟨he, F', k1, k2, k3⟩ => ?_
  refine ⟨⟨_, he⟩, F', G, _, x, k1, h2.ready 0 g t, h3.step k2 k3, h4.headed hR (by rw [e]; rfl) (by rw [e]; rfl) (by rw [e]; rfl) (by rw [e]; show S.H.set 0 _ = _; rw [h4.H]; rfl) (by rw [e]; rfl)⟩
end
theorem and3' (n : Int) : bits .and .i64 n 3 = n % 4 := by
  have hm : (BitVec.ofInt 64 3).toNat = 2 ^ 2 - 1 := by decide
  have key : (BitVec.ofInt 64 n &&& BitVec.ofInt 64 3).toNat = (n % ((2 ^ 64 : Nat) : Int)).toNat % 2 ^ 2 := by
    rw [BitVec.toNat_and, BitVec.toNat_ofInt, hm, Nat.and_two_pow_sub_one_eq_mod]
  show IntKind.i64.wrap ((BitVec.ofInt 64 n &&& BitVec.ofInt 64 3).toNat : Nat) = n % 4
  rw [key, IntKind.wrap_i64]
  omega
theorem and7' (n : Int) : bits .and .i64 n 7 = n % 8 := by
  have hm : (BitVec.ofInt 64 7).toNat = 2 ^ 3 - 1 := by decide
  have key : (BitVec.ofInt 64 n &&& BitVec.ofInt 64 7).toNat = (n % ((2 ^ 64 : Nat) : Int)).toNat % 2 ^ 3 := by
    rw [BitVec.toNat_and, BitVec.toNat_ofInt, hm, Nat.and_two_pow_sub_one_eq_mod]
  show IntKind.i64.wrap ((BitVec.ofInt 64 n &&& BitVec.ofInt 64 7).toNat : Nat) = n % 8
  rw [key, IntKind.wrap_i64]
  omega
end Go.Proofs.YtdhgiohjdhcedaaGreat
