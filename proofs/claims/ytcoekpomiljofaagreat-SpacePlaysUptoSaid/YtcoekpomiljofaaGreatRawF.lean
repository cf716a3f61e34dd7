/- A raw step over what a space holds, as a function. Plain Lean. -/
import Derived.Test.YtcoekpomiljofaaGreatSep
namespace Go.Proofs.YtcoekpomiljofaaGreat
open Go.RowKit
set_option linter.unusedVariables false
set_option linter.unusedSimpArgs false
/-- An int64 as a uint64. -/
def asU (x : Int) : Int := IntKind.u64.wrap x
def Sp.raw (S : Sp) (kd i n x : Int) : Sp :=
  if kd = 3 then (S.store i x).2 else if kd = 5 then (S.take i).2 else if kd = 6 then (S.give i).2 else if kd = 7 then (S.claim i n).2
  else if kd = 8 then (S.ready i n x).2 else if kd = 9 then (S.doom i n x).2 else if kd = 10 then (S.free i n).2 else if kd = 12 then (S.put i n (asU x)).2 else S
theorem Fit.raw {k : Nat} {S : Sp} (h : Fit k S) (kd i n x : Int) : Fit (k + 1) (S.raw kd i n x) := by
  unfold Sp.raw
  split; exact h.store _ _
  split; exact h.take _
  split; exact h.give _
  split; exact h.claim _ _
  split; exact h.ready _ _ _
  split; exact h.doom _ _ _
  split; exact h.free _ _
  split; exact h.put _ _ _
  exact h.succ
/-- What a step leaves of a space and the document's. -/
def TwoWent (w0 w w' : World) (z : Sb) (F : List Nat) (y : Rb) (G : List Nat) (S' : Sp) : Prop :=
  ∃ F' G', Two w0 w' z F' y G' S' S' ∧ Keeps (F ++ G) w w' ∧ (∀ q, q ∈ F' → q ∈ F ∨ w.heap.size ≤ q) ∧ (∀ q, q ∈ G' → q ∈ G ∨ w.heap.size ≤ q)
section
variable {w0 w w1 w2 w' : World} {z : Sb} {F F' : List Nat} {y : Rb} {G G' : List Nat} {S S' T T' : Sp} {k : Nat}
theorem Two.still (h : Two w0 w z F y G S S) (hk : Keeps [] w w') : TwoWent w0 w w' z F y G S := ⟨F, G, h.calm hk, hk.mono (by simp), fun q hq => .inl hq, fun q hq => .inl hq⟩
/-- First the program's call, then the document's. -/
theorem Two.both (hk0 : Keeps [] w w1) (hk1 : Keeps F w1 w2) (hn : ∀ q, q ∈ F' → q ∈ F ∨ w1.heap.size ≤ q) (h : Two w0 w2 z F' y G S' S) (hw : RWent w0 w2 w' y G S') : TwoWent w0 w w' z F y G S' := by
  obtain ⟨G', h1, h2, h3⟩ := h.right hw
  have s0 := hk0.size
  have s1 := hk1.size
  exact ⟨F', G', h1, ((hk0.mono (T := F ++ G) (by simp)).trans hk1 (fun q hq => .inl (by simp [hq]))).trans h2 (fun q hq => .inl (by simp [hq])), fun q hq => (hn q hq).imp id (fun h => by omega), fun q hq => (h3 q hq).imp id (fun h => by omega)⟩
theorem TwoWent.tail (h : TwoWent w0 w w1 z F y G S) (hk : Keeps [] w1 w') : TwoWent w0 w w' z F y G S := by
  obtain ⟨F', G', h1, h2, h3, h4⟩ := h
  exact ⟨F', G', h1.calm hk, h2.trans hk (by simp), h3, h4⟩
theorem gate_held {wB : World} (h : SP w0 wB z F S) (hk : Keeps [] wB w) : Calls Tryz.prog 19 #[PT z.p] w fun e w' => e = .returned (PT z.q) ∧ Keeps [] wB w' :=
  (sp_gate (h.calm hk)).mono fun e w' ⟨he, h2⟩ => ⟨he, h2 ▸ hk⟩
end
end Go.Proofs.YtcoekpomiljofaaGreat
