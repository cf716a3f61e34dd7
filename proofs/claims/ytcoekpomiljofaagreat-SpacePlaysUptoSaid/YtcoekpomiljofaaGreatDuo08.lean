/- quashlaw08.does over all kinds; two pairs of spaces in one bundle. -/
import Derived.Test.YtcoekpomiljofaaGreatDo08a
import Derived.Test.YtcoekpomiljofaaGreatDo08b
import Derived.Test.YtcoekpomiljofaaGreatDo08c
import Derived.Test.YtcoekpomiljofaaGreatDo08d
import Derived.Test.YtcoekpomiljofaaGreatDo08f
import Derived.Test.YtcoekpomiljofaaGreatElOp08
namespace Go.Proofs.YtcoekpomiljofaaGreat
open Go.RowKit
set_option linter.unusedVariables false
/-- A step over what a space holds. -/
def Sp.play (S : Sp) (p : Op08) : Sp :=
  if p.kind = 1 then S.begin p.i else if p.kind = 2 then (S.load p.i).2 else if p.kind = 3 then (S.store p.i p.x).2 else if p.kind = 4 then (S.fill p.xs).2
  else if p.kind = 5 then (S.take p.i).2 else if p.kind = 6 then (S.give p.i).2 else if p.kind = 7 then (S.claim p.i p.n).2 else if p.kind = 8 then (S.ready p.i p.n p.x).2
  else if p.kind = 9 then (S.doom p.i p.n p.x).2 else if p.kind = 10 then (S.free p.i p.n).2 else if p.kind = 11 then (S.word p.i p.n).2 else if p.kind = 12 then (S.put p.i p.n (asU p.x)).2
  else if p.kind = 13 then S.note p.ev else S
theorem Fit.play {k : Nat} {S : Sp} (h : Fit k S) (p : Op08) : Fit (k + 1) (S.play p) := by
  unfold Sp.play
  by_cases e1 : p.kind = 1
  · rw [if_pos e1]; exact (h.begin _).succ
  rw [if_neg e1]
  by_cases e2 : p.kind = 2
  · rw [if_pos e2]; exact h.load _
  rw [if_neg e2]
  by_cases e3 : p.kind = 3
  · rw [if_pos e3]; exact h.store _ _
  rw [if_neg e3]
  by_cases e4 : p.kind = 4
  · rw [if_pos e4]; exact (h.fill _).succ
  rw [if_neg e4]
  by_cases e5 : p.kind = 5
  · rw [if_pos e5]; exact h.take _
  rw [if_neg e5]
  by_cases e6 : p.kind = 6
  · rw [if_pos e6]; exact h.give _
  rw [if_neg e6]
  by_cases e7 : p.kind = 7
  · rw [if_pos e7]; exact h.claim _ _
  rw [if_neg e7]
  by_cases e8 : p.kind = 8
  · rw [if_pos e8]; exact h.ready _ _ _
  rw [if_neg e8]
  by_cases e9 : p.kind = 9
  · rw [if_pos e9]; exact h.doom _ _ _
  rw [if_neg e9]
  by_cases e10 : p.kind = 10
  · rw [if_pos e10]; exact h.free _ _
  rw [if_neg e10]
  by_cases e11 : p.kind = 11
  · rw [if_pos e11]; exact h.word _ _
  rw [if_neg e11]
  by_cases e12 : p.kind = 12
  · rw [if_pos e12]; exact h.put _ _ _
  rw [if_neg e12]
  by_cases e13 : p.kind = 13
  · rw [if_pos e13]; exact h.note _
  rw [if_neg e13]
  exact h.succ
theorem play_c (S : Sp) (p : Op08) : (S.play p).c = S.c := by
  unfold Sp.play
  by_cases e1 : p.kind = 1
  · rw [if_pos e1]; rfl
  rw [if_neg e1]
  by_cases e2 : p.kind = 2
  · rw [if_pos e2]; (unfold Sp.load; split <;> rfl)
  rw [if_neg e2]
  by_cases e3 : p.kind = 3
  · rw [if_pos e3]; (unfold Sp.store; split <;> rfl)
  rw [if_neg e3]
  by_cases e4 : p.kind = 4
  · rw [if_pos e4]; (unfold Sp.fill; split <;> rfl)
  rw [if_neg e4]
  by_cases e5 : p.kind = 5
  · rw [if_pos e5]; (unfold Sp.take; split; rfl; split <;> rfl)
  rw [if_neg e5]
  by_cases e6 : p.kind = 6
  · rw [if_pos e6]; (unfold Sp.give; split; rfl; split <;> rfl)
  rw [if_neg e6]
  by_cases e7 : p.kind = 7
  · rw [if_pos e7]; (unfold Sp.claim; split; rfl; split; rfl; split <;> rfl)
  rw [if_neg e7]
  by_cases e8 : p.kind = 8
  · rw [if_pos e8]; (unfold Sp.ready; split; rfl; split; rfl; split <;> rfl)
  rw [if_neg e8]
  by_cases e9 : p.kind = 9
  · rw [if_pos e9]; (unfold Sp.doom; split; rfl; split; rfl; split <;> rfl)
  rw [if_neg e9]
  by_cases e10 : p.kind = 10
  · rw [if_pos e10]; (unfold Sp.free; split; rfl; split <;> rfl)
  rw [if_neg e10]
  by_cases e11 : p.kind = 11
  · rw [if_pos e11]; (unfold Sp.word; split <;> rfl)
  rw [if_neg e11]
  by_cases e12 : p.kind = 12
  · rw [if_pos e12]; (unfold Sp.put; split <;> rfl)
  rw [if_neg e12]
  by_cases e13 : p.kind = 13
  · rw [if_pos e13]; rfl
  rw [if_neg e13]
section
variable {w0 w w' : World} {z z2 : Sb} {F F2 : List Nat} {y y2 : Rb} {G G2 : List Nat} {S S' T : Sp} {k : Nat} {X : List Nat}
theorem does_any (h : Two w0 w z F y G S S) (hf : Fit k S) (hk : k ≤ 1099511627776) (p : Op08) (hA : Slc w p.A p.xs) (hA0 : ∀ b off, p.A = some ⟨b, off, none⟩ → 0 < p.xs.length → b ∉ F ∧ b ∉ G) (hn : p.xs.length ≤ 1048576) :
    Calls Tryz.prog 37 #[PT z.p, PT y.p, .agg p.vals] w fun e w' => e = .returned (.bool true) ∧ TwoWent w0 w w' z F y G (S.play p) := by
  obtain ⟨other, kind, i, n, x, A, c, xs, v⟩ := p
  unfold Sp.play Op08.vals
  dsimp only at hA hA0 hn ⊢
  by_cases e1 : kind = 1
  · subst e1; rw [if_pos rfl]; exact Do08.turn_any h other i n x _ _ _ _ _ _ _ _ _ _ _
  rw [if_neg e1]
  by_cases e2 : kind = 2
  · subst e2; rw [if_pos rfl]; exact Do08.load_any h hf hk other i n x _ _ _ _ _ _ _ _ _ _ _
  rw [if_neg e2]
  by_cases e3 : kind = 3
  · subst e3; rw [if_pos rfl]; exact Do08.store_any h hf hk other i n x _ _ _ _ _ _ _ _ _ _ _
  rw [if_neg e3]
  by_cases e4 : kind = 4
  · subst e4; rw [if_pos rfl]; exact Do08.fill_any h other i n x A c xs hA hA0 hn _ _ _ _ _ _ _ _ _ _
  rw [if_neg e4]
  by_cases e5 : kind = 5
  · subst e5; rw [if_pos rfl]; exact Do08.take_any h hf hk other i n x _ _ _ _ _ _ _ _ _ _ _
  rw [if_neg e5]
  by_cases e6 : kind = 6
  · subst e6; rw [if_pos rfl]; exact Do08.give_any h hf hk other i n x _ _ _ _ _ _ _ _ _ _ _
  rw [if_neg e6]
  by_cases e7 : kind = 7
  · subst e7; rw [if_pos rfl]; exact Do08.claim_any h hf hk other i n x _ _ _ _ _ _ _ _ _ _ _
  rw [if_neg e7]
  by_cases e8 : kind = 8
  · subst e8; rw [if_pos rfl]; exact Do08.ready_any h hf hk other i n x _ _ _ _ _ _ _ _ _ _ _
  rw [if_neg e8]
  by_cases e9 : kind = 9
  · subst e9; rw [if_pos rfl]; exact Do08.doom_any h hf hk other i n x _ _ _ _ _ _ _ _ _ _ _
  rw [if_neg e9]
  by_cases e10 : kind = 10
  · subst e10; rw [if_pos rfl]; exact Do08.free_any h hf hk other i n x _ _ _ _ _ _ _ _ _ _ _
  rw [if_neg e10]
  by_cases e11 : kind = 11
  · subst e11; rw [if_pos rfl]; exact Do08.word_any h hf hk other i n x _ _ _ _ _ _ _ _ _ _ _
  rw [if_neg e11]
  by_cases e12 : kind = 12
  · subst e12; rw [if_pos rfl]; exact Do08.put_any h hf hk other i n x _ _ _ _ _ _ _ _ _ _ _
  rw [if_neg e12]
  by_cases e13 : kind = 13
  · subst e13; rw [if_pos rfl]; exact Do08.note_any h hf hk other i n x _ v
  rw [if_neg e13]
  exact Do08.none_any h other kind i n x _ _ _ _ _ _ _ _ _ _ _ e1 e2 e3 e4 e5 e6 e7 e8 e9 e10 e11 e12 e13
/-- Writes that are far from both. -/
theorem Two.away (h : Two w0 w z F y G S S') (hk : Keeps X w w') (hX : Apart w0 w X) (hd : ∀ q, q ∈ X → q ∉ F ∧ q ∉ G) : Two w0 w' z F y G S S' :=
  ⟨lies_sp z S w w' F X h.sp hk (fun q hq hx => (hd q hx).1 hq) hX, lies_rp y S' w w' G X h.rp hk (fun q hq hx => (hd q hx).2 hq) hX, h.far⟩
/-- Two pairs. -/
structure Duo (w0 w : World) (z : Sb) (y : Rb) (S : Sp) (z2 : Sb) (y2 : Rb) (T : Sp) : Prop where
  ex : ∃ F G F2 G2, Two w0 w z F y G S S ∧ Two w0 w z2 F2 y2 G2 T T ∧ ∀ q, q ∈ F ++ G → q ∉ F2 ++ G2
theorem Duo.swap (h : Duo w0 w z y S z2 y2 T) : Duo w0 w z2 y2 T z y S := by
  obtain ⟨F, G, F2, G2, h1, h2, h3⟩ := h.ex
  exact ⟨F2, G2, F, G, h2, h1, fun q hq hx => h3 q hx hq⟩
theorem Duo.calm (h : Duo w0 w z y S z2 y2 T) (hk : Keeps [] w w') : Duo w0 w' z y S z2 y2 T := by
  obtain ⟨F, G, F2, G2, h1, h2, h3⟩ := h.ex
  exact ⟨F, G, F2, G2, h1.calm hk, h2.calm hk, h3⟩
theorem Duo.keep (h : Duo w0 w z y S z2 y2 T) : Keeps [] w0 w := by
  obtain ⟨F, G, F2, G2, h1, h2, h3⟩ := h.ex
  exact h1.sp.keep
theorem Duo.two (h : Duo w0 w z y S z2 y2 T) : ∃ F G, Two w0 w z F y G S S := by
  obtain ⟨F, G, F2, G2, h1, h2, h3⟩ := h.ex
  exact ⟨F, G, h1⟩
/-- A step over the first pair. -/
theorem Duo.step (h : Duo w0 w z y S z2 y2 T) (hf : Fit k S) (hk : k ≤ 1099511627776) (p : Op08) (hA : Slc w0 p.A p.xs) (hn : p.xs.length ≤ 1048576) :
    Calls Tryz.prog 37 #[PT z.p, PT y.p, .agg p.vals] w fun e w' => e = .returned (.bool true) ∧ Duo w0 w' z y (S.play p) z2 y2 T ∧ ∀ b cs, Blk w b 30 cs → Blk w' b 30 cs := by
  obtain ⟨F, G, F2, G2, h1, h2, h3⟩ := h.ex
  have hlow : ∀ b off, p.A = some ⟨b, off, none⟩ → 0 < p.xs.length → b ∉ F ∧ b ∉ G := fun b off e h0 => by
    rcases hA.2 with h4 | ⟨b', off', e', hb, _⟩
    · rw [h4] at h0; simp at h0
    · rw [e] at e'
      injection e' with e'
      injection e' with e1 e2
      subst e1
      exact ⟨fun hx => by have := h1.sp.low _ hx; omega, fun hx => by have := h1.rp.low _ hx; omega⟩
  refine (does_any h1 hf hk p (hA.keeps h1.sp.keep) hlow hn).mono fun e w' ⟨he, F', G', g1, g2, g3, g4⟩ => ⟨he, ⟨F', G', F2, G2, g1, ?_, ?_⟩, fun b cs hb => hb.keeps g2 (fun hx => by
    rw [List.mem_append] at hx
    exact hx.elim (h1.sp.out hb (by decide)) (h1.rp.out hb (by decide)))⟩
  · exact h2.away g2 (h1.sp.apart.app h1.rp.apart) (fun q hq => by
      have := h3 q hq
      rw [List.mem_append] at this
      exact ⟨fun hx => this (.inl hx), fun hx => this (.inr hx)⟩)
  · intro q hq hx
    have hlt : q < w.heap.size := by
      rw [List.mem_append] at hx
      exact hx.elim (h2.sp.lt q) (h2.rp.lt q)
    rw [List.mem_append] at hq
    have hold : q ∈ F ++ G := by
      rw [List.mem_append]
      rcases hq with hq | hq
      · rcases g3 q hq with h4 | h4
        · exact .inl h4
        · omega
      · rcases g4 q hq with h4 | h4
        · exact .inr h4
        · omega
    exact h3 q hold hx
/-- The bundle at its start. -/
theorem Duo.start (h1 : SP w0 w z F S) (h2 : SP w0 w z2 F2 T) (h3 : RP w0 w y G S) (h4 : RP w0 w y2 G2 T) (d1 : ∀ q, q ∈ F → q ∉ F2 ∧ q ∉ G ∧ q ∉ G2) (d2 : ∀ q, q ∈ F2 → q ∉ G ∧ q ∉ G2) (d3 : ∀ q, q ∈ G → q ∉ G2) : Duo w0 w z y S z2 y2 T := by
  refine ⟨F, G, F2, G2, ⟨h1, h3, fun q hq => (d1 q hq).2.1⟩, ⟨h2, h4, fun q hq => (d2 q hq).2⟩, fun q hq hx => ?_⟩
  rw [List.mem_append] at hq hx
  rcases hq with hq | hq <;> rcases hx with hx | hx
  · exact (d1 q hq).1 hx
  · exact (d1 q hq).2.2 hx
  · exact (d2 q hx).1 hq
  · exact d3 q hq hx
end
end Go.Proofs.YtcoekpomiljofaaGreat
