/- CommitBounds: the commit, the space and the law's row of writes in one bundle; one lemma a call. -/
import Derived.Test.YtcoekpomiljofaaGreatCmMoves
import Derived.Test.YtcoekpomiljofaaGreatCmSide
namespace Go.Proofs.YtcoekpomiljofaaGreat.bd
open Go.RowKit Pol fd al
set_option linter.unusedVariables false
set_option linter.unusedSimpArgs false
theorem Bp.wt_rng {c : Cf} {C : List Int} {ws : List Pr} {a r : Nat} {S : Sp} {d : Int} {x : Cm} {wt : Int} (p : Bp c C ws a r S d x wt) : 0 ≤ wt ∧ wt ≤ 1 := by
  have he : Ends c C ws a S x wt → 0 ≤ wt ∧ wt ≤ 1 := fun h => by
    rcases h with ⟨_, _, _, _, _, h⟩ | ⟨_, _, _, _, ⟨_, _, _, h⟩ | ⟨_, _, h⟩⟩ <;> omega
  cases p with
  | own b st ho hg hC hc hd_ he hw hwt hr => omega
  | looking l b st hl hne ht hv hws ho hg hC hc hd_ he hw hwt hr => omega
  | doom y b st hy hne hv hwho ho hg hC hc hd_ he hw hwt hr => omega
  | write i b st hi ho hg hC hc hd_ he hw hwt hr => omega
  | give b st ho hg hC hc hd_ he hwt hr => omega
  | giveUp b st ho hg hC hc hd_ he hw hwt hr => omega
  | free b st ho hg hE hr => exact he hE
  | over b st hg hE hr => exact he hE
theorem Bp.bb {c : Cf} {C : List Int} {ws : List Pr} {a r : Nat} {S : Sp} {d : Int} {x : Cm} {wt : Int} (p : Bp c C ws a r S d x wt) : Bb c ws a S x := by
  cases p <;> assumption
/-- All of it. -/
def Bw (wb w : World) (z : Sb) (jb cb : Nat) (c : Cf) (C : List Int) (ws : List Pr) (a r : Nat) (wt : Int) (gw nw cw k : Nat) (o : Bool) (dn : Int) : Prop :=
  ∃ S d x, CmS wb w z jb cb 8 k S c d x [gw] ∧ w.ownsRow 0 62 2 (.slice (some ⟨gw, 0, none⟩) nw cw) nw (prCells ws) ∧ Bp c C ws a r S d x wt ∧ x.done = o ∧ S.met.done = dn
section
variable {wb w w' : World} {z : Sb} {jb cb : Nat} {c : Cf} {C : List Int} {ws : List Pr} {a r : Nat} {wt : Int} {gw nw cw k : Nat} {o : Bool} {dn : Int}
theorem Bw.calm (h : Bw wb w z jb cb c C ws a r wt gw nw cw k o dn) (hk : Keeps [] w w') : Bw wb w' z jb cb c C ws a r wt gw nw cw k o dn := by
  obtain ⟨S, d, x, h1, h2, h3⟩ := h
  exact ⟨S, d, x, h1.calm hk, own_keeps h2 hk (by simp), h3⟩
theorem Bw.keep (h : Bw wb w z jb cb c C ws a r wt gw nw cw k o dn) : Keeps [] wb w := by
  obtain ⟨S, d, x, h1, _⟩ := h
  exact h1.keep
theorem Bw.wt_rng (h : Bw wb w z jb cb c C ws a r wt gw nw cw k o dn) : 0 ≤ wt ∧ wt ≤ 1 := by
  obtain ⟨S, d, x, h1, h2, h3, _⟩ := h
  exact h3.wt_rng
theorem Bw.done (h : Bw wb w z jb cb c C ws a r wt gw nw cw k o dn) : Calls Tryz.prog 18 #[PT cb] w fun e w' => e = .returned (.bool o) ∧ w = w' := by
  obtain ⟨S, d, x, h1, h2, h3, h4, h5⟩ := h
  have := h1.run.done
  rw [h4] at this
  exact this
theorem Bw.cell (h : Bw wb w z jb cb c C ws a r wt gw nw cw k o dn) : w.cell? ⟨z.p, 0, none⟩ = some (PT z.m) := by
  obtain ⟨S, d, x, h1, _⟩ := h
  obtain ⟨F, hs⟩ := h1.run.sp
  exact hs.cells.1
theorem Bw.met (h : Bw wb w z jb cb c C ws a r wt gw nw cw k o dn) : Calls Tryz.prog 31 #[PT z.m] w fun e w' => e = .returned (.int .i64 dn) ∧ w = w' := by
  obtain ⟨S, d, x, h1, h2, h3, h4, h5⟩ := h
  obtain ⟨F, hs⟩ := h1.run.sp
  have := sp_done hs
  rw [h5] at this
  exact this
theorem Bw.move (h : Bw wb w z jb cb c C ws a r wt gw nw cw k o dn) (hk : k ≤ 1099511627776) (p : ElMov13) (hx : isU p.x) :
    Calls Tryz.prog 30 #[PT z.p, .agg #[.bool p.go, .int .i64 p.kind, .int .i64 p.slot, .int .u64 p.x]] w fun e w' => e = .returned (.tuple #[]) ∧ ∃ dn', Bw wb w' z jb cb c C ws a r wt gw nw cw (k + 1) o dn' := by
  obtain ⟨S, d, x, h1, h2, h3, h4, h5⟩ := h
  obtain ⟨F, hs, hby⟩ := h1.by_
  refine (moves_any hs h1.fit hk h1.wu h1.len p hx).mono fun e w' ⟨he, S', m1, m2, m3, m4, m5, m6⟩ => ⟨he, S'.met.done, ?_⟩
  obtain ⟨g1, g2⟩ := hby w' S' m1 m2 m3 (m4.trans h1.cc) (m5.trans h1.len)
  exact ⟨S', d, x, g1, g2.own h2 (fun q hq => by simp [Value.ownBlock] at hq; simp [hq]), h3.oth (m6 a h3.bb.lg), h4, rfl⟩
theorem Bw.turn (h : Bw wb w z jb cb c C ws a r wt gw nw cw k o dn) (t : Int) : Calls Tryz.prog 21 #[PT z.p, .int .i64 t] w fun e w' => e = .returned (.tuple #[]) ∧ Bw wb w' z jb cb c C ws a r wt gw nw cw (k + 1) o 0 := by
  obtain ⟨S, d, x, h1, h2, h3, h4, h5⟩ := h
  obtain ⟨F, hs, hby⟩ := h1.by_
  refine (sp_turn hs t).mono fun e w' ⟨he, hw⟩ => ⟨he, ?_⟩
  obtain ⟨g1, g2⟩ := hby w' (S.begin t) hw (h1.fit.begin t).succ h1.wu h1.cc h1.len
  exact ⟨S.begin t, d, x, g1, g2.own h2 (fun q hq => by simp [Value.ownBlock] at hq; simp [hq]), h3.oth (Oth.begin h3.bb.lg t), h4, rfl⟩
theorem Bw.step (h : Bw wb w z jb cb c C ws a r wt gw nw cw k false 0) (hk : k + 1 ≤ 1099511627776) (hw1 : 1 ≤ ws.length) (hcells : ∀ p, p ∈ ws → 0 ≤ p.cell ∧ p.cell < (C.length : Int)) :
    Calls Tryz.prog 22 #[PT cb] w fun e w' => ∃ (an : Int) (r' : Nat) (wt' : Int) (o' : Bool), e = .returned (.int .i64 an) ∧ r' < r ∧ ((an = 1 ∧ wt' = wt) ∨ (an = 2 ∧ wt' = wt + 1)) ∧ Bw wb w' z jb cb c C ws a r' wt' gw nw cw (k + 1) o' 1 := by
  obtain ⟨S, d, x, h1, h2, h3, h4, h5⟩ := h
  have hst : x.st ≠ .over := fun e => by
    unfold Cm.done at h4
    rw [e] at h4
    simp at h4
  obtain ⟨s1, s2, r', s3, s4⟩ := h3.step h5 h1.fit.words hw1 hcells hst
  refine (h1.step hk).mono fun e w' ⟨he, g1, g2⟩ => ?_
  have hrow := g2.own h2 (fun q hq => by simp [Value.ownBlock] at hq; simp [hq])
  rcases s4 with ⟨a1, a2⟩ | ⟨a1, a2⟩
  · exact ⟨1, r', wt, _, by rw [he, a1], s3, .inl ⟨rfl, rfl⟩, _, _, _, g1, hrow, a2, rfl, s2⟩
  · exact ⟨2, r', wt + 1, _, by rw [he, a1], s3, .inr ⟨rfl, rfl⟩, _, _, _, g1, hrow, a2, rfl, s2⟩
/-- What holds at the end. -/
theorem Bw.fin (h : Bw wb w z jb cb c C ws a r wt gw nw cw k true dn) : ∃ S d x, CmS wb w z jb cb 8 k S c d x [gw] ∧ w.ownsRow 0 62 2 (.slice (some ⟨gw, 0, none⟩) nw cw) nw (prCells ws) ∧ x.st = .over ∧ S.gate = ⟨2, 0⟩ ∧ Ends c C ws a S x wt ∧ a ≤ S.met.log.length ∧ x.victims.length ≤ 8 := by
  obtain ⟨S, d, x, h1, h2, h3, h4, h5⟩ := h
  have hst : x.st = .over := by
    unfold Cm.done at h4
    simpa using h4
  obtain ⟨g1, g2⟩ := h3.fin hst
  refine ⟨S, d, x, h1, h2, hst, g1, g2, h3.bb.lg, ?_⟩
  unfold Cm.victims
  split
  · simp
  · rename_i l hl
    have := (h1.ok.lk l hl).sum
    omega
end
end Go.Proofs.YtcoekpomiljofaaGreat.bd
