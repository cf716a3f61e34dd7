/- Layer 13: one commit over one space by one judge: its run, bundled. -/
import Derived.Test.YtdhgiohjdhcedaaGreatCmNew
import Derived.Test.YtdhgiohjdhcedaaGreatCmStep
namespace Go.Proofs.YtdhgiohjdhcedaaGreat
open Go.RowKit Pol
set_option linter.unusedVariables false
set_option linter.unusedSimpArgs false
/-- A commit under way, k calls since the space was new. -/
structure CmRun (w0 w : World) (z : Sb) (jb cb : Nat) (n k : Nat) (S : Sp) (c : Cf) (d : Int) (x : Cm) : Prop where
  ex : ∃ F H dp, CmTrio w0 w z F H jb cb dp (stgVal dp x.st) S c d x
  fit : Fit k S
  wu : S.wu
  cc : S.c = c
  len : S.H.length = n
  ok : x.Ok n
  d0 : 0 ≤ d
  d1 : d ≤ 64
section
variable {w0 w w' : World} {z : Sb} {F : List Nat} {jb cb n k : Nat} {S : Sp} {c : Cf} {d : Int} {x : Cm}
theorem CmRun.calm (h : CmRun w0 w z jb cb n k S c d x) (hk : Keeps [] w w') : CmRun w0 w' z jb cb n k S c d x := by
  obtain ⟨F, H, dp, ht⟩ := h.ex
  exact ⟨⟨F, H, dp, ht.calm hk⟩, h.fit, h.wu, h.cc, h.len, h.ok, h.d0, h.d1⟩
theorem CmRun.sp (h : CmRun w0 w z jb cb n k S c d x) : ∃ F, SP w0 w z F S := by
  obtain ⟨F, H, dp, ht⟩ := h.ex
  exact ⟨F, ht.sp⟩
/-- A step. -/
theorem CmRun.step (h : CmRun w0 w z jb cb n k S c d x) (hk : k + 1 ≤ 1099511627776) :
    Calls Tryz.prog 28 #[PT cb] w fun e w' => e = .returned (.int .i64 (x.step S d).1) ∧ CmRun w0 w' z jb cb n (k + 1) (x.step S d).2.2.1 c (x.step S d).2.2.2 (x.step S d).2.1 := by
  obtain ⟨F, H, dp, ht⟩ := h.ex
  have hn := h.len
  have hi := x.step_is S d
  refine (cm_step ht h.fit hk h.cc h.wu h.d0 h.d1 (hn ▸ h.ok)).mono fun e w' ⟨he, dp', hw⟩ => ⟨he, ?_⟩
  obtain ⟨F', H', ht', _⟩ := WentC.trio ht hw
  have hr := Cm.step_rng (S := S) h.fit.c h.d0 h.d1 x
  exact ⟨⟨F', H', dp', ht'⟩, h.fit.cmstep x d, h.wu.same hi.2.1, hi.1.trans h.cc, hi.2.2.trans hn, h.ok.step hn h.wu h.fit.c, hr.1, hr.2⟩
theorem CmRun.done (h : CmRun w0 w z jb cb n k S c d x) : Calls Tryz.prog 27 #[PT cb] w fun e w' => e = .returned (.bool x.done) ∧ w = w' := by
  obtain ⟨F, H, dp, ht⟩ := h.ex
  exact cm_done ht.cm
theorem CmRun.end_ (h : CmRun w0 w z jb cb n k S c d x) : Calls Tryz.prog 29 #[PT cb] w fun e w' => e = .returned (.int .i64 x.end_) ∧ w = w' := by
  obtain ⟨F, H, dp, ht⟩ := h.ex
  exact cm_end ht.cm
theorem CmRun.won (h : CmRun w0 w z jb cb n k S c d x) : Calls Tryz.prog 30 #[PT cb] w fun e w' => e = .returned (.bool x.won) ∧ w = w' := by
  obtain ⟨F, H, dp, ht⟩ := h.ex
  exact cm_won ht.cm
theorem CmRun.number (h : CmRun w0 w z jb cb n k S c d x) : Calls Tryz.prog 31 #[PT cb] w fun e w' => e = .returned (.int .i64 x.number) ∧ w = w' := by
  obtain ⟨F, H, dp, ht⟩ := h.ex
  exact cm_number ht.cm
theorem CmRun.victims (h : CmRun w0 w z jb cb n k S c d x) : Calls Tryz.prog 37 #[PT cb] w fun e w' => ∃ v, e = .returned v ∧ w'.ownsRow 0 73 4 v x.victims.length (vcCells x.victims) ∧ Keeps [] w w' ∧ (∀ q, v.ownBlock = some q → w.heap.size ≤ q) := by
  obtain ⟨F, H, dp, ht⟩ := h.ex
  refine cm_victims ht.cm ?_
  unfold Cm.victims
  split
  · decide
  · rename_i l hl
    have := (h.ok.lk l hl).sum
    have := h.ok.n8
    omega
/-- One that was made. -/
theorem CmRun.made (hs : SP w0 w z F S) (hj : JAt w jb c d) (hlo : w0.heap.size ≤ jb) (hf : Fit k S) (hu : S.wu) (hc : S.c = c) (hn : S.H.length = n) (h0 : 0 ≤ d) (h1 : d ≤ 64)
    {sl ge th st : Int} {ws : List Pr} (he : mayE c sl th st ws = 0) {H : List Nat} (hm : CmN w0 w z F jb cb H 0 (stgVal 0 .take) (Cm.new sl ge th st ws)) (hjH : jb ∉ H) : CmRun w0 w z jb cb n k S c d (Cm.new sl ge th st ws) := by
  have hl := mayE_len he
  have hr : 1 ≤ th ∧ th ≤ 8 ∧ 0 ≤ sl ∧ sl < c.slots := mayE_rng he
  have hsl := hf.slots
  have hsc := hf.c.2.1
  rw [hc] at hsl hsc
  exact ⟨⟨F, H, 0, hs, hj, hm, hjH, hlo⟩, hf, hu, hc, hn, ⟨by omega, by omega, hr.2.2.1, (by show sl < (n : Int); omega), hr.1, hr.2.1, hl.1, hl.2, by simp [Cm.new], by simp [Cm.new], by simp [Cm.new], by simp [Cm.new], by simp [Cm.new]⟩, h0, h1⟩
/-- One that was just made. -/
theorem CmRun.new (hs : SP w0 w z F S) (hj : JAt w jb c d) (hlo : w0.heap.size ≤ jb) (hf : Fit k S) (hu : S.wu) (hc : S.c = c) (hn : S.H.length = n) (h0 : 0 ≤ d) (h1 : d ≤ 64)
    {sl ge th st : Int} {ws : List Pr} (he : mayE c sl th st ws = 0) {H : List Nat} (hk : Keeps [] w w') (hm : CmN w0 w' z F jb cb H 0 (stgVal 0 .take) (Cm.new sl ge th st ws)) (hfr : ∀ q, q ∈ H → w.heap.size ≤ q) : CmRun w0 w' z jb cb n k S c d (Cm.new sl ge th st ws) :=
  CmRun.made (hs.calm hk) (Blk.keeps hj hk (by simp)) hlo hf hu hc hn h0 h1 he hm (fun hx => by
    have := hfr _ hx
    have := Blk.lt hj
    omega)
end
end Go.Proofs.YtdhgiohjdhcedaaGreat
