/- Layer 13: one commit over one space by one judge, beside blocks of the law's own. -/
import Derived.Test.YtcoekpomiljofaaGreatCmNew
import Derived.Test.YtcoekpomiljofaaGreatCmStep
import Derived.Test.YtcoekpomiljofaaGreatLocal
namespace Go.Proofs.YtcoekpomiljofaaGreat
open Go.RowKit Pol
set_option linter.unusedVariables false
set_option linter.unusedSimpArgs false
/-- A commit under way, k calls since the space was new. -/
structure CmRun (w0 w : World) (z : Sb) (jb cb : Nat) (n k : Nat) (S : Sp) (c : Cf) (d : Int) (x : Cm) : Prop where
  ex : ∃ F H dp, CmTrio w0 w z F H jb cb dp (stgVal dp x.st) S c d x
  fit : Fit k S
  wu : S.wu
  cc : S.c = c
  len : S.H.length = n
  ok : x.Ok n
  d0 : 0 ≤ d
  d1 : d ≤ 64
section
variable {w0 w w' : World} {z : Sb} {F : List Nat} {jb cb n k : Nat} {S : Sp} {c : Cf} {d : Int} {x : Cm}
theorem CmRun.calm (h : CmRun w0 w z jb cb n k S c d x) (hk : Keeps [] w w') : CmRun w0 w' z jb cb n k S c d x := by
  obtain ⟨F, H, dp, ht⟩ := h.ex
  exact ⟨⟨F, H, dp, ht.calm hk⟩, h.fit, h.wu, h.cc, h.len, h.ok, h.d0, h.d1⟩
theorem CmRun.sp (h : CmRun w0 w z jb cb n k S c d x) : ∃ F, SP w0 w z F S := by
  obtain ⟨F, H, dp, ht⟩ := h.ex
  exact ⟨F, ht.sp⟩
/-- A step. -/
theorem CmRun.step (h : CmRun w0 w z jb cb n k S c d x) (hk : k + 1 ≤ 1099511627776) :
    Calls Tryz.prog 22 #[PT cb] w fun e w' => e = .returned (.int .i64 (x.step S d).1) ∧ CmRun w0 w' z jb cb n (k + 1) (x.step S d).2.2.1 c (x.step S d).2.2.2 (x.step S d).2.1 := by
  obtain ⟨F, H, dp, ht⟩ := h.ex
  have hn := h.len
  have hi := x.step_is S d
  refine (cm_step ht h.fit hk h.cc h.wu h.d0 h.d1 (hn ▸ h.ok)).mono fun e w' ⟨he, dp', hw⟩ => ⟨he, ?_⟩
  obtain ⟨F', H', ht', _⟩ := WentC.trio ht hw
  have hr := Cm.step_rng (S := S) h.fit.c h.d0 h.d1 x
  exact ⟨⟨F', H', dp', ht'⟩, h.fit.cmstep x d, h.wu.same hi.2.1, hi.1.trans h.cc, hi.2.2.trans hn, h.ok.step hn h.wu h.fit.c, hr.1, hr.2⟩
theorem CmRun.done (h : CmRun w0 w z jb cb n k S c d x) : Calls Tryz.prog 18 #[PT cb] w fun e w' => e = .returned (.bool x.done) ∧ w = w' := by
  obtain ⟨F, H, dp, ht⟩ := h.ex
  exact cm_done ht.cm
theorem CmRun.end_ (h : CmRun w0 w z jb cb n k S c d x) : Calls Tryz.prog 24 #[PT cb] w fun e w' => e = .returned (.int .i64 x.end_) ∧ w = w' := by
  obtain ⟨F, H, dp, ht⟩ := h.ex
  exact cm_end ht.cm
theorem CmRun.won (h : CmRun w0 w z jb cb n k S c d x) : Calls Tryz.prog 32 #[PT cb] w fun e w' => e = .returned (.bool x.won) ∧ w = w' := by
  obtain ⟨F, H, dp, ht⟩ := h.ex
  exact cm_won ht.cm
theorem CmRun.number (h : CmRun w0 w z jb cb n k S c d x) : Calls Tryz.prog 23 #[PT cb] w fun e w' => e = .returned (.int .i64 x.number) ∧ w = w' := by
  obtain ⟨F, H, dp, ht⟩ := h.ex
  exact cm_number ht.cm
theorem CmRun.victims (h : CmRun w0 w z jb cb n k S c d x) : Calls Tryz.prog 33 #[PT cb] w fun e w' => ∃ v, e = .returned v ∧ w'.ownsRow 0 216 4 v x.victims.length (vcCells x.victims) ∧ Keeps [] w w' ∧ (∀ q, v.ownBlock = some q → w.heap.size ≤ q) := by
  obtain ⟨F, H, dp, ht⟩ := h.ex
  refine cm_victims ht.cm ?_
  unfold Cm.victims
  split
  · decide
  · rename_i l hl
    have := (h.ok.lk l hl).sum
    have := h.ok.n8
    omega
/-- One that was made. -/
theorem CmRun.made (hs : SP w0 w z F S) (hj : JAt w jb c d) (hlo : w0.heap.size ≤ jb) (hf : Fit k S) (hu : S.wu) (hc : S.c = c) (hn : S.H.length = n) (h0 : 0 ≤ d) (h1 : d ≤ 64)
    {sl ge th st : Int} {ws : List Pr} (he : mayE c sl th st ws = 0) {H : List Nat} (hm : CmN w0 w z F jb cb H 0 (stgVal 0 .take) (Cm.new sl ge th st ws)) (hjH : jb ∉ H) : CmRun w0 w z jb cb n k S c d (Cm.new sl ge th st ws) := by
  have hl := mayE_len he
  have hr : 1 ≤ th ∧ th ≤ 8 ∧ 0 ≤ sl ∧ sl < c.slots := mayE_rng he
  have hsl := hf.slots
  have hsc := hf.c.2.1
  rw [hc] at hsl hsc
  exact ⟨⟨F, H, 0, hs, hj, hm, hjH, hlo⟩, hf, hu, hc, hn, ⟨by omega, by omega, hr.2.2.1, (by show sl < (n : Int); omega), hr.1, hr.2.1, hl.1, hl.2, by simp [Cm.new], by simp [Cm.new], by simp [Cm.new], by simp [Cm.new], by simp [Cm.new]⟩, h0, h1⟩
/-- One that was just made. -/
theorem CmRun.new (hs : SP w0 w z F S) (hj : JAt w jb c d) (hlo : w0.heap.size ≤ jb) (hf : Fit k S) (hu : S.wu) (hc : S.c = c) (hn : S.H.length = n) (h0 : 0 ≤ d) (h1 : d ≤ 64)
    {sl ge th st : Int} {ws : List Pr} (he : mayE c sl th st ws = 0) {H : List Nat} (hk : Keeps [] w w') (hm : CmN w0 w' z F jb cb H 0 (stgVal 0 .take) (Cm.new sl ge th st ws)) (hfr : ∀ q, q ∈ H → w.heap.size ≤ q) : CmRun w0 w' z jb cb n k S c d (Cm.new sl ge th st ws) :=
  CmRun.made (hs.calm hk) (Blk.keeps hj hk (by simp)) hlo hf hu hc hn h0 h1 he hm (fun hx => by
    have := hfr _ hx
    have := Blk.lt hj
    omega)
end
end Go.Proofs.YtcoekpomiljofaaGreat

namespace Go.Proofs.YtcoekpomiljofaaGreat
open Go.RowKit Pol
set_option linter.unusedVariables false
set_option linter.unusedSimpArgs false
/-- What stays of some blocks. -/
def KeptX (X : List Nat) (w w' : World) : Prop := ∃ Y, Keeps Y w w' ∧ ∀ q, q ∈ X → q ∉ Y
theorem KeptX.calm {X : List Nat} {w w' : World} (h : Keeps [] w w') : KeptX X w w' := ⟨[], h, by simp⟩
theorem KeptX.own {X : List Nat} {w w' : World} {base n size : Nat} {t : TypeId} {v : Value} {xs : List Value} (hk : KeptX X w w') (h : w.ownsRow base t size v n xs) (hv : ∀ q, v.ownBlock = some q → q ∈ X) : w'.ownsRow base t size v n xs := by
  obtain ⟨Y, h1, h2⟩ := hk
  exact own_keeps h h1 (fun q hq => h2 q (hv q hq))
theorem KeptX.blk {X : List Nat} {w w' : World} {b : Nat} {t : TypeId} {cs : Array Value} (hk : KeptX X w w') (h : Blk w b t cs) (hb : b ∈ X) : Blk w' b t cs := by
  obtain ⟨Y, h1, h2⟩ := hk
  exact h.keeps h1 (h2 b hb)
theorem KeptX.size {X : List Nat} {w w' : World} (hk : KeptX X w w') : w.heap.size ≤ w'.heap.size := by
  obtain ⟨Y, h1, h2⟩ := hk
  exact h1.size
/-- Blocks beside. -/
def Off (w0 w : World) (X Y : List Nat) : Prop := ∀ q, q ∈ X → w0.heap.size ≤ q ∧ q < w.heap.size ∧ q ∉ Y ∧ ∀ t, tyOf w q = some t → t ∉ spFix
theorem Off.step {w0 w w' : World} {X Y Y' Z : List Nat} (h : Off w0 w X Y) (hk : Keeps Z w w') (hZ : ∀ q, q ∈ Z → q ∈ Y) (hY : ∀ q, q ∈ Y' → q ∈ Y ∨ w.heap.size ≤ q) : Off w0 w' X Y' := fun q hq => by
  obtain ⟨h1, h2, h3, h4⟩ := h q hq
  have hn : q ∉ Z := fun hx => h3 (hZ q hx)
  refine ⟨h1, by have := hk.size; omega, fun hx => ?_, fun t ht => ?_⟩
  · rcases hY q hx with hy | hy
    · exact h3 hy
    · omega
  · refine h4 t ?_
    have hb := hk.block q h2 hn
    unfold tyOf at ht ⊢
    rw [hb] at ht
    exact ht
structure CmS (w0 w : World) (z : Sb) (jb cb : Nat) (n k : Nat) (S : Sp) (c : Cf) (d : Int) (x : Cm) (X : List Nat) : Prop where
  ex : ∃ F H dp, CmTrio w0 w z F H jb cb dp (stgVal dp x.st) S c d x ∧ Off w0 w X (jb :: (H ++ F))
  fit : Fit k S
  wu : S.wu
  cc : S.c = c
  len : S.H.length = n
  ok : x.Ok n
  d0 : 0 ≤ d
  d1 : d ≤ 64
section
variable {w0 w w' : World} {z : Sb} {F H : List Nat} {jb cb n k : Nat} {S : Sp} {c : Cf} {d : Int} {x : Cm} {X : List Nat}
theorem CmS.run (h : CmS w0 w z jb cb n k S c d x X) : CmRun w0 w z jb cb n k S c d x := by
  obtain ⟨F, H, dp, ht, _⟩ := h.ex
  exact ⟨⟨F, H, dp, ht⟩, h.fit, h.wu, h.cc, h.len, h.ok, h.d0, h.d1⟩
theorem CmS.calm (h : CmS w0 w z jb cb n k S c d x X) (hk : Keeps [] w w') : CmS w0 w' z jb cb n k S c d x X := by
  obtain ⟨F, H, dp, ht, ho⟩ := h.ex
  exact ⟨⟨F, H, dp, ht.calm hk, ho.step hk (by simp) (fun q hq => .inl hq)⟩, h.fit, h.wu, h.cc, h.len, h.ok, h.d0, h.d1⟩
theorem CmS.keep (h : CmS w0 w z jb cb n k S c d x X) : Keeps [] w0 w := by
  obtain ⟨F, H, dp, ht, ho⟩ := h.ex
  exact ht.sp.keep
/-- A step. -/
theorem CmS.step (h : CmS w0 w z jb cb n k S c d x X) (hk : k + 1 ≤ 1099511627776) :
    Calls Tryz.prog 22 #[PT cb] w fun e w' => e = .returned (.int .i64 (x.step S d).1) ∧ CmS w0 w' z jb cb n (k + 1) (x.step S d).2.2.1 c (x.step S d).2.2.2 (x.step S d).2.1 X ∧ KeptX X w w' := by
  obtain ⟨F, H, dp, ht, ho⟩ := h.ex
  have hn := h.len
  have hi := x.step_is S d
  refine (cm_step ht h.fit hk h.cc h.wu h.d0 h.d1 (hn ▸ h.ok)).mono fun e w' ⟨he, dp', hw⟩ => ⟨he, ?_⟩
  obtain ⟨F', H', ht', hkk, hF, hH⟩ := WentC.trio ht hw
  have hr := Cm.step_rng (S := S) h.fit.c h.d0 h.d1 x
  have ho' : Off w0 w' X (jb :: (H' ++ F')) := ho.step hkk (fun q hq => hq) (fun q hq => by
    simp only [List.mem_cons, List.mem_append] at hq ⊢
    rcases hq with rfl | hq | hq
    · exact .inl (.inl rfl)
    · exact (hH q hq).imp (fun h => .inr (.inl h)) id
    · exact (hF q hq).imp (fun h => .inr (.inr h)) id)
  exact ⟨⟨⟨F', H', dp', ht', ho'⟩, h.fit.cmstep x d, h.wu.same hi.2.1, hi.1.trans h.cc, hi.2.2.trans hn, h.ok.step hn h.wu h.fit.c, hr.1, hr.2⟩, _, hkk, fun q hq => (ho q hq).2.2.1⟩
/-- A call of the space's. -/
theorem CmS.by_ (h : CmS w0 w z jb cb n k S c d x X) : ∃ F, SP w0 w z F S ∧ ∀ w' S', Went w0 w w' z F S' → Fit (k + 1) S' → S'.wu → S'.c = c → S'.H.length = n → CmS w0 w' z jb cb n (k + 1) S' c d x X ∧ KeptX X w w' := by
  obtain ⟨F, H, dp, ht, ho⟩ := h.ex
  refine ⟨F, ht.sp, fun w' S' hw hf hu hc hn => ?_⟩
  obtain ⟨F', ht', hk, hF⟩ := ht.call hw
  refine ⟨⟨⟨F', H, dp, ht', ho.step hk (fun q hq => by simp [hq]) (fun q hq => ?_)⟩, hf, hu, hc, hn, h.ok, h.d0, h.d1⟩, _, hk, fun q hq hx => (ho q hq).2.2.1 (by simp [hx])⟩
  simp only [List.mem_cons, List.mem_append] at hq ⊢
  rcases hq with rfl | hq | hq
  · exact .inl (.inl rfl)
  · exact .inl (.inr (.inl hq))
  · exact (hF q hq).imp (fun h => .inr (.inr h)) id
/-- A write to a block beside. -/
theorem CmS.away {Z : List Nat} (h : CmS w0 w z jb cb n k S c d x X) (hk : Keeps Z w w') (hZ : ∀ q, q ∈ Z → q ∈ X) (hT : ∀ q, q ∈ Z → tyOf w' q = tyOf w q) : CmS w0 w' z jb cb n k S c d x X := by
  obtain ⟨F, H, dp, ht, ho⟩ := h.ex
  have hn : ∀ q, q ∈ Z → q ∉ jb :: (H ++ F) := fun q hq => (ho q (hZ q hq)).2.2.1
  refine ⟨⟨F, H, dp, ⟨ht.sp.away hk (fun q hq => ⟨(ho q (hZ q hq)).1, fun hx => hn q hq (by simp [hx]), (ho q (hZ q hq)).2.2.2⟩), Blk.keeps ht.j hk (fun hx => hn _ hx (by simp)), ht.cm.keeps hk (fun q hq hx => hn q hx (by simp [hq])) (fun q hq => .inl hq), ht.jH, ht.jlow⟩, fun q hq => ?_⟩, h.fit, h.wu, h.cc, h.len, h.ok, h.d0, h.d1⟩
  obtain ⟨h1, h2, h3, h4⟩ := ho q hq
  refine ⟨h1, by have := hk.size; omega, h3, fun t e => h4 t ?_⟩
  by_cases hz : q ∈ Z
  · rw [← hT q hz]; exact e
  · have hb := hk.block q h2 hz
    unfold tyOf at e ⊢
    rw [hb] at e
    exact e
/-- A new block beside. -/
theorem CmS.add {b : Nat} {t : TypeId} (h : CmS w0 w z jb cb n k S c d x X) (hk : Keeps [] w w') (hb : w.heap.size ≤ b) (ht : tyOf w' b = some t) (hn : t ∉ spFix) : CmS w0 w' z jb cb n k S c d x (b :: X) := by
  have hz := h.keep.size
  obtain ⟨F, H, dp, hc, ho⟩ := h.ex
  have ho' := ho.step hk (by simp) (fun q hq => .inl hq)
  refine ⟨⟨F, H, dp, hc.calm hk, fun q hq => ?_⟩, h.fit, h.wu, h.cc, h.len, h.ok, h.d0, h.d1⟩
  rw [List.mem_cons] at hq
  rcases hq with rfl | hq
  · refine ⟨by omega, tyOf_lt ht, fun hx => ?_, fun t' e => by rw [ht] at e; injection e with e; exact e ▸ hn⟩
    simp only [List.mem_cons, List.mem_append] at hx
    rcases hx with rfl | hx | hx
    · have := Blk.lt hc.j; omega
    · have := hc.cm.lt _ hx; omega
    · have := hc.sp.lt _ hx; omega
  · exact ho' q hq
theorem CmS.sub {Y : List Nat} (h : CmS w0 w z jb cb n k S c d x X) (hY : ∀ q, q ∈ Y → q ∈ X) : CmS w0 w z jb cb n k S c d x Y := by
  obtain ⟨F, H, dp, ht, ho⟩ := h.ex
  exact ⟨⟨F, H, dp, ht, fun q hq => ho q (hY q hq)⟩, h.fit, h.wu, h.cc, h.len, h.ok, h.d0, h.d1⟩
/-- One that was just made. -/
theorem CmS.new (hs : SP w0 w z F S) (hj : JAt w jb c d) (hlo : w0.heap.size ≤ jb) (hf : Fit k S) (hu : S.wu) (hc : S.c = c) (hn : S.H.length = n) (h0 : 0 ≤ d) (h1 : d ≤ 64)
    {sl ge th st : Int} {ws : List Pr} (he : mayE c sl th st ws = 0) (hk : Keeps [] w w') (hm : CmN w0 w' z F jb cb H 0 (stgVal 0 .take) (Cm.new sl ge th st ws)) (hfr : ∀ q, q ∈ H → w.heap.size ≤ q) (ho : Off w0 w X (jb :: F)) : CmS w0 w' z jb cb n k S c d (Cm.new sl ge th st ws) X := by
  have hr := CmRun.new hs hj hlo hf hu hc hn h0 h1 he hk hm hfr
  have hjH : jb ∉ H := fun hx => by
    have := hfr _ hx
    have := Blk.lt hj
    omega
  exact ⟨⟨F, H, 0, ⟨hs.calm hk, Blk.keeps hj hk (by simp), hm, hjH, hlo⟩, ho.step hk (by simp) (fun q hq => by
    simp only [List.mem_cons, List.mem_append] at hq ⊢
    rcases hq with rfl | hq | hq
    · exact .inl (.inl rfl)
    · exact .inr (hfr q hq)
    · exact .inl (.inr hq))⟩, hr.fit, hr.wu, hr.cc, hr.len, hr.ok, hr.d0, hr.d1⟩
/-- The space is looked at. -/
theorem CmS.view (h : CmS w0 w z jb cb n k S c d x X) : Calls Tryz.prog 25 #[PT z.p] w fun e w' => ∃ a1 c1 a2 c2, e = .returned (.agg #[.slice (some ⟨a1, 0, none⟩) S.cells.length c1, .int .i64 S.gate.number, .int .i64 S.gate.owner, .slice (some ⟨a2, 0, none⟩) n c2]) ∧ OwnC w' a1 c1 S.cells ∧ OwnS w' a2 c2 n (slL S.H S.W) ∧ w.heap.size ≤ a1 ∧ w.heap.size ≤ a2 ∧ Keeps [] w w' := by
  obtain ⟨F, H, dp, ht, ho⟩ := h.ex
  have := sp_view ht.sp h.fit
  rw [h.len] at this
  exact this
end
end Go.Proofs.YtcoekpomiljofaaGreat
