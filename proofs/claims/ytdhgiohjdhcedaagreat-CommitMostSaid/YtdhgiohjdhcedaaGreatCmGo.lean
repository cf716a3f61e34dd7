/- Layer 13: a commit's look and its dooming, beside the rest of it. -/
import Derived.Test.YtdhgiohjdhcedaaGreatCmAt
namespace Go.Proofs.YtdhgiohjdhcedaaGreat
open Go.RowKit Pol
set_option linter.unusedVariables false
set_option linter.unusedSimpArgs false
section
variable {w0 w w' w'' : World} {z : Sb} {F F' G G' H H' X : List Nat} {S S' : Sp} {k b jb cb dp dp' : Nat} {x x' : Cm} {lp : Option Nat} {nv nv' wv : Value} {c : Cf} {d d' : Int}
theorem Cm.doomed_is (x : Cm) (y : Dm) : x.doomed y = ({ x with dm := some y } : Cm).at_ (if y.left = [] then .write 0 else .doom) := rfl
/-- The look of a commit goes on. -/
theorem CmTrio.look (h : CmTrio w0 w z F H jb cb dp nv S c d x) {l : Lk} (hl : x.lk = some l) : ∃ b G, w.cell? ⟨cb, 9, none⟩ = some (PT b) ∧ LK w0 w z F b G l ∧ (∀ q, q ∈ G → q ∈ H) ∧
    ∀ w' S' l', WentL w0 w w' z F G b S' l' → WentC w0 w w' z F H jb cb dp nv S' c d { x with lk := some l' } := by
  obtain ⟨hs, hj, ⟨⟨wv, lp, Gl, Gd, h1, h2, h3, h4, rfl, h6, h7⟩, hlow, hoff, hty⟩, hjH, hjl⟩ := id h
  rw [hl] at h3
  obtain ⟨b, rfl, h3⟩ := h3
  refine ⟨b, Gl, (h1.cell 9).trans rfl, h3, fun q hq => by simp [hq], fun w' S' l' hW => ?_⟩
  obtain ⟨F', G', a1, a2, a3, a4, a5⟩ := hW
  have hnew : ∀ q, q ∈ cb :: (vblk wv ++ Gd) → q ∉ Gl ++ F ∧ q ∉ G' := fun q hq => by
    have hqH : q ∈ cb :: (vblk wv ++ (Gl ++ Gd)) := by
      simp only [List.mem_cons, List.mem_append] at hq ⊢
      rcases hq with e | e | e
      · exact .inl e
      · exact .inr (.inl e)
      · exact .inr (.inr (.inr e))
    have hgl : q ∉ Gl := fun hg => by
      simp only [List.mem_cons, List.mem_append] at hq
      rcases hq with e | e | e
      · exact h6 q (by simp [e]) (by simp [hg])
      · exact h6 q (by simp [e]) (by simp [hg])
      · exact h7 q hg e
    refine ⟨fun hx => (List.mem_append.1 hx).elim hgl (hoff q hqH), fun hx => ?_⟩
    rcases a5 q hx with hg | hg
    · exact hgl hg
    · obtain ⟨t, ht, _⟩ := hty q hqH
      have := tyOf_lt ht
      omega
  have ha := a2.apt
  have hk' : Keeps (jb :: ((cb :: (vblk wv ++ (Gl ++ Gd))) ++ F)) w w' := a3.mono (fun q hq => by
    simp only [List.mem_append] at hq
    rcases hq with e | e
    · exact .inl (by simp [e])
    · exact .inl (by simp [e]))
  have hjn : jb ∉ Gl ++ F := fun hx => (List.mem_append.1 hx).elim (fun e => hjH (by simp [e])) h.jF
  refine ⟨F', cb :: (vblk wv ++ (G' ++ Gd)), a1, Blk.keeps hj a3 hjn, ⟨⟨wv, some b, G', Gd, h1.keeps a3 (hnew cb (by simp)).1, own_keeps h2 a3 (fun q hq => (hnew q (by simp [vblk, hq])).1), ⟨b, rfl, a2⟩, h4.keeps a3 (fun q hq => (hnew q (by simp [hq])).1) a4, rfl, fun q hq hx => ?_, fun q hq hx => (hnew q (by simp [hx])).2 hq⟩, fun q hq => ?_, fun q hq hf => ?_, fun q hq => ?_⟩, hk', a4, fun q hq => ?_⟩
  · rcases List.mem_append.1 hx with e | e
    · exact (hnew q (by simp only [List.mem_cons, List.mem_append] at hq ⊢; rcases hq with e | e; exact .inl e; exact .inr (.inl e))).2 e
    · exact h6 q hq (by simp [e])
  · simp only [List.mem_cons, List.mem_append] at hq
    rcases hq with e | e | e | e
    · exact hlow q (by simp [e])
    · exact hlow q (by simp [e])
    · exact ha.low q e
    · exact hlow q (by simp [e])
  · have hold : q ∈ cb :: (vblk wv ++ (Gl ++ Gd)) → q ∉ F' := fun hq hf => by
      rcases a4 q hf with e | e
      · exact hoff q hq e
      · obtain ⟨t, ht, _⟩ := hty q hq
        have := tyOf_lt ht
        omega
    simp only [List.mem_cons, List.mem_append] at hq
    rcases hq with e | e | e | e
    · exact hold (by simp [e]) hf
    · exact hold (by simp [e]) hf
    · exact ha.off q e hf
    · exact hold (by simp [e]) hf
  · have hold : q ∈ cb :: (vblk wv ++ Gd) → ∃ t, tyOf w' q = some t ∧ t ∉ spFix := fun hq => by
      obtain ⟨t, ht, hn⟩ := hty q (by simp only [List.mem_cons, List.mem_append] at hq ⊢; rcases hq with e | e | e; exact .inl e; exact .inr (.inl e); exact .inr (.inr (.inr e)))
      exact ⟨t, tyOf_keeps ht a3 (hnew q hq).1, hn⟩
    simp only [List.mem_cons, List.mem_append] at hq
    rcases hq with e | e | e | e
    · exact hold (by simp [e])
    · exact hold (by simp [e])
    · exact ha.ty q e
    · exact hold (by simp [e])
  · simp only [List.mem_cons, List.mem_append] at hq
    rcases hq with e | e | e | e
    · exact .inl (by simp [e])
    · exact .inl (by simp [e])
    · exact (a5 q e).imp (fun e => by simp [e]) id
    · exact .inl (by simp [e])
/-- Its dooming goes on. -/
theorem CmTrio.dm (h : CmTrio w0 w z F H jb cb dp nv S c d x) {y : Dm} (hy : x.dm = some y) : ∃ G, DM w0 w z F dp G y ∧ (∀ q, q ∈ G → q ∈ H) ∧
    ∀ w' S' y', WentD w0 w w' z F G dp S' y' → WentC w0 w w' z F H jb cb dp nv S' c d { x with dm := some y' } := by
  obtain ⟨hs, hj, ⟨⟨wv, lp, Gl, Gd, h1, h2, h3, h4, rfl, h6, h7⟩, hlow, hoff, hty⟩, hjH, hjl⟩ := id h
  rw [hy] at h4
  refine ⟨Gd, h4, fun q hq => by simp [hq], fun w' S' y' hW => ?_⟩
  obtain ⟨F', G', a1, a2, a3, a4, a5⟩ := hW
  have hnew : ∀ q, q ∈ cb :: (vblk wv ++ Gl) → q ∉ Gd ++ F ∧ q ∉ G' := fun q hq => by
    have hqH : q ∈ cb :: (vblk wv ++ (Gl ++ Gd)) := by
      simp only [List.mem_cons, List.mem_append] at hq ⊢
      rcases hq with e | e | e
      · exact .inl e
      · exact .inr (.inl e)
      · exact .inr (.inr (.inl e))
    have hgl : q ∉ Gd := fun hg => by
      simp only [List.mem_cons, List.mem_append] at hq
      rcases hq with e | e | e
      · exact h6 q (by simp [e]) (by simp [hg])
      · exact h6 q (by simp [e]) (by simp [hg])
      · exact h7 q e hg
    refine ⟨fun hx => (List.mem_append.1 hx).elim hgl (hoff q hqH), fun hx => ?_⟩
    rcases a5 q hx with hg | hg
    · exact hgl hg
    · obtain ⟨t, ht, _⟩ := hty q hqH
      have := tyOf_lt ht
      omega
  have ha := a2.apt
  have hk' : Keeps (jb :: ((cb :: (vblk wv ++ (Gl ++ Gd))) ++ F)) w w' := a3.mono (fun q hq => by
    simp only [List.mem_append] at hq
    rcases hq with e | e
    · exact .inl (by simp [e])
    · exact .inl (by simp [e]))
  have hjn : jb ∉ Gd ++ F := fun hx => (List.mem_append.1 hx).elim (fun e => hjH (by simp [e])) h.jF
  refine ⟨F', cb :: (vblk wv ++ (Gl ++ G')), a1, Blk.keeps hj a3 hjn, ⟨⟨wv, lp, Gl, G', h1.keeps a3 (hnew cb (by simp)).1, own_keeps h2 a3 (fun q hq => (hnew q (by simp [vblk, hq])).1), h3.keeps a3 (fun q hq => (hnew q (by simp [hq])).1) a4, a2, rfl, fun q hq hx => ?_, fun q hq hx => (hnew q (by simp [hq])).2 hx⟩, fun q hq => ?_, fun q hq hf => ?_, fun q hq => ?_⟩, hk', a4, fun q hq => ?_⟩
  · rcases List.mem_append.1 hx with e | e
    · exact h6 q hq (by simp [e])
    · exact (hnew q (by simp only [List.mem_cons, List.mem_append] at hq ⊢; rcases hq with e | e; exact .inl e; exact .inr (.inl e))).2 e
  · simp only [List.mem_cons, List.mem_append] at hq
    rcases hq with e | e | e | e
    · exact hlow q (by simp [e])
    · exact hlow q (by simp [e])
    · exact hlow q (by simp [e])
    · exact ha.low q e
  · have hold : q ∈ cb :: (vblk wv ++ (Gl ++ Gd)) → q ∉ F' := fun hq hf => by
      rcases a4 q hf with e | e
      · exact hoff q hq e
      · obtain ⟨t, ht, _⟩ := hty q hq
        have := tyOf_lt ht
        omega
    simp only [List.mem_cons, List.mem_append] at hq
    rcases hq with e | e | e | e
    · exact hold (by simp [e]) hf
    · exact hold (by simp [e]) hf
    · exact hold (by simp [e]) hf
    · exact ha.off q e hf
  · have hold : q ∈ cb :: (vblk wv ++ Gl) → ∃ t, tyOf w' q = some t ∧ t ∉ spFix := fun hq => by
      obtain ⟨t, ht, hn⟩ := hty q (by simp only [List.mem_cons, List.mem_append] at hq ⊢; rcases hq with e | e | e; exact .inl e; exact .inr (.inl e); exact .inr (.inr (.inl e)))
      exact ⟨t, tyOf_keeps ht a3 (hnew q hq).1, hn⟩
    simp only [List.mem_cons, List.mem_append] at hq
    rcases hq with e | e | e | e
    · exact hold (by simp [e])
    · exact hold (by simp [e])
    · exact hold (by simp [e])
    · exact ha.ty q e
  · simp only [List.mem_cons, List.mem_append] at hq
    rcases hq with e | e | e | e
    · exact .inl (by simp [e])
    · exact .inl (by simp [e])
    · exact .inl (by simp [e])
    · exact (a5 q e).imp (fun e => by simp [e]) id
/-- A dooming is made. -/
theorem CmTrio.newDoom (h : CmTrio w0 w z F H jb cb dp nv S c d x) {y : Dm} {b : Nat} (hd : DM w0 w' z F b G y) (hG : ∀ q, q ∈ G → w.heap.size ≤ q) (hk : Keeps [] w w') : WentC w0 w w' z F H jb cb b nv S c d { x with dm := some y } := by
  have ha := hd.apt
  obtain ⟨hs, hj, ⟨⟨wv, lp, Gl, Gd, h1, h2, h3, h4, rfl, h6, h7⟩, hlow, hoff, hty⟩, hjH, hjl⟩ := id (h.calm hk)
  have hlt := h.cm.lt
  refine ⟨F, cb :: (vblk wv ++ (Gl ++ G)), hs, hj, ⟨⟨wv, lp, Gl, G, h1, h2, h3, hd, rfl, fun q hq hx => ?_, fun q hq hx => ?_⟩, fun q hq => ?_, fun q hq hf => ?_, fun q hq => ?_⟩, hk.mono (by simp), fun q hq => .inl hq, fun q hq => ?_⟩
  · rcases List.mem_append.1 hx with e | e
    · exact h6 q hq (by simp [e])
    · have a := hG q e
      have b := hlt q (by simp only [List.mem_cons, List.mem_append] at hq ⊢; rcases hq with e | e; exact .inl e; exact .inr (.inl e))
      omega
  · have a := hG q hx
    have b := hlt q (by simp [hq])
    omega
  · simp only [List.mem_cons, List.mem_append] at hq
    rcases hq with e | e | e | e
    · exact hlow q (by simp [e])
    · exact hlow q (by simp [e])
    · exact hlow q (by simp [e])
    · exact ha.low q e
  · simp only [List.mem_cons, List.mem_append] at hq
    rcases hq with e | e | e | e
    · exact hoff q (by simp [e]) hf
    · exact hoff q (by simp [e]) hf
    · exact hoff q (by simp [e]) hf
    · exact ha.off q e hf
  · simp only [List.mem_cons, List.mem_append] at hq
    rcases hq with e | e | e | e
    · exact hty q (by simp [e])
    · exact hty q (by simp [e])
    · exact hty q (by simp [e])
    · exact ha.ty q e
  · simp only [List.mem_cons, List.mem_append] at hq
    rcases hq with e | e | e | e
    · exact .inl (by simp [e])
    · exact .inl (by simp [e])
    · exact .inl (by simp [e])
    · exact .inr (hG q e)
/-- A look is made, and laid into the commit. -/
theorem CmTrio.newLook (h : CmTrio w0 w z F H jb cb dp nv S c d x) {l : Lk} {b : Nat} (hl : LK w0 w' z F b G l) (hG : ∀ q, q ∈ G → w.heap.size ≤ q) (hk : Keeps [] w w') : WentC w0 w (w'.setCell ⟨cb, 9, none⟩ (PT b)) z F H jb cb dp nv S c d { x with lk := some l } := by
  have hlt := h.cm.lt
  have hc := h.cm.inH
  have ha := hl.apt
  have hkw : Keeps [cb] w' (w'.setCell ⟨cb, 9, none⟩ (PT b)) := (Keeps.refl [cb] w').setCell (.inl (by simp)) _
  have hcG : ∀ q, q ∈ G → q ∉ [cb] := fun q hq hx => by
    simp only [List.mem_singleton] at hx
    subst hx
    have a := hG q hq
    have b := hlt q hc
    omega
  have hl2 := hl.keeps hkw hcG (fun q hq => .inl hq)
  have ha2 := hl2.apt
  have hs := (h.sp.calm hk).apt (h.cm.calm hk).apt hkw (fun q hq => by simp at hq; subst hq; exact hc)
  have hjc : jb ∉ [cb] := fun hx => by
    simp only [List.mem_singleton] at hx
    subst hx
    exact h.jH hc
  obtain ⟨_, hj, ⟨⟨wv, lp, Gl, Gd, h1, h2, h3, h4, rfl, h6, h7⟩, hlow, hoff, hty⟩, hjH, hjl⟩ := id (h.calm hk)
  have hw : ∀ q, q ∈ vblk wv → q ∉ [cb] := fun q hq hx => by
    simp only [List.mem_singleton] at hx
    subst hx
    have a := own_tyOf h2 (by simpa [vblk] using hq)
    rw [h1.tyOf] at a
    injection a with a
    exact absurd a (by decide)
  have hd : ∀ q, q ∈ Gd → q ∉ [cb] := fun q hq hx => by
    simp only [List.mem_singleton] at hx
    subst hx
    exact h6 q (by simp) (by simp [hq])
  have hb9 : Blk (w'.setCell ⟨cb, 9, none⟩ (PT b)) cb 210 (cmVals z jb wv nv (some b) { x with lk := some l }) := h1.set_ 9 (PT b)
  refine ⟨F, cb :: (vblk wv ++ (G ++ Gd)), hs, Blk.keeps hj hkw hjc, ⟨⟨wv, some b, G, Gd, hb9, own_keeps h2 hkw (fun q hq => hw q (by simpa [vblk] using hq)), ⟨b, rfl, hl2⟩, h4.keeps hkw hd (fun q hq => .inl hq), rfl, fun q hq hx => ?_, fun q hq hx => ?_⟩, fun q hq => ?_, fun q hq hf => ?_, fun q hq => ?_⟩, (hk.mono (by simp)).trans hkw (fun q hq => .inl (by simp at hq; simp [hq])), fun q hq => .inl hq, fun q hq => ?_⟩
  · rcases List.mem_append.1 hx with e | e
    · have a := hG q e
      have b := hlt q (by simp only [List.mem_cons, List.mem_append] at hq ⊢; rcases hq with e | e; exact .inl e; exact .inr (.inl e))
      omega
    · exact h6 q hq (by simp [e])
  · have a := hG q hq
    have b := hlt q (by simp [hx])
    omega
  · simp only [List.mem_cons, List.mem_append] at hq
    rcases hq with e | e | e | e
    · exact hlow q (by simp [e])
    · exact hlow q (by simp [e])
    · exact ha.low q e
    · exact hlow q (by simp [e])
  · simp only [List.mem_cons, List.mem_append] at hq
    rcases hq with e | e | e | e
    · exact hoff q (by simp [e]) hf
    · exact hoff q (by simp [e]) hf
    · exact ha.off q e hf
    · exact hoff q (by simp [e]) hf
  · have hold : ∀ q, q ∉ [cb] → q ∈ cb :: (vblk wv ++ (Gl ++ Gd)) → ∃ t, tyOf (w'.setCell ⟨cb, 9, none⟩ (PT b)) q = some t ∧ t ∉ spFix := fun q h1 h2 => by
      obtain ⟨t, ht, hn⟩ := hty q h2
      exact ⟨t, tyOf_keeps ht hkw h1, hn⟩
    simp only [List.mem_cons, List.mem_append] at hq
    rcases hq with e | e | e | e
    · subst e
      exact ⟨_, hb9.tyOf, by decide⟩
    · exact hold q (hw q e) (by simp [e])
    · exact ha2.ty q e
    · exact hold q (hd q e) (by simp [e])
  · simp only [List.mem_cons, List.mem_append] at hq
    rcases hq with e | e | e | e
    · exact .inl (by simp [e])
    · exact .inl (by simp [e])
    · exact .inr (hG q e)
    · exact .inl (by simp [e])
/-- The judge has decided. -/
theorem CmTrio.judge (h : CmTrio w0 w z F H jb cb dp nv S c d x) (hj : JAt w' jb c d') (hk : Keeps [jb] w w') : CmTrio w0 w' z F H jb cb dp nv S c d' x :=
  ⟨h.sp.away hk (fun q hq => by
    simp only [List.mem_singleton] at hq
    subst hq
    exact ⟨h.jlow, h.jF, fun t ht => by rw [Blk.tyOf h.j] at ht; injection ht with ht; subst ht; decide⟩), hj, h.cm.keeps hk (fun q hq hx => by simp only [List.mem_singleton] at hx; subst hx; exact h.jH hq) (fun q hq => .inl hq), h.jH, h.jlow⟩
theorem CmTrio.row (h : CmTrio w0 w z F H jb cb dp nv S c d x) (hk : Keeps [jb] w w') {v : Value} {n : Nat} {xs : List Value} (ho : w.ownsRow 0 73 4 v n xs) : w'.ownsRow 0 73 4 v n xs :=
  own_keeps ho hk (fun q hq hx => by
    simp only [List.mem_singleton] at hx
    subst hx
    have a := own_tyOf ho hq
    rw [Blk.tyOf h.j] at a
    injection a with a
    exact absurd a (by decide))
theorem WentC.pre {w1 : World} (hk : Keeps [] w w1) (h : WentC w0 w1 w' z F H jb cb dp nv S' c d' x') : WentC w0 w w' z F H jb cb dp nv S' c d' x' := WentC.trans (hk.mono (by simp)) (fun q hq => .inl hq) (fun q hq => .inl hq) h
end
end Go.Proofs.YtdhgiohjdhcedaaGreat
