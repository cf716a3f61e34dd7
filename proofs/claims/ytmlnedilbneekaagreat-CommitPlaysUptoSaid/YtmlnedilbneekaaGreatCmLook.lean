/- Layer 13: a commit looks, and what follows. -/
import Derived.Test.YtmlnedilbneekaaGreatCmAt
import Derived.Test.YtmlnedilbneekaaGreatCmWrite
import Derived.Test.YtmlnedilbneekaaGreatLookE
import Derived.Test.YtmlnedilbneekaaGreatLookM
import Derived.Test.YtmlnedilbneekaaGreatMake
set_option linter.unusedVariables false
set_option linter.unusedSimpArgs false
namespace Go.Proofs.YtmlnedilbneekaaGreat
open Go.RowKit Pol
section
variable {w0 w w' w'' : World} {z : Sb} {F F' G G' H H' X : List Nat} {S S' : Sp} {k b jb cb dp dp' : Nat} {x x' : Cm} {lp : Option Nat} {nv nv' wv : Value} {c : Cf} {d d' : Int}
theorem Cm.doomed_is (x : Cm) (y : Dm) : x.doomed y = ({ x with dm := some y } : Cm).at_ (if y.left = [] then .write 0 else .doom) := rfl
theorem CmTrio.look (h : CmTrio w0 w z F H jb cb dp nv S c d x) {l : Lk} (hl : x.lk = some l) : ∃ b G,w.cell? ⟨cb,9,none⟩ = some (PT b) ∧ LK w0 w z F b G l ∧ (∀ q,q ∈ G → q ∈ H) ∧
 ∀ w' S' l',WentL w0 w w' z F G b S' l' → WentC w0 w w' z F H jb cb dp nv S' c d { x with lk := some l' } := by
 obtain ⟨hs,hj,⟨⟨wv,lp,Gl,Gd,h1,h2,h3,h4,rfl,h6,h7⟩,hlow,hoff,hty⟩,hjH,hjl⟩ := id h
 rw [hl] at h3
 obtain ⟨b,rfl,h3⟩ := h3
 refine ⟨b,Gl,(h1.cell 9).trans rfl,h3,fun q hq => by simp [hq],fun w' S' l' hW => ?_⟩
 obtain ⟨F',G',a1,a2,a3,a4,a5⟩ := hW
 have hnew : ∀ q,q ∈ cb :: (vblk wv ++ Gd) → q ∉ Gl ++ F ∧ q ∉ G' := fun q hq => by
  have hqH : q ∈ cb :: (vblk wv ++ (Gl ++ Gd)) := by
   simp only [List.mem_cons,List.mem_append] at hq ⊢
   rcases hq with e | e | e
   · exact .inl e
   · exact .inr (.inl e)
   · exact .inr (.inr (.inr e))
  have hgl : q ∉ Gl := fun hg => by
   simp only [List.mem_cons,List.mem_append] at hq
   rcases hq with e | e | e
   · exact h6 q (by simp [e]) (by simp [hg])
   · exact h6 q (by simp [e]) (by simp [hg])
   · exact h7 q hg e
  refine ⟨fun hx => (List.mem_append.1 hx).elim hgl (hoff q hqH),fun hx => ?_⟩
  rcases a5 q hx with hg | hg
  · exact hgl hg
  · obtain ⟨t,ht,_⟩ := hty q hqH
    have := tyOf_lt ht
    omega
 have ha := a2.apt
 have hk' : Keeps (jb :: ((cb :: (vblk wv ++ (Gl ++ Gd))) ++ F)) w w' := a3.mono (fun q hq => by
  simp only [List.mem_append] at hq
  rcases hq with e | e
  · exact .inl (by simp [e])
  · exact .inl (by simp [e]))
 have hjn : jb ∉ Gl ++ F := fun hx => (List.mem_append.1 hx).elim (fun e => hjH (by simp [e])) h.jF
 refine ⟨F',cb :: (vblk wv ++ (G' ++ Gd)),a1,Blk.keeps hj a3 hjn,⟨⟨wv,some b,G',Gd,h1.keeps a3 (hnew cb (by simp)).1,own_keeps h2 a3 (fun q hq => (hnew q (by simp [vblk,hq])).1),⟨b,rfl,a2⟩,h4.keeps a3 (fun q hq => (hnew q (by simp [hq])).1) a4,rfl,fun q hq hx => ?_,fun q hq hx => (hnew q (by simp [hx])).2 hq⟩,fun q hq => ?_,fun q hq hf => ?_,fun q hq => ?_⟩,hk',a4,fun q hq => ?_⟩
 · rcases List.mem_append.1 hx with e | e
   · exact (hnew q (by simp only [List.mem_cons,List.mem_append] at hq ⊢; rcases hq with e | e; exact .inl e; exact .inr (.inl e))).2 e
   · exact h6 q hq (by simp [e])
 · simp only [List.mem_cons,List.mem_append] at hq
   rcases hq with e | e | e | e
   · exact hlow q (by simp [e])
   · exact hlow q (by simp [e])
   · exact ha.low q e
   · exact hlow q (by simp [e])
 ·
  have hold : q ∈ cb :: (vblk wv ++ (Gl ++ Gd)) → q ∉ F' := fun hq hf => by
   rcases a4 q hf with e | e
   · exact hoff q hq e
   · obtain ⟨t,ht,_⟩ := hty q hq
     have := tyOf_lt ht
     omega
  simp only [List.mem_cons,List.mem_append] at hq
  rcases hq with e | e | e | e
  · exact hold (by simp [e]) hf
  · exact hold (by simp [e]) hf
  · exact ha.off q e hf
  · exact hold (by simp [e]) hf
 ·
  have hold : q ∈ cb :: (vblk wv ++ Gd) → ∃ t,tyOf w' q = some t ∧ t ∉ spFix := fun hq => by
   obtain ⟨t,ht,hn⟩ := hty q (by simp only [List.mem_cons,List.mem_append] at hq ⊢; rcases hq with e | e | e; exact .inl e; exact .inr (.inl e); exact .inr (.inr (.inr e)))
   exact ⟨t,tyOf_keeps ht a3 (hnew q hq).1,hn⟩
  simp only [List.mem_cons,List.mem_append] at hq
  rcases hq with e | e | e | e
  · exact hold (by simp [e])
  · exact hold (by simp [e])
  · exact ha.ty q e
  · exact hold (by simp [e])
 · simp only [List.mem_cons,List.mem_append] at hq
   rcases hq with e | e | e | e
   · exact .inl (by simp [e])
   · exact .inl (by simp [e])
   · exact (a5 q e).imp (fun e => by simp [e]) id
   · exact .inl (by simp [e])
theorem CmTrio.dm (h : CmTrio w0 w z F H jb cb dp nv S c d x) {y : Dm} (hy : x.dm = some y) : ∃ G,DM w0 w z F dp G y ∧ (∀ q,q ∈ G → q ∈ H) ∧
 ∀ w' S' y',WentD w0 w w' z F G dp S' y' → WentC w0 w w' z F H jb cb dp nv S' c d { x with dm := some y' } := by
 obtain ⟨hs,hj,⟨⟨wv,lp,Gl,Gd,h1,h2,h3,h4,rfl,h6,h7⟩,hlow,hoff,hty⟩,hjH,hjl⟩ := id h
 rw [hy] at h4
 refine ⟨Gd,h4,fun q hq => by simp [hq],fun w' S' y' hW => ?_⟩
 obtain ⟨F',G',a1,a2,a3,a4,a5⟩ := hW
 have hnew : ∀ q,q ∈ cb :: (vblk wv ++ Gl) → q ∉ Gd ++ F ∧ q ∉ G' := fun q hq => by
  have hqH : q ∈ cb :: (vblk wv ++ (Gl ++ Gd)) := by
   simp only [List.mem_cons,List.mem_append] at hq ⊢
   rcases hq with e | e | e
   · exact .inl e
   · exact .inr (.inl e)
   · exact .inr (.inr (.inl e))
  have hgl : q ∉ Gd := fun hg => by
   simp only [List.mem_cons,List.mem_append] at hq
   rcases hq with e | e | e
   · exact h6 q (by simp [e]) (by simp [hg])
   · exact h6 q (by simp [e]) (by simp [hg])
   · exact h7 q e hg
  refine ⟨fun hx => (List.mem_append.1 hx).elim hgl (hoff q hqH),fun hx => ?_⟩
  rcases a5 q hx with hg | hg
  · exact hgl hg
  · obtain ⟨t,ht,_⟩ := hty q hqH
    have := tyOf_lt ht
    omega
 have ha := a2.apt
 have hk' : Keeps (jb :: ((cb :: (vblk wv ++ (Gl ++ Gd))) ++ F)) w w' := a3.mono (fun q hq => by
  simp only [List.mem_append] at hq
  rcases hq with e | e
  · exact .inl (by simp [e])
  · exact .inl (by simp [e]))
 have hjn : jb ∉ Gd ++ F := fun hx => (List.mem_append.1 hx).elim (fun e => hjH (by simp [e])) h.jF
 refine ⟨F',cb :: (vblk wv ++ (Gl ++ G')),a1,Blk.keeps hj a3 hjn,⟨⟨wv,lp,Gl,G',h1.keeps a3 (hnew cb (by simp)).1,own_keeps h2 a3 (fun q hq => (hnew q (by simp [vblk,hq])).1),h3.keeps a3 (fun q hq => (hnew q (by simp [hq])).1) a4,a2,rfl,fun q hq hx => ?_,fun q hq hx => (hnew q (by simp [hq])).2 hx⟩,fun q hq => ?_,fun q hq hf => ?_,fun q hq => ?_⟩,hk',a4,fun q hq => ?_⟩
 · rcases List.mem_append.1 hx with e | e
   · exact h6 q hq (by simp [e])
   · exact (hnew q (by simp only [List.mem_cons,List.mem_append] at hq ⊢; rcases hq with e | e; exact .inl e; exact .inr (.inl e))).2 e
 · simp only [List.mem_cons,List.mem_append] at hq
   rcases hq with e | e | e | e
   · exact hlow q (by simp [e])
   · exact hlow q (by simp [e])
   · exact hlow q (by simp [e])
   · exact ha.low q e
 ·
  have hold : q ∈ cb :: (vblk wv ++ (Gl ++ Gd)) → q ∉ F' := fun hq hf => by
   rcases a4 q hf with e | e
   · exact hoff q hq e
   · obtain ⟨t,ht,_⟩ := hty q hq
     have := tyOf_lt ht
     omega
  simp only [List.mem_cons,List.mem_append] at hq
  rcases hq with e | e | e | e
  · exact hold (by simp [e]) hf
  · exact hold (by simp [e]) hf
  · exact hold (by simp [e]) hf
  · exact ha.off q e hf
 ·
  have hold : q ∈ cb :: (vblk wv ++ Gl) → ∃ t,tyOf w' q = some t ∧ t ∉ spFix := fun hq => by
   obtain ⟨t,ht,hn⟩ := hty q (by simp only [List.mem_cons,List.mem_append] at hq ⊢; rcases hq with e | e | e; exact .inl e; exact .inr (.inl e); exact .inr (.inr (.inl e)))
   exact ⟨t,tyOf_keeps ht a3 (hnew q hq).1,hn⟩
  simp only [List.mem_cons,List.mem_append] at hq
  rcases hq with e | e | e | e
  · exact hold (by simp [e])
  · exact hold (by simp [e])
  · exact hold (by simp [e])
  · exact ha.ty q e
 · simp only [List.mem_cons,List.mem_append] at hq
   rcases hq with e | e | e | e
   · exact .inl (by simp [e])
   · exact .inl (by simp [e])
   · exact .inl (by simp [e])
   · exact (a5 q e).imp (fun e => by simp [e]) id
theorem CmTrio.newDoom (h : CmTrio w0 w z F H jb cb dp nv S c d x) {y : Dm} {b : Nat} (hd : DM w0 w' z F b G y) (hG : ∀ q,q ∈ G → w.heap.size ≤ q) (hk : Keeps [] w w') : WentC w0 w w' z F H jb cb b nv S c d { x with dm := some y } := by
 have ha := hd.apt
 obtain ⟨hs,hj,⟨⟨wv,lp,Gl,Gd,h1,h2,h3,h4,rfl,h6,h7⟩,hlow,hoff,hty⟩,hjH,hjl⟩ := id (h.calm hk)
 have hlt := h.cm.lt
 refine ⟨F,cb :: (vblk wv ++ (Gl ++ G)),hs,hj,⟨⟨wv,lp,Gl,G,h1,h2,h3,hd,rfl,fun q hq hx => ?_,fun q hq hx => ?_⟩,fun q hq => ?_,fun q hq hf => ?_,fun q hq => ?_⟩,hk.mono (by simp),fun q hq => .inl hq,fun q hq => ?_⟩
 · rcases List.mem_append.1 hx with e | e
   · exact h6 q hq (by simp [e])
   · have a := hG q e
     have b := hlt q (by simp only [List.mem_cons,List.mem_append] at hq ⊢; rcases hq with e | e; exact .inl e; exact .inr (.inl e))
     omega
 · have a := hG q hx
   have b := hlt q (by simp [hq])
   omega
 · simp only [List.mem_cons,List.mem_append] at hq
   rcases hq with e | e | e | e
   · exact hlow q (by simp [e])
   · exact hlow q (by simp [e])
   · exact hlow q (by simp [e])
   · exact ha.low q e
 · simp only [List.mem_cons,List.mem_append] at hq
   rcases hq with e | e | e | e
   · exact hoff q (by simp [e]) hf
   · exact hoff q (by simp [e]) hf
   · exact hoff q (by simp [e]) hf
   · exact ha.off q e hf
 · simp only [List.mem_cons,List.mem_append] at hq
   rcases hq with e | e | e | e
   · exact hty q (by simp [e])
   · exact hty q (by simp [e])
   · exact hty q (by simp [e])
   · exact ha.ty q e
 · simp only [List.mem_cons,List.mem_append] at hq
   rcases hq with e | e | e | e
   · exact .inl (by simp [e])
   · exact .inl (by simp [e])
   · exact .inl (by simp [e])
   · exact .inr (hG q e)
theorem CmTrio.newLook (h : CmTrio w0 w z F H jb cb dp nv S c d x) {l : Lk} {b : Nat} (hl : LK w0 w' z F b G l) (hG : ∀ q,q ∈ G → w.heap.size ≤ q) (hk : Keeps [] w w') : WentC w0 w (w'.setCell ⟨cb,9,none⟩ (PT b)) z F H jb cb dp nv S c d { x with lk := some l } := by
 have hlt := h.cm.lt
 have hc := h.cm.inH
 have ha := hl.apt
 have hkw : Keeps [cb] w' (w'.setCell ⟨cb,9,none⟩ (PT b)) := (Keeps.refl [cb] w').setCell (.inl (by simp)) _
 have hcG : ∀ q,q ∈ G → q ∉ [cb] := fun q hq hx => by
  simp only [List.mem_singleton] at hx
  subst hx
  have a := hG q hq
  have b := hlt q hc
  omega
 have hl2 := hl.keeps hkw hcG (fun q hq => .inl hq)
 have ha2 := hl2.apt
 have hs := (h.sp.calm hk).apt (h.cm.calm hk).apt hkw (fun q hq => by simp at hq; subst hq; exact hc)
 have hjc : jb ∉ [cb] := fun hx => by
  simp only [List.mem_singleton] at hx
  subst hx
  exact h.jH hc
 obtain ⟨_,hj,⟨⟨wv,lp,Gl,Gd,h1,h2,h3,h4,rfl,h6,h7⟩,hlow,hoff,hty⟩,hjH,hjl⟩ := id (h.calm hk)
 have hw : ∀ q,q ∈ vblk wv → q ∉ [cb] := fun q hq hx => by
  simp only [List.mem_singleton] at hx
  subst hx
  have a := own_tyOf h2 (by simpa [vblk] using hq)
  rw [h1.tyOf] at a
  injection a with a
  exact absurd a (by decide)
 have hd : ∀ q,q ∈ Gd → q ∉ [cb] := fun q hq hx => by
  simp only [List.mem_singleton] at hx
  subst hx
  exact h6 q (by simp) (by simp [hq])
 have hb9 : Blk (w'.setCell ⟨cb,9,none⟩ (PT b)) cb 164 (cmVals z jb wv nv (some b) { x with lk := some l }) := h1.set_ 9 (PT b)
 refine ⟨F,cb :: (vblk wv ++ (G ++ Gd)),hs,Blk.keeps hj hkw hjc,⟨⟨wv,some b,G,Gd,hb9,own_keeps h2 hkw (fun q hq => hw q (by simpa [vblk] using hq)),⟨b,rfl,hl2⟩,h4.keeps hkw hd (fun q hq => .inl hq),rfl,fun q hq hx => ?_,fun q hq hx => ?_⟩,fun q hq => ?_,fun q hq hf => ?_,fun q hq => ?_⟩,(hk.mono (by simp)).trans hkw (fun q hq => .inl (by simp at hq; simp [hq])),fun q hq => .inl hq,fun q hq => ?_⟩
 · rcases List.mem_append.1 hx with e | e
   · have a := hG q e
     have b := hlt q (by simp only [List.mem_cons,List.mem_append] at hq ⊢; rcases hq with e | e; exact .inl e; exact .inr (.inl e))
     omega
   · exact h6 q hq (by simp [e])
 · have a := hG q hq
   have b := hlt q (by simp [hx])
   omega
 · simp only [List.mem_cons,List.mem_append] at hq
   rcases hq with e | e | e | e
   · exact hlow q (by simp [e])
   · exact hlow q (by simp [e])
   · exact ha.low q e
   · exact hlow q (by simp [e])
 · simp only [List.mem_cons,List.mem_append] at hq
   rcases hq with e | e | e | e
   · exact hoff q (by simp [e]) hf
   · exact hoff q (by simp [e]) hf
   · exact ha.off q e hf
   · exact hoff q (by simp [e]) hf
 ·
  have hold : ∀ q,q ∉ [cb] → q ∈ cb :: (vblk wv ++ (Gl ++ Gd)) → ∃ t,tyOf (w'.setCell ⟨cb,9,none⟩ (PT b)) q = some t ∧ t ∉ spFix := fun q h1 h2 => by
   obtain ⟨t,ht,hn⟩ := hty q h2
   exact ⟨t,tyOf_keeps ht hkw h1,hn⟩
  simp only [List.mem_cons,List.mem_append] at hq
  rcases hq with e | e | e | e
  · subst e
    exact ⟨_,hb9.tyOf,by decide⟩
  · exact hold q (hw q e) (by simp [e])
  · exact ha2.ty q e
  · exact hold q (hd q e) (by simp [e])
 · simp only [List.mem_cons,List.mem_append] at hq
   rcases hq with e | e | e | e
   · exact .inl (by simp [e])
   · exact .inl (by simp [e])
   · exact .inr (hG q e)
   · exact .inl (by simp [e])
theorem CmTrio.judge (h : CmTrio w0 w z F H jb cb dp nv S c d x) (hj : JAt w' jb c d') (hk : Keeps [jb] w w') : CmTrio w0 w' z F H jb cb dp nv S c d' x :=
 ⟨h.sp.away hk (fun q hq => by
  simp only [List.mem_singleton] at hq
  subst hq
  exact ⟨h.jlow,h.jF,fun t ht => by rw [Blk.tyOf h.j] at ht; injection ht with ht; subst ht; decide⟩),hj,h.cm.keeps hk (fun q hq hx => by simp only [List.mem_singleton] at hx; subst hx; exact h.jH hq) (fun q hq => .inl hq),h.jH,h.jlow⟩
theorem CmTrio.row (h : CmTrio w0 w z F H jb cb dp nv S c d x) (hk : Keeps [jb] w w') {v : Value} {n : Nat} {xs : List Value} (ho : w.ownsRow 0 113 4 v n xs) : w'.ownsRow 0 113 4 v n xs :=
 own_keeps ho hk (fun q hq hx => by
  simp only [List.mem_singleton] at hx
  subst hx
  have a := own_tyOf ho hq
  rw [Blk.tyOf h.j] at a
  injection a with a
  exact absurd a (by decide))
theorem WentC.pre {w1 : World} (hk : Keeps [] w w1) (h : WentC w0 w1 w' z F H jb cb dp nv S' c d' x') : WentC w0 w w' z F H jb cb dp nv S' c d' x' := WentC.trans (hk.mono (by simp)) (fun q hq => .inl hq) (fun q hq => .inl hq) h
end
open Go.RowKit Pol
section
variable {w0 w w' : World} {z : Sb} {F H : List Nat} {S S' : Sp} {k jb cb dp : Nat} {x x' : Cm} {nv : Value} {c : Cf} {d d' : Int}
theorem dm_behind {G : List Nat} {y : Dm} (h : DM w0 w z F dp G y) : Calls Tryz.prog 193 #[.agg #[PT dp]] w fun e w' => e = .returned (stgVal dp (if y.left = [] then .write 0 else .doom)) ∧ Keeps [] w w' := by
 have HQ := Lib.hid (fun (w' : World) (hk' : Keeps [] w w') => show Calls Tryz.prog 37 #[PT dp] w' fun e w'' => e = .returned (.bool y.left.isEmpty) ∧ w' = w'' by
  obtain ⟨⟨lv,dv,h1,_⟩,_,_⟩ := h.calm hk'
  exact dm_done h1)
 have hkB : Keeps [] w (w.alloc (.cells #[PT dp] 279)) := by simp
 have b0 : (w.alloc (.cells #[PT dp] 279)).cell? ⟨w.heap.size,0,none⟩ = some (PT dp) := (Blk.cell (Blk.new w 279 #[PT dp]) 0).trans rfl
 clear h
 cases hy : y.left with
 | nil =>
   rw [hy] at HQ
   rw [if_pos rfl]
   clear hy
   go_enter Tryz.func193,Tryz.ntmps193
   go_wp2_with fail
   refine (HQ.out _ hkB).mono ?_
   rintro e w1 ⟨rfl,rfl⟩
   go_wp2_with fail
   try go_quiet (fail)
   try go_wp2_with fail
   go_ret
   exact ⟨by first | rfl | simp [stgVal],by first | exact hkB | exact hkB.drewN _⟩
 | cons v t =>
   rw [hy] at HQ
   rw [if_neg (by simp)]
   clear hy
   go_enter Tryz.func193,Tryz.ntmps193
   go_wp2_with fail
   refine (HQ.out _ hkB).mono ?_
   rintro e w1 ⟨rfl,rfl⟩
   go_wp2_with fail
   try go_quiet (fail)
   try go_wp2_with fail
   go_ret
   exact ⟨by first | rfl | simp [stgVal],by first | exact hkB | exact hkB.drewN _⟩
set_option maxRecDepth 100000 in
set_option maxHeartbeats 4000000 in
theorem cm_doom (h : CmTrio w0 w z F H jb cb dp nv S c d x) (hf : Fit k S) (hk : k ≤ 1099511627776) {y : Dm} (hy : x.dm = some y) (hsum : y.doomed.length + y.left.length ≤ 8) : Calls Tryz.prog 201 #[.agg #[PT dp],PT cb] w fun e w' => e = .returned (.tuple #[.int .i64 1,stgVal dp (x.doom_ y S).1.st]) ∧ WentC w0 w w' z F H jb cb dp nv (x.doom_ y S).2 c d (x.doom_ y S).1 := by
 have hkB : Keeps [] w (w.alloc (.cells #[PT dp] 279)) := by simp
 have bb := Blk.new w 279 #[PT dp]
 obtain ⟨wB,hwB⟩ : ∃ q,w.alloc (.cells #[PT dp] 279) = q := ⟨_,rfl⟩
 rw [hwB] at hkB bb
 have hB := h.calm hkB
 obtain ⟨G,hd,hGH,hgo⟩ := hB.dm hy
 have hbq : Hid (w.heap.size ∉ G ++ F) := fun hx => (List.mem_append.1 hx).elim (fun e => Nat.lt_irrefl _ (h.cm.lt _ (hGH _ e))) (fun e => Nat.lt_irrefl _ (h.sp.lt _ e))
 have HQ := Lib.hid (dm_step hB.sp hf hk hd (by omega))
 have HGO := Lib.hid (hgo)
 have b0 : wB.cell? ⟨w.heap.size,0,none⟩ = some (PT dp) := (Blk.cell bb 0).trans rfl
 have HB := Lib.hid bb
 have HKB := Lib.hid hkB
 unfold Cm.doom_
 rw [Cm.doomed_is]
 obtain ⟨y',hy'⟩ : ∃ q,(y.step S).2.1 = q := ⟨_,rfl⟩
 obtain ⟨S',hS'⟩ : ∃ q,(y.step S).2.2 = q := ⟨_,rfl⟩
 obtain ⟨an,han⟩ : ∃ q,(y.step S).1 = q := ⟨_,rfl⟩
 rw [hy',hS',han] at HQ
 rw [hy',hS']
 have est : (({ x with dm := some y' } : Cm).at_ (if y'.left = [] then .write 0 else .doom)).st = (if y'.left = [] then .write 0 else .doom) := rfl
 rw [est]
 have QB := Lib.hid (fun (w1 : World) (F1 G1 : List Nat) (hd : DM w0 w1 z F1 dp G1 y') => dm_behind hd)
 obtain ⟨sg,hsg⟩ : ∃ q,(if y'.left = [] then Stg.write 0 else Stg.doom) = q := ⟨_,rfl⟩
 rw [hsg] at QB ⊢
 clear est hsg hy' hS' han h hf hk hy hsum hB hd hGH hgo bb hkB
 go_enter Tryz.func201,Tryz.ntmps201
 go_wp2_with fail
 try rw [hwB]
 refine HQ.out.mono ?_
 rintro e w1 ⟨rfl,hW⟩
 have hWC := HGO.out w1 S' y' hW
 obtain ⟨F',G',a1,a2,a3,a4,a5⟩ := hW
 have HW1 : Hid (WentC w0 w w1 z F H jb cb dp nv S' c d { x with dm := some y' }) := WentC.trans (HKB.out.mono (by simp)) (fun q hq => .inl hq) (fun q hq => .inl hq) hWC
 have b1 : w1.cell? ⟨w.heap.size,0,none⟩ = some (PT dp) := (Blk.cell (HB.out.keeps a3 hbq.out) 0).trans rfl
 have HQ2 := Lib.hid (QB.out _ _ _ a2)
 clear hWC a1 a2 a3 a4 a5 hwB b0
 go_wp2_with fail
 refine HQ2.out.mono ?_
 rintro e w2 ⟨rfl,hk2⟩
 go_wp2_with fail
 go_ret2
 exact ⟨rfl,(HW1.out.calm hk2).st _⟩
end
open Go.RowKit Pol
section
variable {w0 w w' : World} {z : Sb} {F H : List Nat} {S S' : Sp} {k jb cb dp : Nat} {x x' : Cm} {nv : Value} {c : Cf} {d d' : Int}
set_option maxRecDepth 100000 in
set_option maxHeartbeats 4000000 in
theorem cm_behind (h : CmTrio w0 w z F H jb cb dp nv S c d x) (hf : Fit k S) (hk : k ≤ 1099511627776) (hc : c.ok) (h0 : 0 ≤ d) (h1 : d ≤ 64) {l : Lk} (hl : x.lk = some l) (hi : l.In S.H.length) (ho : x.Ok S.H.length) : Calls Tryz.prog 189 #[.agg #[],PT cb] w fun e w' => ∃ dp',e = .returned (stgVal dp' (x.behind l c d).1.st) ∧ WentC w0 w w' z F H jb cb dp' nv S c (x.behind l c d).2 (x.behind l c d).1 := by
 have hxl : ({ x with lk := some l } : Cm) = x := by cases x; simp at hl; subst hl; rfl
 have hxs : ({ x with lk := some l,st := .looking } : Cm) = x.at_ .looking := by cases x; simp at hl; subst hl; rfl
 obtain ⟨lb,Gl,c9,hlk,_,_⟩ := h.look hl
 have hvl : l.victims.length ≤ 8 := by have := hi.sum; have := ho.n8; omega
 have hkB : Keeps [] w (w.alloc (.cells #[] 276)) := by simp
 obtain ⟨wB,hwB⟩ : ∃ q,w.alloc (.cells #[] 276) = q := ⟨_,rfl⟩
 rw [hwB] at hkB
 have HT := Lib.hid h
 have c9B := keeps_cell0 hkB c9
 have HC := Lib.hid (show ∀ w',Keeps [] w w' → w'.cell? ⟨cb,1,none⟩ = some (PT jb) ∧ w'.cell? ⟨cb,5,none⟩ = some (.int .i64 x.stamp) from fun w' hk' => let q := (h.calm hk').cm.fix; ⟨q.2.1,q.2.2.2.2.2⟩)
 have HQD := Lib.hid (fun (w' : World) (hk' : Keeps [] w w') => show Calls Tryz.prog 31 #[PT lb] w' fun e w'' => e = .returned (.bool l.turns.isEmpty) ∧ w' = w'' by
  obtain ⟨⟨tv,wv,vv,a,_⟩,_,_⟩ := hlk.calm hk'
  exact lk_done a)
 unfold Cm.behind
 rw [hxl]
 by_cases ht : l.turns = []
 ·
  simp only [if_pos ht]
  rw [ht] at HQD
  have HQV := Lib.hid (fun (w' : World) (hk' : Keeps [] w w') => show Calls Tryz.prog 33 #[PT lb] w' fun e w'' => ∃ v,e = .returned v ∧ NewRow 113 4 l.victims.length (vcCells l.victims) [] w' w'' v by
   obtain ⟨⟨tv,wv,vv,a,_⟩,_,_⟩ := hlk.calm hk'
   exact lk_victims a (by omega))
  have hj := fun (w' : World) (hk' : Keeps [] w w') (A : Option Addr) (cap : Nat) (how : w'.ownsRow 0 113 4 (.slice A l.victims.length cap) l.victims.length (vcCells l.victims)) => judge_decide w' jb c hc x.stamp d h0 (by omega) (h.calm hk').j A cap l.victims (SlR.of_own how)
  have hxx := rfl (a := x.judged c d l.victims)
  conv at hxx => rhs; unfold Cm.judged
  obtain ⟨xx,hxe⟩ : ∃ q,x.judged c d l.victims = q := ⟨_,rfl⟩
  obtain ⟨vv,hvv⟩ : ∃ q,verdict c x.stamp d l.victims = q := ⟨_,rfl⟩
  obtain ⟨dd,hdd⟩ : ∃ q,decided c x.stamp d l.victims = q := ⟨_,rfl⟩
  rw [hxe,hvv] at hxx
  simp only [hvv,hdd] at hj
  rw [hxe,hdd]
  have HXX := Lib.hid hxx
  have HJ := Lib.hid hj
  have HQN := Lib.hid (fun (w' : World) (ht : CmTrio w0 w' z F H jb cb dp nv S c dd x) (A : Option Addr) (cap : Nat) (how : w'.ownsRow 0 113 4 (.slice A l.victims.length cap) l.victims.length (vcCells l.victims)) => dm_new ht.sp hf l.victims how x.thread ho.t1 ho.t8 hi.vs (by omega))
  clear hxx hj hxe hvv hdd h hf hk hc h0 h1 hl hi ho hlk ht hxl hxs c9
  go_enter Tryz.func189,Tryz.ntmps189
  go_wp2_with fail
  try rw [hwB]
  refine (HQD.out _ hkB).mono ?_
  rintro e w1 ⟨rfl,rfl⟩
  go_wp2_with fail
  refine (HQV.out _ hkB).mono ?_
  rintro e w2 ⟨v,rfl,hor,hk2⟩
  obtain ⟨A,cap,rfl⟩ := own_form hor
  have HOW : Hid (w2.ownsRow 0 113 4 (.slice A l.victims.length cap) l.victims.length (vcCells l.victims)) := own_base hor (fun _ _ => Nat.zero_le _)
  have HK2 : Hid (Keeps [] w w2) := hkB.trans hk2 (by simp)
  have HT2 := Lib.hid (HT.out.calm HK2.out)
  clear hor hk2 hwB c9B HQD HQV
  go_wp2_with fail
  refine wp_region_noPanic ?_
  refine wp_region_L 99 (fun w' => w'.cell? ⟨cb,1,none⟩ = some (PT jb) ∧ w'.cell? ⟨cb,5,none⟩ = some (.int .i64 x.stamp)) (by kernel_rfl) ?_
  have hHeld := HC.out _ (HK2.out.drew)
  refine Sq.kT (i := 0) (v := ?rvj0) rfl ?ryj0 hHeld ?rrj0
  case ryj0 => (intro w' hSw; (try dsimp only at hSw); go_simp; first | done | with_reducible rfl)
  try simp only [Act.put,Sq.t,Sq.z,Sq.s]
  refine Sq.kT (i := 1) (v := ?rvj1) rfl ?ryj1 hHeld ?rrj1
  case ryj1 => (intro w' hSw; (try dsimp only at hSw); go_simp; first | done | with_reducible rfl)
  try simp only [Act.put,Sq.t,Sq.z,Sq.s]
  refine Sq.kT (i := 2) (v := ?rvj2) rfl ?ryj2 hHeld ?rrj2
  case ryj2 => (intro w' hSw; (try dsimp only at hSw); go_simp; first | done | with_reducible rfl)
  try simp only [Act.put,Sq.t,Sq.z,Sq.s]
  refine Sq.kT (i := 3) (v := ?rvj3) rfl ?ryj3 hHeld ?rrj3
  case ryj3 => (intro w' hSw; (try dsimp only at hSw); go_simp; first | done | with_reducible rfl)
  try simp only [Act.put,Sq.t,Sq.z,Sq.s]
  refine Sq.kT (i := 4) (v := ?rvj4) rfl ?ryj4 hHeld ?rrj4
  case ryj4 => (intro w' hSw; (try dsimp only at hSw); go_simp; first | done | with_reducible rfl)
  try simp only [Act.put,Sq.t,Sq.z,Sq.s]
  refine Sq.kT (i := 5) (v := ?rvj5) rfl ?ryj5 hHeld ?rrj5
  case ryj5 => (intro w' hSw; (try dsimp only at hSw); go_simp; first | done | with_reducible rfl)
  try simp only [Act.put,Sq.t,Sq.z,Sq.s]
  refine Sq.kT (i := 6) (v := ?rvj6) rfl ?ryj6 hHeld ?rrj6
  case ryj6 => (intro w' hSw; (try dsimp only at hSw); go_simp; first | done | with_reducible rfl)
  try simp only [Act.put,Sq.t,Sq.z,Sq.s]
  refine Sq.kT (i := 7) (v := ?rvj7) rfl ?ryj7 hHeld ?rrj7
  case ryj7 => (intro w' hSw; (try dsimp only at hSw); go_simp; first | done | with_reducible rfl)
  try simp only [Act.put,Sq.t,Sq.z,Sq.s]
  refine Sq.kT (i := 8) (v := ?rvj8) rfl ?ryj8 hHeld ?rrj8
  case ryj8 => (intro w' hSw; (try dsimp only at hSw); go_simp; first | done | with_reducible rfl)
  try simp only [Act.put,Sq.t,Sq.z,Sq.s]
  refine Sq.kT (i := 9) (v := ?rvj9) rfl ?ryj9 hHeld ?rrj9
  case ryj9 => (intro w' hSw; (try dsimp only at hSw); go_simp; first | done | with_reducible rfl)
  try simp only [Act.put,Sq.t,Sq.z,Sq.s]
  refine Sq.oT (i := 10) rfl fun K hK => ?_
  go_simp
  go_at_call 192
  refine (HJ.out w2.drew HK2.out.drew A cap (own_keeps HOW.out ((Keeps.refl [] w2).drew) (by simp))).mono ?_
  rintro e wd ⟨rfl,hjd,hkd⟩
  have ht3 : CmTrio w0 wd z F H jb cb dp nv S c dd x := (HT2.out.calm (Keeps.refl [] w2).drew).judge hjd hkd
  have hor3 := (HT2.out.calm (Keeps.refl [] w2).drew).row hkd (own_keeps HOW.out ((Keeps.refl [] w2).drew) (by simp))
  have hkw : Keeps (jb :: (H ++ F)) w wd := (HK2.out.drew.mono (by simp)).trans hkd (fun q hq => .inl (by simp at hq; simp [hq]))
  have HW3 : Hid (WentC w0 w wd z F H jb cb dp nv S c dd x) := WentC.of ht3 hkw (fun q hq => .inl hq) (fun q hq => .inl hq)
  obtain ⟨v7,v8,v10,v11⟩ := ht3.cm.var
  have g10 := ht3.cm.frozen 10
  have HT3 := Lib.hid ht3
  have HOR3 := Lib.hid hor3
  have HKW3 := Lib.hid hkw
  have hfx := ht3.cm.fix
  have hS1 : wd.cell? ⟨cb,1,none⟩ = some (PT jb) ∧ wd.cell? ⟨cb,5,none⟩ = some (.int .i64 x.stamp) := ⟨hfx.2.1,hfx.2.2.2.2.2⟩
  clear hjd hkd ht3 hor3 hkw hfx
  go_simp
  refine hK.out _ _ (fun _ => hS1) ?_
  clear hK K
  try simp only [Act.put,Sq.t,Sq.z,Sq.s]
  refine wpAnyL_done (by kernel_rfl) ?_ _
  refine NoPanic.normal ?_
  by_cases e2 : vv = 2
  · subst e2
    have hxx := HXX.out
    rw [if_pos rfl] at hxx
    subst hxx
    go_wp2_with fail
    go_ret
    exact ⟨dp,rfl,(HW3.out.set 10 (.int .i64 9) (x' := { x with e := 9,st := .giveUp }) (fun _ _ => rfl) rfl rfl rfl (Blk.lt HT.out.j) HT.out.jH)⟩
  ·
   by_cases e3 : vv = 3
   · subst e3
     have hxx := HXX.out
     rw [if_neg (by decide),if_pos rfl] at hxx
     subst hxx
     go_wp2_with fail
     go_ret
     exact ⟨dp,rfl,(HW3.out.set 10 (.int .i64 8) (x' := { x with e := 8,st := .giveUp }) (fun _ _ => rfl) rfl rfl rfl (Blk.lt HT.out.j) HT.out.jH)⟩
   ·
    have hxx := HXX.out
    rw [if_neg e2,if_neg e3,Cm.doomed_is] at hxx
    obtain ⟨sg,hsg⟩ : ∃ q,(if (Dm.new x.thread l.victims).left = [] then Stg.write 0 else Stg.doom) = q := ⟨_,rfl⟩
    have QB := Lib.hid (fun (w1 : World) (b1 : Nat) (G1 : List Nat) (hd : DM w0 w1 z F b1 G1 (Dm.new x.thread l.victims)) => dm_behind hd)
    rw [hsg] at hxx QB
    clear hsg
    subst hxx
    have b2 : (vv == 2) = false := by simp [e2]
    have b3 : (vv == 3) = false := by simp [e3]
    have QN := Lib.hid (fun (w' : World) (hk' : Keeps [] wd w') => HQN.out w' (HT3.out.calm hk') A cap (own_keeps HOR3.out hk' (by simp)))
    have HC3 := Lib.hid (show ∀ w',Keeps [] wd w' → w'.cell? ⟨cb,0,none⟩ = some (PT z.p) ∧ w'.cell? ⟨cb,4,none⟩ = some (.int .i64 x.thread) from fun w' hk' => let q := (HT3.out.calm hk').cm.fix; ⟨q.1,q.2.2.2.2.1⟩)
    clear HQN HJ HXX e2 e3
    go_wp2_with fail
    refine wp_region_noPanic ?_
    refine wp_region_L 99 (fun w' => w'.cell? ⟨cb,0,none⟩ = some (PT z.p) ∧ w'.cell? ⟨cb,4,none⟩ = some (.int .i64 x.thread)) (by kernel_rfl) ?_
    have hHeld := HC3.out _ (Keeps.refl [] wd).drew
    refine Sq.kT (i := 0) (v := ?rvn0) rfl ?ryn0 hHeld ?rrn0
    case ryn0 => (intro w' hSw; (try dsimp only at hSw); go_simp; first | done | with_reducible rfl)
    try simp only [Act.put,Sq.t,Sq.z,Sq.s]
    refine Sq.kT (i := 1) (v := ?rvn1) rfl ?ryn1 hHeld ?rrn1
    case ryn1 => (intro w' hSw; (try dsimp only at hSw); go_simp; first | done | with_reducible rfl)
    try simp only [Act.put,Sq.t,Sq.z,Sq.s]
    refine Sq.kT (i := 2) (v := ?rvn2) rfl ?ryn2 hHeld ?rrn2
    case ryn2 => (intro w' hSw; (try dsimp only at hSw); go_simp; first | done | with_reducible rfl)
    try simp only [Act.put,Sq.t,Sq.z,Sq.s]
    refine Sq.kT (i := 3) (v := ?rvn3) rfl ?ryn3 hHeld ?rrn3
    case ryn3 => (intro w' hSw; (try dsimp only at hSw); go_simp; first | done | with_reducible rfl)
    try simp only [Act.put,Sq.t,Sq.z,Sq.s]
    refine Sq.kT (i := 4) (v := ?rvn4) rfl ?ryn4 hHeld ?rrn4
    case ryn4 => (intro w' hSw; (try dsimp only at hSw); go_simp; first | done | with_reducible rfl)
    try simp only [Act.put,Sq.t,Sq.z,Sq.s]
    refine Sq.kT (i := 5) (v := ?rvn5) rfl ?ryn5 hHeld ?rrn5
    case ryn5 => (intro w' hSw; (try dsimp only at hSw); go_simp; first | done | with_reducible rfl)
    try simp only [Act.put,Sq.t,Sq.z,Sq.s]
    refine Sq.kT (i := 6) (v := ?rvn6) rfl ?ryn6 hHeld ?rrn6
    case ryn6 => (intro w' hSw; (try dsimp only at hSw); go_simp; first | done | with_reducible rfl)
    try simp only [Act.put,Sq.t,Sq.z,Sq.s]
    refine Sq.kT (i := 7) (v := ?rvn7) rfl ?ryn7 hHeld ?rrn7
    case ryn7 => (intro w' hSw; (try dsimp only at hSw); go_simp; first | done | with_reducible rfl)
    try simp only [Act.put,Sq.t,Sq.z,Sq.s]
    refine Sq.kT (i := 8) (v := ?rvn8) rfl ?ryn8 hHeld ?rrn8
    case ryn8 => (intro w' hSw; (try dsimp only at hSw); go_simp; first | done | with_reducible rfl)
    try simp only [Act.put,Sq.t,Sq.z,Sq.s]
    refine Sq.kT (i := 9) (v := ?rvn9) rfl ?ryn9 hHeld ?rrn9
    case ryn9 => (intro w' hSw; (try dsimp only at hSw); go_simp; first | done | with_reducible rfl)
    try simp only [Act.put,Sq.t,Sq.z,Sq.s]
    refine Sq.oT (i := 10) rfl fun K hK => ?_
    go_simp
    go_at_call 34
    refine (QN.out _ (Keeps.refl [] wd).drew).mono ?_
    rintro e wf ⟨b,G',rfl,hdm,hfr,hkf⟩
    have hfx := (HT3.out.calm ((Keeps.refl [] wd).drew.trans hkf (by simp))).cm.fix
    have hS1 : wf.cell? ⟨cb,0,none⟩ = some (PT z.p) ∧ wf.cell? ⟨cb,4,none⟩ = some (.int .i64 x.thread) := ⟨hfx.1,hfx.2.2.2.2.1⟩
    have HDM := Lib.hid hdm
    have HND := Lib.hid ((HT3.out.calm ((Keeps.refl [] wd).drew)).newDoom hdm hfr hkf)
    clear hdm hfr hkf hfx
    go_simp
    refine hK.out _ _ (fun _ => hS1) ?_
    clear hK K
    try simp only [Act.put,Sq.t,Sq.z,Sq.s]
    replace hHeld := hS1
    refine Sq.kT (i := 11) (v := ?rvn11) rfl ?ryn11 hHeld ?rrn11
    case ryn11 => (intro w' hSw; (try dsimp only at hSw); go_simp; first | done | with_reducible rfl)
    try simp only [Act.put,Sq.t,Sq.z,Sq.s]
    refine Sq.kT (i := 12) (v := ?rvn12) rfl ?ryn12 hHeld ?rrn12
    case ryn12 => (intro w' hSw; (try dsimp only at hSw); go_simp; first | done | with_reducible rfl)
    try simp only [Act.put,Sq.t,Sq.z,Sq.s]
    refine Sq.kT (i := 13) (v := ?rvn13) rfl ?ryn13 hHeld ?rrn13
    case ryn13 => (intro w' hSw; (try dsimp only at hSw); go_simp; first | done | with_reducible rfl)
    try simp only [Act.put,Sq.t,Sq.z,Sq.s]
    refine Sq.kT (i := 14) (v := ?rvn14) rfl ?ryn14 hHeld ?rrn14
    case ryn14 => (intro w' hSw; (try dsimp only at hSw); go_simp; first | done | with_reducible rfl)
    try simp only [Act.put,Sq.t,Sq.z,Sq.s]
    refine Sq.kT (i := 15) (v := ?rvn15) rfl ?ryn15 hHeld ?rrn15
    case ryn15 => (intro w' hSw; (try dsimp only at hSw); go_simp; first | done | with_reducible rfl)
    try simp only [Act.put,Sq.t,Sq.z,Sq.s]
    refine wpAnyL_done (by kernel_rfl) ?_ _
    refine NoPanic.normal ?_
    go_wp2_with fail
    refine (QB.out _ _ _ HDM.out).mono ?_
    rintro e wg ⟨rfl,hkg⟩
    go_wp2_with fail
    go_ret
    exact ⟨b,rfl,(WentC.trans (HKW3.out.drew) (fun q hq => .inl hq) (fun q hq => .inl hq) (HND.out.calm hkg)).st _⟩
 ·
  simp only [if_neg ht]
  rw [hxs]
  have he : l.turns.isEmpty = false := by cases hq : l.turns with | nil => exact absurd hq ht | cons a b => rfl
  rw [he] at HQD
  clear h hf hk hc h0 h1 hl hi ho hlk ht hxl hxs c9 he
  go_enter Tryz.func189,Tryz.ntmps189
  go_wp2_with fail
  try rw [hwB]
  refine (HQD.out _ hkB).mono ?_
  rintro e w1 ⟨rfl,rfl⟩
  go_wp2_with fail
  go_ret
  exact ⟨dp,rfl,(HT.out.still hkB).st _⟩
set_option maxRecDepth 100000 in
set_option maxHeartbeats 4000000 in
theorem cm_look (h : CmTrio w0 w z F H jb cb dp nv S c d x) (hf : Fit k S) (hk : k + 1 ≤ 1099511627776) (hcc : S.c = c) (hu : S.wu) (h0 : 0 ≤ d) (h1 : d ≤ 64) {l : Lk} (hl : x.lk = some l) (ho : x.Ok S.H.length) : Calls Tryz.prog 200 #[.agg #[],PT cb] w fun e w' => ∃ dp',e = .returned (.tuple #[.int .i64 1,stgVal dp' (x.look_ l S d).1.st]) ∧ WentC w0 w w' z F H jb cb dp' nv (x.look_ l S d).2.1 c (x.look_ l S d).2.2 (x.look_ l S d).1 := by
 have hi := ho.lk l hl
 have hc := hf.c
 obtain ⟨lb,Gl,c9,hlk,hGH,hgo⟩ := h.look hl
 have HT := Lib.hid h
 have hkB : Keeps [] w (w.alloc (.cells #[] 276)) := by simp
 obtain ⟨wB,hwB⟩ : ∃ q,w.alloc (.cells #[] 276) = q := ⟨_,rfl⟩
 rw [hwB] at hkB
 have hB := h.calm hkB
 obtain ⟨lb2,Gl2,c92,hlk2,hGH2,hgo2⟩ := hB.look hl
 have HQ := Lib.hid (lk_step hB.sp hf (by omega) hlk2 hu (hi.ok ho.n8) (by decide))
 have HGO := Lib.hid hgo2
 unfold Cm.look_
 have hs := l.step_is S
 have hin : (l.step S).2.1.In S.H.length := hi.step hu
 have hfit := hf.lkstep l
 obtain ⟨l',hl'⟩ : ∃ q,(l.step S).2.1 = q := ⟨_,rfl⟩
 obtain ⟨S',hS'⟩ : ∃ q,(l.step S).2.2 = q := ⟨_,rfl⟩
 obtain ⟨an,han⟩ : ∃ q,(l.step S).1 = q := ⟨_,rfl⟩
 rw [hl',hS',han] at HQ
 rw [hS'] at hs hfit
 rw [hl'] at hin
 rw [hl',hS',hcc]
 have HB := Lib.hid (fun (w1 : World) (F1 H1 : List Nat) (ht : CmTrio w0 w1 z F1 H1 jb cb dp nv S' c d { x with lk := some l' }) => cm_behind ht hfit hk (hcc ▸ hc) h0 h1 (l := l') rfl (by rw [hs.2.2]; exact hin) (by rw [hs.2.2]; exact ho.relook hin))
 clear hl' hS' han hs hin hfit hlk hlk2 hGH hGH2 hgo hgo2 hB h hf hk hcc hu h0 h1 hl ho hi hc c9
 go_enter Tryz.func200,Tryz.ntmps200
 go_wp2_with fail
 try rw [hwB]
 refine HQ.out.mono ?_
 rintro e w1 ⟨rfl,hW⟩
 have hWC := HGO.out w1 S' l' hW
 obtain ⟨F1,H1,ht1,hk1,hF1,hH1⟩ := WentC.trio (HT.out.calm hkB) hWC
 have HQ2 := Lib.hid (HB.out w1 F1 H1 ht1)
 have HP := Lib.hid (And.intro hk1 (And.intro hF1 hH1))
 clear hW hWC ht1 hk1 hF1 hH1 HB HGO HQ hwB
 go_wp2_with fail
 refine HQ2.out.mono ?_
 rintro e w2 ⟨dp',rfl,hW2⟩
 go_wp2_with fail
 go_ret2
 exact ⟨dp',rfl,WentC.pre hkB (WentC.trans HP.out.1 HP.out.2.1 HP.out.2.2 hW2)⟩
end
end Go.Proofs.YtmlnedilbneekaaGreat