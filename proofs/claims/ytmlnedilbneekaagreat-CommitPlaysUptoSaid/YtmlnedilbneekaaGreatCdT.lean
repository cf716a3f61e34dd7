/- Layer 13: the document's commit: where it lies; a step, whatever it is. -/
import Derived.Test.YtmlnedilbneekaaGreatCdS
import Derived.Test.YtmlnedilbneekaaGreatRawF
set_option linter.unusedVariables false
set_option linter.unusedSimpArgs false
namespace Go.Proofs.YtmlnedilbneekaaGreat
open Go.RowKit Pol
namespace Cd
open Ld Rj
def stn : Stg → Int
 | .take => 1
 | .own => 2
 | .looking => 3
 | .doom => 4
 | .write _ => 5
 | .give => 6
 | .giveUp => 7
 | .free => 8
 | .over => 9
def lpv {α : Type} (b : Nat) : Option α → Value
 | none => .pointer none
 | some _ => PT b
def cdv (y : Rb) (jb : Nat) (x : Cm) (lb db : Nat) (at_ : Int) (wv : Value) : Array Value :=
 #[PT y.p,PT jb,.int .i64 x.slot,.int .i64 x.gen,.int .i64 x.thread,.int .i64 x.stamp,wv,.int .i64 (stn x.st),.int .i64 x.number,lpv lb x.lk,lpv db x.dm,.int .i64 at_,.int .i64 x.e,.bool x.won]
structure CdX (w : World) (y : Rb) (n jb b : Nat) (x : Cm) (F : List Nat) (lb : Nat) (vv : Value) (db : Nat) (A : Option Addr) (cc : Nat) (L : List Vc) (dv wv : Value) (at_ : Int) : Prop where
 blk : Blk w b 167 (cdv y jb x lb db at_ wv)
 ws : ∃ g cw,wv = .slice (some ⟨g,0,none⟩) x.ws.length cw ∧ w.ownsRow 0 81 2 wv x.ws.length (prCells x.ws)
 lk : ∀ l,x.lk = some l → Ld.At w y n lb l vv ∧ lb ∈ F ∧ ∀ u,u ∈ vblk vv → u ∈ F
 dm : ∀ q,x.dm = some q → DAt w y db q A cc L dv ∧ db ∈ F ∧ ∀ u,u ∈ vblk dv → u ∈ F
 ls : ∀ q,x.dm = some q → 0 < L.length → ∀ u off,A = some ⟨u,off,none⟩ → u ∈ F ∧ u ∉ vblk dv ∧ u ≠ db ∧ u ≠ b
 two : ∀ l q,x.lk = some l → x.dm = some q → ∀ u,u ∈ vblk vv → u ∉ vblk dv
 bF : b ∈ F
 wF : ∀ u,u ∈ vblk wv → u ∈ F
 at0 : (x.st = .take ∨ x.st = .own ∨ x.st = .looking ∨ x.st = .doom) → at_ = 0
 atw : ∀ k,x.st = .write k → at_ = (k : Int)
 ndm : (x.st = .take ∨ x.st = .own ∨ x.st = .looking) → x.dm = none
 nlk : (x.st = .take ∨ x.st = .own) → x.lk = none
def CD (w : World) (y : Rb) (n jb b : Nat) (x : Cm) (F : List Nat) : Prop := ∃ lb vv db A cc L dv wv at_,CdX w y n jb b x F lb vv db A cc L dv wv at_
structure Tri (w0 w : World) (y : Rb) (G : List Nat) (n jb b : Nat) (x : Cm) (F : List Nat) (c : Cf) (d : Int) (S : Sp) : Prop where
 rp : RP w0 w y G S
 jd : JD w jb c d
 cd : CD w y n jb b x F
 jF : jb ∉ F
 jG : jb ∉ G
 jlow : w0.heap.size ≤ jb
 off : ∀ u,u ∈ F → u ∉ G
 low : ∀ u,u ∈ F → w0.heap.size ≤ u
 ty : ∀ u,u ∈ F → ∃ t,tyOf w u = some t ∧ t ∉ fixT
def CdWent (w0 w w' : World) (y : Rb) (G : List Nat) (n jb b : Nat) (F : List Nat) (c : Cf) (S' : Sp) (d' : Int) (x' : Cm) : Prop :=
 ∃ G' F',RP w0 w' y G' S' ∧ JD w' jb c d' ∧ CD w' y n jb b x' F' ∧ Keeps (jb :: (F ++ G)) w w' ∧ (∀ z,z ∈ G' → z ∈ G ∨ w.heap.size ≤ z) ∧ (∀ z,z ∈ F → z ∈ F') ∧ (∀ z,z ∈ F' → z ∈ F ∨ w.heap.size ≤ z ∧ z ∉ G') ∧ (∀ z,z ∈ F' → ∃ t,tyOf w' z = some t ∧ t ∉ fixT)
section
variable {w w' w0 w1 : World} {y : Rb} {G G' F F' X : List Nat} {S S' : Sp} {n b k jb lb db cc : Nat} {x x' : Cm} {c : Cf} {d d' : Int} {A : Option Addr} {L : List Vc} {vv dv wv : Value} {at_ at' : Int} {l : Lk}
theorem ne_of {p q : Nat} {t u : TypeId} (h : tyOf w p = some t) (h' : tyOf w q = some u) (hne : t ≠ u) : p ≠ q := fun e => by
 subst e
 rw [h] at h'
 injection h' with h'
 exact hne h'
theorem CdX.pairs (h : CdX w y n jb b x F lb vv db A cc L dv wv at_) : ∀ u,u ∈ vblk wv → tyOf w u = some 81 := by
 obtain ⟨g,cw,_,ho⟩ := h.ws
 exact own_in ho
theorem CdX.keeps (h : CdX w y n jb b x F lb vv db A cc L dv wv at_) (hk : Keeps X w w') (hX : ∀ u,u ∈ F → u ∉ X) : CdX w' y n jb b x F lb vv db A cc L dv wv at_ := by
 refine ⟨h.blk.keeps hk (hX b h.bF),?_,fun l e => ?_,fun q e => ?_,h.ls,h.two,h.bF,h.wF,h.at0,h.atw,h.ndm,h.nlk⟩
 · obtain ⟨g,cw,e,ho⟩ := h.ws
   exact ⟨g,cw,e,own_keeps ho hk (fun u hu => hX u (h.wF u (by simp [vblk,hu])))⟩
 · obtain ⟨h1,h2,h3⟩ := h.lk l e
   exact ⟨h1.keeps hk (hX lb h2) (fun u hu => hX u (h3 u (by simp [vblk,hu]))),h2,h3⟩
 · obtain ⟨h1,h2,h3⟩ := h.dm q e
   exact ⟨h1.keeps hk (hX db h2) (fun u hu => hX u (h3 u hu)) (fun h0 u off e1 => hX u (h.ls q e h0 u off e1).1),h2,h3⟩
theorem CD.keeps (h : CD w y n jb b x F) (hk : Keeps X w w') (hX : ∀ u,u ∈ F → u ∉ X) : CD w' y n jb b x F := by
 obtain ⟨lb,vv,db,A,cc,L,dv,wv,at_,h⟩ := h
 exact ⟨lb,vv,db,A,cc,L,dv,wv,at_,h.keeps hk hX⟩
theorem CdX.move (h : CdX w y n jb b x F lb vv db A cc L dv wv at_) (hk : Keeps X w w') (hX : ∀ u,u ∈ F → u ≠ b → u ∉ X) (hb : Blk w' b 167 (cdv y jb x' lb db at' wv)) (e1 : x'.ws = x.ws) (e2 : x'.lk = x.lk) (e3 : x'.dm = x.dm)
 (a0 : (x'.st = .take ∨ x'.st = .own ∨ x'.st = .looking ∨ x'.st = .doom) → at' = 0) (aw : ∀ k,x'.st = .write k → at' = (k : Int)) (nd : (x'.st = .take ∨ x'.st = .own ∨ x'.st = .looking) → x'.dm = none) (nl : (x'.st = .take ∨ x'.st = .own) → x'.lk = none) : CdX w' y n jb b x' F lb vv db A cc L dv wv at' := by
 have hbt := h.blk.tyOf
 refine ⟨hb,?_,fun l e => ?_,fun q e => ?_,fun q e => h.ls q (e3 ▸ e),fun l q e e' => h.two l q (e2 ▸ e) (e3 ▸ e'),h.bF,h.wF,a0,aw,nd,nl⟩
 · obtain ⟨g,cw,e,ho⟩ := h.ws
   rw [e1]
   exact ⟨g,cw,e,own_keeps ho hk (fun u hu => hX u (h.wF u (by simp [vblk,hu])) (ne_of (h.pairs u (by simp [vblk,hu])) hbt (by decide)))⟩
 · obtain ⟨h1,h2,h3⟩ := h.lk l (e2 ▸ e)
   exact ⟨h1.keeps hk (hX lb h2 (ne_of h1.ty hbt (by decide))) (fun u hu => hX u (h3 u (by simp [vblk,hu])) (ne_of (own_in h1.own u (by simp [vblk,hu])) hbt (by decide))),h2,h3⟩
 · obtain ⟨h1,h2,h3⟩ := h.dm q (e3 ▸ e)
   exact ⟨h1.keeps hk (hX db h2 (ne_of h1.ty hbt (by decide))) (fun u hu => hX u (h3 u hu) (ne_of (own_in h1.own u hu) hbt (by decide))) (fun h0 u off ea => hX u (h.ls q (e3 ▸ e) h0 u off ea).1 (h.ls q (e3 ▸ e) h0 u off ea).2.2.2),h2,h3⟩
theorem tyF (ht : ∀ u,u ∈ F → ∃ t,tyOf w u = some t ∧ t ∉ fixT) (hk : Keeps X w w') (hX : ∀ u,u ∈ F → u ∈ X → ∃ t,tyOf w' u = some t ∧ t ∉ fixT) : ∀ u,u ∈ F → ∃ t,tyOf w' u = some t ∧ t ∉ fixT := fun u hu => by
 by_cases hx : u ∈ X
 · exact hX u hu hx
 · obtain ⟨t,h1,h2⟩ := ht u hu
   exact ⟨t,tyOf_keeps h1 hk hx,h2⟩
theorem Tri.cw (hT : Tri w0 w y G n jb b x F c d S) (hx : CdX w y n jb b x F lb vv db A cc L dv wv at_) (h : CW w0 w w' y G b (cdv y jb x' lb db at' wv) S') (e1 : x'.ws = x.ws) (e2 : x'.lk = x.lk) (e3 : x'.dm = x.dm)
 (a0 : (x'.st = .take ∨ x'.st = .own ∨ x'.st = .looking ∨ x'.st = .doom) → at' = 0) (aw : ∀ k,x'.st = .write k → at' = (k : Int)) (nd : (x'.st = .take ∨ x'.st = .own ∨ x'.st = .looking) → x'.dm = none) (nl : (x'.st = .take ∨ x'.st = .own) → x'.lk = none) : CdWent w0 w w' y G n jb b F c S' d x' := by
 obtain ⟨G',h1,h2,h3,h4⟩ := h
 have hX : ∀ u,u ∈ F → u ≠ b → u ∉ b :: G := fun u hu hne hx => by
  rcases List.mem_cons.1 hx with h5 | h5
  · exact hne h5
  · exact hT.off u hu h5
 have hjb : jb ∉ b :: G := fun hx2 => by
  rcases List.mem_cons.1 hx2 with h5 | h5
  · exact hT.jF (h5 ▸ hx.bF)
  · exact hT.jG h5
 refine ⟨G',F,h1,Blk.keeps hT.jd h3 hjb,⟨lb,vv,db,A,cc,L,dv,wv,at',hx.move h3 hX h2 e1 e2 e3 a0 aw nd nl⟩,h3.mono (fun z hz => .inl ?_),h4,fun z hz => hz,fun z hz => .inl hz,tyF hT.ty h3 (fun u hu hux => ?_)⟩
 · rcases List.mem_cons.1 hz with h5 | h5
   · subst h5; simp [hx.bF]
   · simp [h5]
 · rcases List.mem_cons.1 hux with h5 | h5
   · subst h5; exact ⟨_,h2.tyOf,by decide⟩
   · exact absurd h5 (hT.off u hu)
theorem rp_noty {t : TypeId} (h : RP w0 w y G S) {u : Nat} (hu : tyOf w u = some t) (hn : t ∉ rpT) : u ∉ G := fun hx => by
 obtain ⟨t',ht,e⟩ := h.footT u hx
 rw [hu] at e
 injection e with e
 subst e
 exact hn ht
theorem jw_x (hws : ∃ g cw,wv = .slice (some ⟨g,0,none⟩) x.ws.length cw ∧ w'.ownsRow 0 81 2 wv x.ws.length (prCells x.ws)) (hl : Ld.At w' y n lb l vv) (hlF : lb ∈ F) (hvF : ∀ u,u ∈ vblk vv → u ∈ F) (hbF : b ∈ F) (hwF : ∀ u,u ∈ vblk wv → u ∈ F) (hdm : x.dm = none)
 (hj : JW w0 w1 w' y jb b lb x.slot x.gen x.thread x.stamp x.number 0 x.won x.e wv vv (.pointer none) c d l.victims) :
 ∃ F2,CD w' y n jb b (Cm.judged { x with lk := some l } c d l.victims) (F ++ F2) ∧ ∀ u,u ∈ F2 → w1.heap.size ≤ u ∧ tyOf w' u = some 142 := by
 obtain ⟨_,_,sg,e1,dpv,hb,hcase⟩ := hj
 have fin : ∀ (x' : Cm),x'.slot = x.slot → x'.gen = x.gen → x'.thread = x.thread → x'.stamp = x.stamp → x'.ws = x.ws → x'.number = x.number → x'.lk = some l → x'.won = x.won → x'.dm = none → x'.st = .giveUp → sg = 7 → e1 = x'.e → dpv = .pointer none → CD w' y n jb b x' (F ++ []) := fun x' f1 f2 f3 f4 f5 f6 f7 f8 f9 f10 f11 f12 f13 => by
  refine ⟨lb,vv,0,none,0,[],.slice none 0 0,wv,0,?_,?_,fun l' e => ?_,fun q e => ?_,fun q e => ?_,fun l' q e e' => ?_,by simp [hbF],fun u hu => by simp [hwF u hu],fun h => ?_,fun k h => ?_,fun h => ?_,fun h => ?_⟩
  · subst f11 f12 f13
    unfold cdv
    rw [f1,f2,f3,f4,f6,f7,f8,f9,f10]
    exact hb
  · rw [f5]; exact hws
  · rw [f7] at e; injection e with e; subst e; exact ⟨hl,by simp [hlF],fun u hu => by simp [hvF u hu]⟩
  · rw [f9] at e; cases e
  · rw [f9] at e; cases e
  · rw [f9] at e'; cases e'
  · exfalso; rw [f10] at h; revert h; simp
  · exfalso; rw [f10] at h; revert h; simp
  · exact f9
  · exfalso; rw [f10] at h; revert h; simp
 rcases hcase with ⟨hv,e2,e3,e4⟩ | ⟨hv,e2,e3,e4⟩ | ⟨hv2,hv3,e2,e3,db,A,cc,e5,e4,hd,hz⟩
 · refine ⟨[],?_,by simp⟩
   have e : Cm.judged { x with lk := some l } c d l.victims = { x with lk := some l,e := 9,st := .giveUp } := by unfold Cm.judged; rw [if_pos (by exact hv)]
   rw [e]
   exact fin _ rfl rfl rfl rfl rfl rfl rfl rfl hdm rfl e2 e3 e4
 · refine ⟨[],?_,by simp⟩
   have e : Cm.judged { x with lk := some l } c d l.victims = { x with lk := some l,e := 8,st := .giveUp } := by unfold Cm.judged; rw [if_neg (by show ¬ verdict c x.stamp d l.victims = 2; rw [hv]; decide),if_pos (by exact hv)]
   rw [e]
   exact fin _ rfl rfl rfl rfl rfl rfl rfl rfl hdm rfl e2 e3 e4
 ·
  refine ⟨[db],?_,fun u hu => by simp at hu; subst hu; exact ⟨hz,hd.ty⟩⟩
  have e : Cm.judged { x with lk := some l } c d l.victims = Cm.doomed { x with lk := some l } (Dm.new x.thread l.victims) := by unfold Cm.judged; rw [if_neg (by exact hv2),if_neg (by exact hv3)]
  rw [e]
  subst e5 e4 e3
  have hls : ∀ u off,A = some ⟨u,off,none⟩ → u ∈ vblk (.slice A l.victims.length cc) := fun u off e => by subst e; simp [vblk,Value.ownBlock]
  refine ⟨lb,.slice A l.victims.length cc,db,A,cc,l.victims,.slice none 0 0,wv,0,?_,hws,fun l' e => ?_,fun q e => ?_,fun q e h0 u off eA => ?_,fun l' q e e' u hu => by simp [vblk,Value.ownBlock],by simp [hbF],fun u hu => by simp [hwF u hu],fun h => rfl,fun k h => ?_,fun h => ?_,fun h => ?_⟩
  · have es : stn (Cm.doomed { x with lk := some l } (Dm.new x.thread l.victims)).st = sg := by
     rw [e2]
     show stn (if l.victims = [] then Stg.write 0 else Stg.doom) = _
     split <;> rfl
    unfold cdv
    rw [es]
    exact hb
  · have e : some l = some l' := e
    injection e with e; subst e; exact ⟨hl,by simp [hlF],fun u hu => by simp [hvF u hu]⟩
  · have e : some (Dm.new x.thread l.victims) = some q := e
    injection e with e; subst e; exact ⟨hd,by simp,by simp [vblk,Value.ownBlock]⟩
  · have h5 := hls u off eA
    exact ⟨by simp [hvF u h5],by simp [vblk,Value.ownBlock],ne_of (own_in hl.own u h5) hd.ty (by decide),ne_of (own_in hl.own u h5) hb.tyOf (by decide)⟩
  · have h : (if l.victims = [] then Stg.write 0 else Stg.doom) = Stg.write k := h
    split at h
    · injection h with h; subst h; rfl
    · cases h
  · have h : (if l.victims = [] then Stg.write 0 else Stg.doom) = .take ∨ (if l.victims = [] then Stg.write 0 else Stg.doom) = .own ∨ (if l.victims = [] then Stg.write 0 else Stg.doom) = .looking := h
    split at h <;> rcases h with h | h | h <;> cases h
  · have h : (if l.victims = [] then Stg.write 0 else Stg.doom) = .take ∨ (if l.victims = [] then Stg.write 0 else Stg.doom) = .own := h
    split at h <;> rcases h with h | h <;> cases h
theorem jw_d {sl ge th st nu a0 e0 : Int} {won : Bool} {wv vv dp : Value} {vs : List Vc} (hj : JW w0 w1 w' y jb b lb sl ge th st nu a0 won e0 wv vv dp c d vs) : JD w' jb c (decided c st d vs) := hj.1
theorem jw_b {sl ge th st nu a0 e0 : Int} {won : Bool} {wv vv dp : Value} {vs : List Vc} (hj : JW w0 w1 w' y jb b lb sl ge th st nu a0 won e0 wv vv dp c d vs) : tyOf w' b = some 167 := by
 obtain ⟨_,_,sg,e1,dpv,hb,_⟩ := hj
 exact hb.tyOf
theorem cd_take (hT : Tri w0 w y G n jb b x F c d S) (hf : Fit k S) (hk : k ≤ 1099511627776) (hs : x.st = .take) :
 Calls Tryz.prog 18 #[PT b] w fun e w' => e = .returned (.int .i64 (x.step S d).1) ∧ CdWent w0 w w' y G n jb b F c (x.step S d).2.2.1 (x.step S d).2.2.2 (x.step S d).2.1 := by
 obtain ⟨lb,vv,db,A,cc,L,dv,wv,at_,hx⟩ := hT.cd
 have hb := hx.blk
 unfold cdv at hb
 rw [hs] at hb
 have ha := hx.at0 (.inl hs)
 have hd := hx.ndm (.inl hs)
 have hl := hx.nlk (.inl hs)
 refine (step_take ((hb.cell 7).trans rfl) (take_walk hT.rp hf hk hb (hT.off b hx.bF) (hT.low b hx.bF))).mono fun e w' ⟨he,h1⟩ => ?_
 by_cases hz : (S.take x.thread).1.2 = 0
 · have e1 : x.step S d = (1,{ x with number := (S.take x.thread).1.1,st := .own },(S.take x.thread).2,d) := by
    unfold Cm.step; rw [hs]; unfold Cm.take_; rw [if_pos hz]
   rw [e1]
   rw [if_pos hz] at he h1
   exact ⟨he,hT.cw hx (at' := at_) h1 rfl rfl rfl (fun _ => ha) (fun k h => by cases h) (fun _ => hd) (fun _ => hl)⟩
 · have e1 : x.step S d = (2,{ x with st := .take },(S.take x.thread).2,d) := by
    unfold Cm.step; rw [hs]; unfold Cm.take_; rw [if_neg hz]
   rw [e1]
   rw [if_neg hz] at he h1
   exact ⟨he,hT.cw hx (at' := at_) h1 rfl rfl rfl (fun _ => ha) (fun k h => by cases h) (fun _ => hd) (fun _ => hl)⟩
theorem cd_giveUp (hT : Tri w0 w y G n jb b x F c d S) (hf : Fit k S) (hk : k ≤ 1099511627776) (hs : x.st = .giveUp) :
 Calls Tryz.prog 18 #[PT b] w fun e w' => e = .returned (.int .i64 (x.step S d).1) ∧ CdWent w0 w w' y G n jb b F c (x.step S d).2.2.1 (x.step S d).2.2.2 (x.step S d).2.1 := by
 obtain ⟨lb,vv,db,A,cc,L,dv,wv,at_,hx⟩ := hT.cd
 have hb := hx.blk
 unfold cdv at hb
 rw [hs] at hb
 have e1 : x.step S d = (if x.e = 9 then 2 else 1,x.at_ .free,(S.give x.thread).2,d) := by unfold Cm.step; rw [hs]
 rw [e1]
 refine (step_giveUp ((hb.cell 7).trans rfl) (giveUp_walk hT.rp hf hk hb (hT.off b hx.bF) (hT.low b hx.bF))).mono fun e w' ⟨he,h1⟩ => ⟨he,?_⟩
 exact hT.cw hx (at' := at_) h1 rfl rfl rfl (fun h => by rcases h with h | h | h | h <;> cases h) (fun k h => by cases h) (fun h => by rcases h with h | h | h <;> cases h) (fun h => by rcases h with h | h <;> cases h)
theorem cd_give (hT : Tri w0 w y G n jb b x F c d S) (hf : Fit k S) (hk : k ≤ 1099511627776) (hs : x.st = .give) :
 Calls Tryz.prog 18 #[PT b] w fun e w' => e = .returned (.int .i64 (x.step S d).1) ∧ CdWent w0 w w' y G n jb b F c (x.step S d).2.2.1 (x.step S d).2.2.2 (x.step S d).2.1 := by
 obtain ⟨lb,vv,db,A,cc,L,dv,wv,at_,hx⟩ := hT.cd
 have hb := hx.blk
 unfold cdv at hb
 rw [hs] at hb
 have e1 : x.step S d = (1,{ x with won := true,st := .free },(S.give x.thread).2,d) := by unfold Cm.step; rw [hs]
 rw [e1]
 refine (give_walk hT.rp hf hk hb (hT.off b hx.bF) (hT.low b hx.bF)).mono fun e w' ⟨he,h1⟩ => ⟨he,?_⟩
 exact hT.cw hx (at' := at_) h1 rfl rfl rfl (fun h => by rcases h with h | h | h | h <;> cases h) (fun k h => by cases h) (fun h => by rcases h with h | h | h <;> cases h) (fun h => by rcases h with h | h <;> cases h)
theorem cd_free (hT : Tri w0 w y G n jb b x F c d S) (hf : Fit k S) (hk : k ≤ 1099511627776) (hs : x.st = .free) :
 Calls Tryz.prog 18 #[PT b] w fun e w' => e = .returned (.int .i64 (x.step S d).1) ∧ CdWent w0 w w' y G n jb b F c (x.step S d).2.2.1 (x.step S d).2.2.2 (x.step S d).2.1 := by
 obtain ⟨lb,vv,db,A,cc,L,dv,wv,at_,hx⟩ := hT.cd
 have hb := hx.blk
 unfold cdv at hb
 rw [hs] at hb
 have e1 : x.step S d = (1,x.at_ .over,(S.free x.slot x.gen).2,d) := by unfold Cm.step; rw [hs]
 rw [e1]
 refine (free_walk hT.rp hf hk hb (hT.off b hx.bF) (hT.low b hx.bF)).mono fun e w' ⟨he,h1⟩ => ⟨he,?_⟩
 exact hT.cw hx (at' := at_) h1 rfl rfl rfl (fun h => by rcases h with h | h | h | h <;> cases h) (fun k h => by cases h) (fun h => by rcases h with h | h | h <;> cases h) (fun h => by rcases h with h | h <;> cases h)
theorem cd_write (hT : Tri w0 w y G n jb b x F c d S) (hf : Fit k S) (hk : k ≤ 1099511627776) (ho : x.Ok n) {i : Nat} (hs : x.st = .write i) :
 Calls Tryz.prog 18 #[PT b] w fun e w' => e = .returned (.int .i64 (x.step S d).1) ∧ CdWent w0 w w' y G n jb b F c (x.step S d).2.2.1 (x.step S d).2.2.2 (x.step S d).2.1 := by
 obtain ⟨lb,vv,db,A,cc,L,dv,wv,at_,hx⟩ := hT.cd
 have hb := hx.blk
 unfold cdv at hb
 rw [hs,hx.atw i hs] at hb
 have hi := ho.at_write i hs
 have h16 := ho.w16
 obtain ⟨p,hp⟩ : ∃ p,x.ws[i]? = some p := ⟨_,List.getElem?_eq_getElem hi⟩
 obtain ⟨g,cw,rfl,hw⟩ := hx.ws
 have e1 : x.step S d = (1,(x.write_ i p S).1,(x.write_ i p S).2,d) := by unfold Cm.step; rw [hs]; dsimp only; rw [hp]
 rw [e1]
 refine (step_write (ans := 0) ((hb.cell 7).trans rfl) (write_walk hT.rp hf hk hb (hT.off b hx.bF) (hT.low b hx.bF) hw (hT.off g (hx.wF g (by simp [vblk,Value.ownBlock]))) p hp hi (by omega))).mono fun e w' ⟨he,h1⟩ => ⟨he,?_⟩
 have es : (if i + 1 = x.ws.length then (6 : Int) else 5) = stn (if i + 1 < x.ws.length then Stg.write (i + 1) else Stg.give) := by
  by_cases h5 : i + 1 = x.ws.length
  · rw [if_pos h5,if_neg (by omega)]; rfl
  · rw [if_neg h5,if_pos (by omega)]; rfl
 rw [es] at h1
 refine hT.cw hx (x' := (x.write_ i p S).1) (at' := (i : Int) + 1) h1 rfl rfl rfl (fun h => ?_) (fun k h => ?_) (fun h => ?_) (fun h => ?_)
 · have h : (if i + 1 < x.ws.length then Stg.write (i + 1) else Stg.give) = .take ∨ (if i + 1 < x.ws.length then Stg.write (i + 1) else Stg.give) = .own ∨ (if i + 1 < x.ws.length then Stg.write (i + 1) else Stg.give) = .looking ∨ (if i + 1 < x.ws.length then Stg.write (i + 1) else Stg.give) = .doom := h
   split at h <;> rcases h with h | h | h | h <;> cases h
 · have h : (if i + 1 < x.ws.length then Stg.write (i + 1) else Stg.give) = .write k := h
   split at h
   · injection h with h; subst h; simp
   · cases h
 · have h : (if i + 1 < x.ws.length then Stg.write (i + 1) else Stg.give) = .take ∨ (if i + 1 < x.ws.length then Stg.write (i + 1) else Stg.give) = .own ∨ (if i + 1 < x.ws.length then Stg.write (i + 1) else Stg.give) = .looking := h
   split at h <;> rcases h with h | h | h <;> cases h
 · have h : (if i + 1 < x.ws.length then Stg.write (i + 1) else Stg.give) = .take ∨ (if i + 1 < x.ws.length then Stg.write (i + 1) else Stg.give) = .own := h
   split at h <;> rcases h with h | h <;> cases h
theorem cd_over (hT : Tri w0 w y G n jb b x F c d S) (hs : x.st = .over) :
 Calls Tryz.prog 18 #[PT b] w fun e w' => e = .returned (.int .i64 (x.step S d).1) ∧ CdWent w0 w w' y G n jb b F c (x.step S d).2.2.1 (x.step S d).2.2.2 (x.step S d).2.1 := by
 obtain ⟨lb,vv,db,A,cc,L,dv,wv,at_,hx⟩ := hT.cd
 have hb := hx.blk
 unfold cdv at hb
 rw [hs] at hb
 have e1 : x.step S d = (3,x,S,d) := by unfold Cm.step; rw [hs]
 rw [e1]
 exact (step_over ((hb.cell 7).trans rfl)).mono fun e w' ⟨he,h1⟩ => ⟨he,G,F,hT.rp.calm h1,Blk.keeps hT.jd h1 (by simp),hT.cd.keeps h1 (by simp),h1.mono (by simp),fun z hz => .inl hz,fun z hz => hz,fun z hz => .inl hz,tyF hT.ty h1 (by simp)⟩
theorem cd_doom (hT : Tri w0 w y G n jb b x F c d S) (hf : Fit k S) (hk : k ≤ 1099511627776) (ho : x.Ok n) (hs : x.st = .doom) :
 Calls Tryz.prog 18 #[PT b] w fun e w' => e = .returned (.int .i64 (x.step S d).1) ∧ CdWent w0 w w' y G n jb b F c (x.step S d).2.2.1 (x.step S d).2.2.2 (x.step S d).2.1 := by
 obtain ⟨q,hq⟩ := ho.at_doom hs
 obtain ⟨lb,vv,db,A,cc,L,dv,wv,at_,hx⟩ := hT.cd
 have hb := hx.blk
 unfold cdv at hb
 rw [hs,hq] at hb
 have ha := hx.at0 (.inr (.inr (.inr hs)))
 obtain ⟨hd,hdF,hvF⟩ := hx.dm q hq
 have e1 : x.step S d = (1,(x.doom_ q S).1,(x.doom_ q S).2,d) := by unfold Cm.step; rw [hs]; dsimp only; rw [hq]
 rw [e1]
 have hq8 := ho.dm q hq
 refine (step_doom hT.rp hf hk hb (hT.off b hx.bF) (hT.low b hx.bF) hd (hT.off db hdF) (hT.low db hdF) (fun u hu => ⟨hT.low u (hvF u hu),hT.off u (hvF u hu)⟩) (fun h0 u off e => ?_) (by omega)).mono fun e w' ⟨he,G',dv',h1,h2,h3,h4,h5,h6,h7⟩ => ⟨he,?_⟩
 · obtain ⟨p1,p2,p3,p4⟩ := hx.ls q hq h0 u off e
   exact ⟨hT.off u p1,p3,p2,p4⟩
 have hdt := hd.ty
 have hdv := own_in hd.own
 have hbt := hx.blk.tyOf
 have hX : ∀ u,u ∈ F → u ≠ b → u ≠ db → u ∉ vblk dv → u ∉ b :: db :: (vblk dv ++ G) := fun u hu n1 n2 n3 hh => by
  simp only [List.mem_cons,List.mem_append] at hh
  rcases hh with hh | hh | hh | hh
  · exact n1 hh
  · exact n2 hh
  · exact n3 hh
  · exact hT.off u hu hh
 have hjX : jb ∉ b :: db :: (vblk dv ++ G) := fun hh => by
  simp only [List.mem_cons,List.mem_append] at hh
  rcases hh with hh | hh | hh | hh
  · exact hT.jF (hh ▸ hx.bF)
  · exact hT.jF (hh ▸ hdF)
  · exact hT.jF (hvF _ hh)
  · exact hT.jG hh
 refine ⟨G',F ++ vblk dv',h1,Blk.keeps hT.jd h4 hjX,⟨lb,vv,db,A,cc,L,dv',wv,0,?_,?_,fun l e => ?_,fun q' e => ?_,fun q' e h0 u off eA => ?_,fun l q' e e' u hu hud => ?_,by simp [hx.bF],fun u hu => by simp [hx.wF u hu],fun _ => rfl,fun k h => ?_,fun h => ?_,fun h => ?_⟩,h4.mono (fun z hz => .inl ?_),h5,fun z hz => by simp [hz],fun z hz => ?_,fun z hz => ?_⟩
 · have es : (if (q.step S).2.1.left = [] then (5 : Int) else 4) = stn (x.doom_ q S).1.st := by
    show _ = stn (if (q.step S).2.1.left = [] then Stg.write 0 else Stg.doom)
    split <;> rfl
   rw [es,ha] at h7
   exact h7
 · obtain ⟨g,cw,e,hw⟩ := hx.ws
   exact ⟨g,cw,e,own_keeps hw h4 (fun u hu => hX u (hx.wF u (by simp [vblk,hu])) (ne_of (hx.pairs u (by simp [vblk,hu])) hbt (by decide)) (ne_of (hx.pairs u (by simp [vblk,hu])) hdt (by decide)) (fun hh => ne_of (hx.pairs u (by simp [vblk,hu])) (hdv u hh) (by decide) rfl))⟩
 · obtain ⟨p1,p2,p3⟩ := hx.lk l e
   refine ⟨p1.keeps h4 (hX lb p2 (ne_of p1.ty hbt (by decide)) (ne_of p1.ty hdt (by decide)) (fun hh => ne_of p1.ty (hdv _ hh) (by decide) rfl)) (fun u hu => ?_),by simp [p2],fun u hu => by simp [p3 u hu]⟩
   have hu' : u ∈ vblk vv := by simp [vblk,hu]
   exact hX u (p3 u hu') (ne_of (own_in p1.own u hu') hbt (by decide)) (ne_of (own_in p1.own u hu') hdt (by decide)) (fun hh => hx.two l q e hq u hu' hh)
 · have e : some (q.step S).2.1 = some q' := e
   injection e with e
   subst e
   exact ⟨h2,by simp [hdF],fun u hu => by simp [hu]⟩
 · obtain ⟨p1,p2,p3,p4⟩ := hx.ls q hq h0 u off eA
   refine ⟨by simp [p1],fun hu => ?_,p3,p4⟩
   rcases h6 u hu with h8 | ⟨h8,_⟩
   · exact p2 h8
   · have := hd.lst.lt h0 eA; omega
 · rcases h6 u hud with h8 | ⟨h8,_⟩
   · exact hx.two l q e hq u hu h8
   · obtain ⟨p1,p2,p3⟩ := hx.lk l e
     have := tyOf_lt (own_in p1.own u hu); omega
 · have h : (if (q.step S).2.1.left = [] then Stg.write 0 else Stg.doom) = .write k := h
   split at h
   · injection h with h; subst h; rfl
   · cases h
 · have h : (if (q.step S).2.1.left = [] then Stg.write 0 else Stg.doom) = .take ∨ (if (q.step S).2.1.left = [] then Stg.write 0 else Stg.doom) = .own ∨ (if (q.step S).2.1.left = [] then Stg.write 0 else Stg.doom) = .looking := h
   split at h <;> rcases h with h | h | h <;> cases h
 · have h : (if (q.step S).2.1.left = [] then Stg.write 0 else Stg.doom) = .take ∨ (if (q.step S).2.1.left = [] then Stg.write 0 else Stg.doom) = .own := h
   split at h <;> rcases h with h | h <;> cases h
 · simp only [List.mem_cons,List.mem_append] at hz
   rcases hz with hz | hz | hz | hz
   · subst hz; simp [hx.bF]
   · subst hz; simp [hdF]
   · simp [hvF z hz]
   · simp [hz]
 · rw [List.mem_append] at hz
   rcases hz with hz | hz
   · exact .inl hz
   · exact (h6 z hz).imp (hvF z) id
 ·
  rw [List.mem_append] at hz
  rcases hz with hz | hz
  · refine tyF hT.ty h4 (fun u hu hux => ?_) z hz
    simp only [List.mem_cons,List.mem_append] at hux
    rcases hux with hh | hh | hh | hh
    · subst hh; exact ⟨_,h7.tyOf,by decide⟩
    · subst hh; exact ⟨_,h2.ty,by decide⟩
    · exact ⟨_,(h3 u (by simpa [vblk] using hh)).1,by decide⟩
    · exact absurd hh (hT.off u hu)
  · exact ⟨_,own_in h2.own z hz,by decide⟩
theorem H_len (hf : Fit k S) (hn : S.c.slots = (n : Int)) : S.H.length = n := by have h1 := hf.slots; omega
theorem cd_look (hT : Tri w0 w y G n jb b x F c d S) (hf : Fit k S) (hk : k ≤ 1099511627776) (hcc : S.c = c) (hu : S.wu) (hn : S.c.slots = (n : Int)) (hd0 : 0 ≤ d) (hd1 : d ≤ 64) (ho : x.Ok n) (hs : x.st = .looking) :
 Calls Tryz.prog 18 #[PT b] w fun e w' => e = .returned (.int .i64 (x.step S d).1) ∧ CdWent w0 w w' y G n jb b F c (x.step S d).2.2.1 (x.step S d).2.2.2 (x.step S d).2.1 := by
 obtain ⟨l,hq⟩ := ho.at_look hs
 obtain ⟨lb,vv,db,A,cc,L,dv,wv,at_,hx⟩ := hT.cd
 have hdm := hx.ndm (.inr (.inr hs))
 have ha := hx.at0 (.inr (.inr (.inl hs)))
 have hb := hx.blk
 unfold cdv at hb
 rw [hs,hq,hdm,ha] at hb
 obtain ⟨hl,hlF,hvF⟩ := hx.lk l hq
 have e1 : x.step S d = (1,(x.look_ l S d).1,(x.look_ l S d).2.1,(x.look_ l S d).2.2) := by unfold Cm.step; rw [hs]; dsimp only; rw [hq]
 rw [e1]
 have hin := ho.lk l hq
 refine (step_look hT.rp hf hk hu hn (hcc ▸ hf.c) hb (hT.off b hx.bF) (hT.low b hx.bF) hl (hT.off lb hlF) (hT.low lb hlF) (fun u hu => ⟨hT.low u (hvF u hu),hT.off u (hvF u hu)⟩) hin ho.n8 hT.jd hT.jG hT.jlow hd0 hd1 ⟨ho.t1,ho.t8⟩).mono fun e w' ⟨he,G',vv',h1,h2,h3,h4,h5,h6,h7⟩ => ⟨he,?_⟩
 have hlt := hl.ty
 have hvt := own_in hl.own
 have hbt := hx.blk.tyOf
 have hX : ∀ u,u ∈ F → u ≠ b → u ≠ lb → u ∉ vblk vv → u ∉ b :: jb :: lb :: (vblk vv ++ G) := fun u hu n1 n2 n3 hh => by
  simp only [List.mem_cons,List.mem_append] at hh
  rcases hh with hh | hh | hh | hh | hh
  · exact n1 hh
  · exact hT.jF (hh ▸ hu)
  · exact n2 hh
  · exact n3 hh
  · exact hT.off u hu hh
 have hws : ∃ g cw,wv = .slice (some ⟨g,0,none⟩) x.ws.length cw ∧ w'.ownsRow 0 81 2 wv x.ws.length (prCells x.ws) := by
  obtain ⟨g,cw,e,hw⟩ := hx.ws
  exact ⟨g,cw,e,own_keeps hw h4 (fun u hu => hX u (hx.wF u (by simp [vblk,hu])) (ne_of (hx.pairs u (by simp [vblk,hu])) hbt (by decide)) (ne_of (hx.pairs u (by simp [vblk,hu])) hlt (by decide)) (fun hh => ne_of (hx.pairs u (by simp [vblk,hu])) (hvt u hh) (by decide) rfl))⟩
 have hkk : Keeps (jb :: (F ++ G)) w w' := h4.mono (fun z hz => .inl (by
  simp only [List.mem_cons,List.mem_append] at hz
  rcases hz with hz | hz | hz | hz | hz
  · subst hz; simp [hx.bF]
  · simp [hz]
  · subst hz; simp [hlF]
  · simp [hvF z hz]
  · simp [hz]))
 have hty : ∀ hbt' : tyOf w' b = some 167,∀ z,z ∈ F ++ vblk vv' → ∃ t,tyOf w' z = some t ∧ t ∉ fixT := fun hbt' z hz => by
  rw [List.mem_append] at hz
  rcases hz with hz | hz
  ·
   refine tyF hT.ty h4 (fun u hu hux => ?_) z hz
   simp only [List.mem_cons,List.mem_append] at hux
   rcases hux with hh | hh | hh | hh | hh
   · subst hh; exact ⟨_,hbt',by decide⟩
   · exact absurd (hh ▸ hu) hT.jF
   · subst hh; exact ⟨_,h2.ty,by decide⟩
   · exact ⟨_,(h3 u (by simpa [vblk] using hh)).1,by decide⟩
   · exact absurd hh (hT.off u hu)
  · exact ⟨_,own_in h2.own z hz,by decide⟩
 have hnew : ∀ z,z ∈ F ++ vblk vv' → z ∈ F ∨ w.heap.size ≤ z ∧ z ∉ G' := fun z hz => by
  rw [List.mem_append] at hz
  rcases hz with hz | hz
  · exact .inl hz
  · exact (h6 z hz).imp (hvF z) id
 rcases h7 with ⟨ht,h8,h9⟩ | ⟨ht,w1,hz1,hj⟩
 ·
  have e2 : x.look_ l S d = ({ x with lk := some (l.step S).2.1,st := .looking },(l.step S).2.2,d) := by unfold Cm.look_ Cm.behind; rw [if_neg ht]
  rw [e2]
  refine ⟨G',F ++ vblk vv',h1,h9,⟨lb,vv',0,none,0,[],.slice none 0 0,wv,0,?_,hws,fun l' e => ?_,fun q e => ?_,fun q e => ?_,fun l' q e e' => ?_,by simp [hx.bF],fun u hu => by simp [hx.wF u hu],fun _ => rfl,fun k h => (by cases h),fun _ => hdm,fun h => (by rcases h with h | h <;> cases h)⟩,hkk,h5,fun z hz => by simp [hz],hnew,hty h8.tyOf⟩
  · unfold cdv
    dsimp only
    rw [hdm]
    exact h8
  · have e : some (l.step S).2.1 = some l' := e
    injection e with e
    subst e
    exact ⟨h2,by simp [hlF],fun u hu => by simp [hu]⟩
  · have e : x.dm = some q := e
    rw [hdm] at e; cases e
  · have e : x.dm = some q := e
    rw [hdm] at e; cases e
  · have e' : x.dm = some q := e'
    rw [hdm] at e'; cases e'
 ·
  have e2 : x.look_ l S d = (Cm.judged { x with lk := some (l.step S).2.1 } c d (l.step S).2.1.victims,(l.step S).2.2,decided c x.stamp d (l.step S).2.1.victims) := by unfold Cm.look_ Cm.behind; rw [if_pos ht,hcc]
  rw [e2]
  obtain ⟨F2,hcd,hF2⟩ := jw_x (F := F ++ vblk vv') hws h2 (by simp [hlF]) (fun u hu => by simp [hu]) (by simp [hx.bF]) (fun u hu => by simp [hx.wF u hu]) hdm hj
  refine ⟨G',(F ++ vblk vv') ++ F2,h1,jw_d hj,hcd,hkk,h5,fun z hz => by simp [hz],fun z hz => ?_,fun z hz => ?_⟩
  · rw [List.mem_append] at hz
    rcases hz with hz | hz
    · exact hnew z hz
    · obtain ⟨p1,p2⟩ := hF2 z hz
      exact .inr ⟨by omega,rp_noty h1 p2 (by decide)⟩
  · rw [List.mem_append] at hz
    rcases hz with hz | hz
    · exact hty (jw_b hj) z hz
    · exact ⟨_,(hF2 z hz).2,by decide⟩
theorem cd_own (hT : Tri w0 w y G n jb b x F c d S) (hf : Fit k S) (hk : k ≤ 1099511627776) (hcc : S.c = c) (hn : S.c.slots = (n : Int)) (hd0 : 0 ≤ d) (hd1 : d ≤ 64) (ho : x.Ok n) (hs : x.st = .own) :
 Calls Tryz.prog 18 #[PT b] w fun e w' => e = .returned (.int .i64 (x.step S d).1) ∧ CdWent w0 w w' y G n jb b F c (x.step S d).2.2.1 (x.step S d).2.2.2 (x.step S d).2.1 := by
 obtain ⟨lb0,vv,db,A,cc,L,dv,wv,at_,hx⟩ := hT.cd
 have hdm := hx.ndm (.inr (.inl hs))
 have hlk := hx.nlk (.inr hs)
 have ha := hx.at0 (.inr (.inl hs))
 have hb := hx.blk
 unfold cdv at hb
 rw [hs,hlk,hdm,ha] at hb
 obtain ⟨g,cw,rfl,hw⟩ := hx.ws
 have hgF : g ∈ F := hx.wF g (by simp [vblk,Value.ownBlock])
 have e1 : x.step S d = (1,(x.own_ S d).1,(x.own_ S d).2.1,(x.own_ S d).2.2) := by unfold Cm.step; rw [hs]
 rw [e1]
 have hH := H_len hf hn
 refine (step_own (ans := 0) ((hb.cell 7).trans rfl) (own_walk hT.rp hf hk hn ho.n8 hcc (hcc ▸ hf.c) hb (hT.low b hx.bF) (hT.off b hx.bF) hw rfl ho.w16 (hT.off g hgF) hT.jd hT.jG hT.jlow hd0 hd1 ⟨ho.s0,ho.s1⟩ ⟨ho.t1,ho.t8⟩)).mono fun e w' ⟨he,G',h1,h2,h3,hcase⟩ => ⟨he,?_⟩
 have hbt := hx.blk.tyOf
 have hX : ∀ u,u ∈ F → u ≠ b → u ∉ b :: jb :: G := fun u hu n1 hh => by
  simp only [List.mem_cons] at hh
  rcases hh with hh | hh | hh
  · exact n1 hh
  · exact hT.jF (hh ▸ hu)
  · exact hT.off u hu hh
 have hws : ∃ g' cw',Value.slice (some ⟨g,0,none⟩) x.ws.length cw = .slice (some ⟨g',0,none⟩) x.ws.length cw' ∧ w'.ownsRow 0 81 2 (.slice (some ⟨g,0,none⟩) x.ws.length cw) x.ws.length (prCells x.ws) :=
  ⟨g,cw,rfl,own_keeps hw h2 (fun u hu => by simp [Value.ownBlock] at hu; subst hu; exact hX g hgF (ne_of (hx.pairs g (by simp [vblk,Value.ownBlock])) hbt (by decide)))⟩
 have hkk : Keeps (jb :: (F ++ G)) w w' := h2.mono (fun z hz => .inl (by
  simp only [List.mem_cons] at hz
  rcases hz with hz | hz | hz
  · subst hz; simp [hx.bF]
  · simp [hz]
  · simp [hz]))
 have hty : ∀ hbt' : tyOf w' b = some 167,∀ z,z ∈ F → ∃ t,tyOf w' z = some t ∧ t ∉ fixT := fun hbt' z hz => by
  refine tyF hT.ty h2 (fun u hu hux => ?_) z hz
  simp only [List.mem_cons] at hux
  rcases hux with hh | hh | hh
  · subst hh; exact ⟨_,hbt',by decide⟩
  · exact absurd (hh ▸ hu) hT.jF
  · exact absurd hh (hT.off u hu)
 rcases hcase with ⟨hl,h8,h9⟩ | ⟨hl,lb,h4,h5,h6,h7⟩
 ·
  have e2 : x.own_ S d = ({ x with e := 7,st := .giveUp },(S.look x.slot).2,d) := by unfold Cm.own_; rw [if_pos (by exact hl)]
  rw [e2]
  refine ⟨G',F,h1,h9,⟨0,.slice none 0 0,0,none,0,[],.slice none 0 0,.slice (some ⟨g,0,none⟩) x.ws.length cw,0,?_,hws,fun l' e => ?_,fun q e => ?_,fun q e => ?_,fun l' q e e' => ?_,hx.bF,hx.wF,fun h => ?_,fun k h => (by cases h),fun h => ?_,fun h => ?_⟩,hkk,h3,fun z hz => hz,fun z hz => .inl hz,hty h8.tyOf⟩
  · unfold cdv
    dsimp only
    rw [hlk,hdm]
    exact h8
  · have e : x.lk = some l' := e
    rw [hlk] at e; cases e
  · have e : x.dm = some q := e
    rw [hdm] at e; cases e
  · have e : x.dm = some q := e
    rw [hdm] at e; cases e
  · have e' : x.dm = some q := e'
    rw [hdm] at e'; cases e'
  · rfl
  · exact hdm
  · exact hlk
 ·
  have hwo : x.own_ S d = ((x.behind (Lk.new n x.slot (ofR c.bits (x.ws.map Pr.cell))) c d).1,(S.look x.slot).2,(x.behind (Lk.new n x.slot (ofR c.bits (x.ws.map Pr.cell))) c d).2) := by
   unfold Cm.own_ Cm.to; rw [if_neg (by exact hl),hH,hcc]
  rw [hwo]
  have hlt := h4.ty
  rcases h7 with ⟨ht,h8,h9⟩ | ⟨ht,w1,hz1,hj⟩
  ·
   have e2 : x.behind (Lk.new n x.slot (ofR c.bits (x.ws.map Pr.cell))) c d = ({ x with lk := some (Lk.new n x.slot (ofR c.bits (x.ws.map Pr.cell))),st := .looking },d) := by unfold Cm.behind; rw [if_neg ht]
   rw [e2]
   refine ⟨G',F ++ [lb],h1,h9,⟨lb,.slice none 0 0,0,none,0,[],.slice none 0 0,.slice (some ⟨g,0,none⟩) x.ws.length cw,0,?_,hws,fun l' e => ?_,fun q e => ?_,fun q e => ?_,fun l' q e e' => ?_,by simp [hx.bF],fun u hu => by simp [hx.wF u hu],fun _ => rfl,fun k h => (by cases h),fun _ => hdm,fun h => (by rcases h with h | h <;> cases h)⟩,hkk,h3,fun z hz => by simp [hz],fun z hz => ?_,fun z hz => ?_⟩
   · unfold cdv
     dsimp only
     rw [hdm]
     exact h8
   · have e : some (Lk.new n x.slot (ofR c.bits (x.ws.map Pr.cell))) = some l' := e
     injection e with e
     subst e
     exact ⟨h4,by simp,fun u hu => by simp [vblk,Value.ownBlock] at hu⟩
   · have e : x.dm = some q := e
     rw [hdm] at e; cases e
   · have e : x.dm = some q := e
     rw [hdm] at e; cases e
   · have e' : x.dm = some q := e'
     rw [hdm] at e'; cases e'
   · simp at hz
     rcases hz with hz | hz
     · exact .inl hz
     · subst hz; exact .inr ⟨h5,h6⟩
   · simp at hz
     rcases hz with hz | hz
     · exact hty h8.tyOf z hz
     · subst hz; exact ⟨_,hlt,by decide⟩
  ·
   have e2 : x.behind (Lk.new n x.slot (ofR c.bits (x.ws.map Pr.cell))) c d = (Cm.judged { x with lk := some (Lk.new n x.slot (ofR c.bits (x.ws.map Pr.cell))) } c d (Lk.new n x.slot (ofR c.bits (x.ws.map Pr.cell))).victims,decided c x.stamp d (Lk.new n x.slot (ofR c.bits (x.ws.map Pr.cell))).victims) := by unfold Cm.behind; rw [if_pos ht]
   rw [e2]
   obtain ⟨F2,hcd,hF2⟩ := jw_x (F := F ++ [lb]) (l := Lk.new n x.slot (ofR c.bits (x.ws.map Pr.cell))) hws h4 (by simp) (fun u hu => by simp [vblk,Value.ownBlock] at hu) (by simp [hx.bF]) (fun u hu => by simp [hx.wF u hu]) hdm hj
   refine ⟨G',(F ++ [lb]) ++ F2,h1,jw_d hj,hcd,hkk,h3,fun z hz => by simp [hz],fun z hz => ?_,fun z hz => ?_⟩
   · rw [List.mem_append,List.mem_append] at hz
     rcases hz with (hz | hz) | hz
     · exact .inl hz
     · simp at hz; subst hz; exact .inr ⟨h5,h6⟩
     · obtain ⟨p1,p2⟩ := hF2 z hz
       exact .inr ⟨by omega,rp_noty h1 p2 (by decide)⟩
   · rw [List.mem_append,List.mem_append] at hz
     rcases hz with (hz | hz) | hz
     · exact hty (jw_b hj) z hz
     · simp at hz; subst hz; exact ⟨_,hlt,by decide⟩
     · exact ⟨_,(hF2 z hz).2,by decide⟩
theorem cd_step (hT : Tri w0 w y G n jb b x F c d S) (hf : Fit k S) (hk : k ≤ 1099511627776) (hcc : S.c = c) (hu : S.wu) (hn : S.c.slots = (n : Int)) (hd0 : 0 ≤ d) (hd1 : d ≤ 64) (ho : x.Ok n) :
 Calls Tryz.prog 18 #[PT b] w fun e w' => e = .returned (.int .i64 (x.step S d).1) ∧ CdWent w0 w w' y G n jb b F c (x.step S d).2.2.1 (x.step S d).2.2.2 (x.step S d).2.1 := by
 cases hs : x.st with
 | take => exact cd_take hT hf hk hs
 | own => exact cd_own hT hf hk hcc hn hd0 hd1 ho hs
 | looking => exact cd_look hT hf hk hcc hu hn hd0 hd1 ho hs
 | doom => exact cd_doom hT hf hk ho hs
 | write i => exact cd_write hT hf hk ho hs
 | give => exact cd_give hT hf hk hs
 | giveUp => exact cd_giveUp hT hf hk hs
 | free => exact cd_free hT hf hk hs
 | over => exact cd_over hT hs
end
end Cd
end Go.Proofs.YtmlnedilbneekaaGreat