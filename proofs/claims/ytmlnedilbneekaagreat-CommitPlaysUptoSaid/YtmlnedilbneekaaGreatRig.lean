/- quashref12.Same of two lists that are the same; == of two slots, two victims that are the same. -/
import Derived.Test.YtmlnedilbneekaaGreatLookE
import Derived.Test.YtmlnedilbneekaaGreatSpF
import Derived.Deep.QuietTactic
import Derived.BigQuiet
import Derived.Test.YtmlnedilbneekaaGreatCdT
import Derived.Test.YtmlnedilbneekaaGreatCmStep
import Derived.Test.YtmlnedilbneekaaGreatRawF
import Derived.Test.YtmlnedilbneekaaGreatRpNew
set_option linter.unusedVariables false
set_option linter.unusedSimpArgs false
namespace Go.Proofs.YtmlnedilbneekaaGreat
open Go.RowKit
theorem vc_same (w : World) (a b c d : Int) : (Op.equalIn 10000 113 (.agg #[.int .i64 a,.int .i64 b,.int .i64 c,.int .i64 d]) (.agg #[.int .i64 a,.int .i64 b,.int .i64 c,.int .i64 d])).run Tryz.prog w = .ok true w := by
 simp [go_sem]
theorem vc_cells {w : World} {v : Value} {l : List Vc} {n : Nat} (h : w.ownsRow 0 113 4 v n (vcCells l)) (hn : l.length = n) (hp : 0 < n) : ∃ g c,v = .slice (some ⟨g,0,none⟩) n c ∧ g < w.heap.size ∧ ∀ (j : Nat) (x : Vc),l[j]? = some x → w.cell? ⟨g,j * 4,none⟩ = some (.int .i64 x.slot) ∧ w.cell? ⟨g,j * 4 + 1,none⟩ = some (.int .i64 x.gen) ∧ w.cell? ⟨g,j * 4 + 2,none⟩ = some (.int .i64 x.stamp) ∧ w.cell? ⟨g,j * 4 + 3,none⟩ = some (.int .i64 x.thread) := by
 obtain ⟨g,c,rfl,_,hl⟩ := h.form hp
 refine ⟨g,c,rfl,hl,fun j x hx => ?_⟩
 obtain ⟨h0,h1,h2,h3⟩ := vc_at l j x hx
 have hj := (List.getElem?_eq_some_iff.1 hx).1
 have hc : ∀ i u,(vcCells l)[i]? = some u → w.cell? ⟨g,i,none⟩ = some u := fun i u hu => by
  have hi := (List.getElem?_eq_some_iff.1 hu).1
  rw [vcCells_len] at hi
  exact (h.cellAt i (by omega)).trans hu
 exact ⟨hc _ _ h0,hc _ _ h1,hc _ _ h2,hc _ _ h3⟩
set_option maxRecDepth 100000 in
set_option maxHeartbeats 4000000 in
theorem vc_same_yes (w : World) (v1 v2 : Value) (l : List Vc) (n : Nat) (hn : l.length = n) (hb : n ≤ 1099511627776) (h1 : w.ownsRow 0 113 4 v1 n (vcCells l)) (h2 : w.ownsRow 0 113 4 v2 n (vcCells l)) :
 Calls Tryz.prog 54 #[v1,v2] w fun e w' => e = .returned (.bool true) ∧ Keeps [] w w' := by
 obtain ⟨A1,c1,rfl⟩ := own_form h1
 obtain ⟨A2,c2,rfl⟩ := own_form h2
 have H1 := Lib.hid h1
 have H2 := Lib.hid h2
 have HN := Lib.hid hn
 have HB := Lib.hid hb
 clear h1 h2 hn hb
 go_enter Tryz.func54,Tryz.ntmps54
 go_wp2_with fail
 go_loopw [5] (fun i wr => ∃ j : Nat,j ≤ n ∧ i = .int .i64 j ∧ Keeps [] w wr) (fun i _ => n - (intOf i).toNat)
 case atStart => exact ⟨0,Nat.zero_le _,rfl,Keeps.refl _ _⟩
 case round =>
  obtain ⟨j,hj,rfl,hk⟩ := hrel
  have HK := Lib.hid hk
  clear hk
  by_cases hlt : (j : Int) < (n : Int)
  ·
   have q0 : (0 : Int) ≤ (j : Int) := by omega
   obtain ⟨x,hx⟩ : ∃ x,l[j]? = some x := ⟨_,List.getElem?_eq_getElem (by have := HN.out; omega)⟩
   obtain ⟨g1,d1,e1,_,k1⟩ := vc_cells (own_keeps H1.out HK.out (by simp)) HN.out (by omega)
   obtain ⟨g2,d2,e2,_,k2⟩ := vc_cells (own_keeps H2.out HK.out (by simp)) HN.out (by omega)
   injection e1 with e1 _ e1'
   injection e2 with e2 _ e2'
   subst e1 e1' e2 e2'
   obtain ⟨p0,p1,p2,p3⟩ := k1 j x hx
   obtain ⟨r0,r1,r2,r3⟩ := k2 j x hx
   have hv := fun w => vc_same w x.slot x.gen x.stamp x.thread
   have hw : IntKind.i64.wrap ((j : Int) + 1) = (j : Int) + 1 := by have := HB.out; rw [IntKind.wrap_i64]; omega
   clear k1 k2 hx
   go_wp2_with fail
   go_quiet (fail)
   go_wp2_with fail
   exact ⟨⟨j + 1,by omega,by simp,by first | exact HK.out.drew | exact HK.out.drewN _⟩,by simp [intOf]; omega⟩
  · go_wp2_with fail
    go_ret
    exact ⟨rfl,HK.out⟩
open Go.RowKit Pol
namespace Cd
open Ld Rj
section
variable {w w' w0 : World} {y : Rb} {F H : List Nat} {n jb b cb dp : Nat} {x : Cm} {z : Sb}
theorem stn_over (s : Stg) : (stn s == 9) = decide (s = .over) := by cases s <;> rfl
theorem cd_done (h : CD w y n jb b x F) : Calls Tryz.prog 91 #[PT b] w fun e w' => e = .returned (.bool x.done) ∧ Keeps [] w w' := by
 obtain ⟨lb,vv,db,A,cc,L,dv,wv,at_,hx⟩ := h
 have m7 : w.cell? ⟨b,7,none⟩ = some (.int .i64 (stn x.st)) := (hx.blk.cell 7).trans rfl
 have e1 : (stn x.st == 9) = x.done := by unfold Cm.done; exact stn_over _
 rw [← e1]
 generalize stn x.st = s at *
 clear hx e1
 go_enter Tryz.func91,Tryz.ntmps91
 go_wp2_with fail
 go_ret
 exact ⟨by simp,by simp⟩
theorem cd_end (h : CD w y n jb b x F) : Calls Tryz.prog 92 #[PT b] w fun e w' => e = .returned (.int .i64 x.end_) ∧ Keeps [] w w' := by
 obtain ⟨lb,vv,db,A,cc,L,dv,wv,at_,hx⟩ := h
 have m7 : w.cell? ⟨b,7,none⟩ = some (.int .i64 (stn x.st)) := (hx.blk.cell 7).trans rfl
 have m12 : w.cell? ⟨b,12,none⟩ = some (.int .i64 x.e) := (hx.blk.cell 12).trans rfl
 unfold Cm.end_
 by_cases hs : x.st = .over
 ·
  have e1 : (stn x.st != 9) = false := by rw [hs]; rfl
  rw [if_pos hs]
  generalize stn x.st = s at *
  clear hx hs
  go_enter Tryz.func92,Tryz.ntmps92
  go_wp2_with fail
  go_ret
  exact ⟨rfl,by simp⟩
 ·
  have e1 : (stn x.st != 9) = true := by
   cases h5 : x.st <;> first | rfl | exact absurd h5 hs
  rw [if_neg hs]
  generalize stn x.st = s at *
  clear hx hs
  go_enter Tryz.func92,Tryz.ntmps92
  go_wp2_with fail
  go_ret
  exact ⟨rfl,by simp⟩
theorem cd_victims (h : CD w y n jb b x F) : Calls Tryz.prog 94 #[PT b] w fun e w' => (∃ v,e = .returned v ∧ w.ownsRow 0 113 4 v x.victims.length (vcCells x.victims)) ∧ Keeps [] w w' := by
 obtain ⟨lb,vv,db,A,cc,L,dv,wv,at_,hx⟩ := h
 have m9 : w.cell? ⟨b,9,none⟩ = some (lpv lb x.lk) := (hx.blk.cell 9).trans rfl
 unfold Cm.victims
 cases hl : x.lk with
 | none =>
   rw [hl] at m9
   have m9' : w.cell? ⟨b,9,none⟩ = some (.pointer none) := m9
   clear hx m9 hl
   go_enter Tryz.func94,Tryz.ntmps94
   go_wp2_with fail
   go_ret
   exact ⟨⟨_,rfl,World.ownsRow_nil _ _ _ _⟩,by simp⟩
 | some l =>
   rw [hl] at m9
   have m9' : w.cell? ⟨b,9,none⟩ = some (PT lb) := m9
   obtain ⟨h1,_,_⟩ := hx.lk l hl
   have m14 := at14 h1
   have HO := Lib.hid h1.own
   clear hx m9 hl h1
   go_enter Tryz.func94,Tryz.ntmps94
   go_wp2_with fail
   go_ret
   exact ⟨⟨_,rfl,HO.out⟩,by simp⟩
theorem cd_won (h : CD w y n jb b x F) : w.cell? ⟨b,13,none⟩ = some (.bool x.won) ∧ w.cell? ⟨b,8,none⟩ = some (.int .i64 x.number) := by
 obtain ⟨lb,vv,db,A,cc,L,dv,wv,at_,hx⟩ := h
 exact ⟨(hx.blk.cell 13).trans rfl,(hx.blk.cell 8).trans rfl⟩
set_option maxRecDepth 100000 in
set_option maxHeartbeats 4000000 in
theorem told_yes (hc : CmN w0 w z H jb cb F dp (stgVal dp x.st) x) {F2 : List Nat} {kb : Nat} (hd : CD w y n kb b x F2) (hl : x.victims.length ≤ 1099511627776) :
 Calls Tryz.prog 22 #[PT cb,PT b] w fun e w' => e = .returned (.bool true) ∧ Keeps [] w w' := by
 have Q1 : Hid (∀ w',Keeps [] w w' → Calls Tryz.prog 63 #[PT cb] w' fun e w'' => e = .returned (.bool x.done) ∧ Keeps [] w w'') := fun w' hk => (cm_done (hc.calm hk)).mono fun e w'' ⟨he,h2⟩ => ⟨he,h2 ▸ hk⟩
 have Q2 : Hid (∀ w',Keeps [] w w' → Calls Tryz.prog 62 #[PT cb] w' fun e w'' => e = .returned (.int .i64 x.end_) ∧ Keeps [] w w'') := fun w' hk => (cm_end (hc.calm hk)).mono fun e w'' ⟨he,h2⟩ => ⟨he,h2 ▸ hk⟩
 have Q3 : Hid (∀ w',Keeps [] w w' → Calls Tryz.prog 64 #[PT cb] w' fun e w'' => e = .returned (.bool x.won) ∧ Keeps [] w w'') := fun w' hk => (cm_won (hc.calm hk)).mono fun e w'' ⟨he,h2⟩ => ⟨he,h2 ▸ hk⟩
 have Q4 : Hid (∀ w',Keeps [] w w' → Calls Tryz.prog 65 #[PT cb] w' fun e w'' => e = .returned (.int .i64 x.number) ∧ Keeps [] w w'') := fun w' hk => (cm_number (hc.calm hk)).mono fun e w'' ⟨he,h2⟩ => ⟨he,h2 ▸ hk⟩
 have Q5 : Hid (∀ w',Keeps [] w w' → Calls Tryz.prog 91 #[PT b] w' fun e w'' => e = .returned (.bool x.done) ∧ Keeps [] w w'') := fun w' hk => (cd_done (hd.keeps hk (by simp))).mono fun e w'' ⟨he,h2⟩ => ⟨he,hk.trans h2 (by simp)⟩
 have Q6 : Hid (∀ w',Keeps [] w w' → Calls Tryz.prog 92 #[PT b] w' fun e w'' => e = .returned (.int .i64 x.end_) ∧ Keeps [] w w'') := fun w' hk => (cd_end (hd.keeps hk (by simp))).mono fun e w'' ⟨he,h2⟩ => ⟨he,hk.trans h2 (by simp)⟩
 have Q7 : Hid (∀ w',Keeps [] w w' → Calls Tryz.prog 93 #[PT cb] w' fun e w'' => (∃ v,e = .returned v ∧ w''.ownsRow 0 113 4 v x.victims.length (vcCells x.victims)) ∧ Keeps [] w w'') := fun w' hk => (cm_victims (hc.calm hk) hl).mono fun e w'' ⟨v,he,h2,h3,_⟩ => ⟨⟨v,he,h2⟩,hk.trans h3 (by simp)⟩
 have Q8 : Hid (∀ w',Keeps [] w w' → Calls Tryz.prog 94 #[PT b] w' fun e w'' => (∃ v,e = .returned v ∧ w''.ownsRow 0 113 4 v x.victims.length (vcCells x.victims)) ∧ Keeps [] w w'' ∧ Keeps [] w' w'') := fun w' hk => (cd_victims (hd.keeps hk (by simp))).mono fun e w'' ⟨⟨v,he,h2⟩,h3⟩ => ⟨⟨v,he,own_keeps h2 h3 (by simp)⟩,hk.trans h3 (by simp),h3⟩
 have Q9 : Hid (∀ w' v1 v2,w'.ownsRow 0 113 4 v1 x.victims.length (vcCells x.victims) → w'.ownsRow 0 113 4 v2 x.victims.length (vcCells x.victims) → Keeps [] w w' → Calls Tryz.prog 54 #[v1,v2] w' fun e w'' => e = .returned (.bool true) ∧ Keeps [] w w'') := fun w' v1 v2 h1 h2 hk => (vc_same_yes w' v1 v2 x.victims x.victims.length rfl hl h1 h2).mono fun e w'' ⟨he,h3⟩ => ⟨he,hk.trans h3 (by simp)⟩
 have HC : Hid (∀ w',Keeps [] w w' → w'.cell? ⟨b,13,none⟩ = some (.bool x.won) ∧ w'.cell? ⟨b,8,none⟩ = some (.int .i64 x.number)) := fun w' hk => cd_won (hd.keeps hk (by simp))
 have hkB : Keeps [] w w := Keeps.refl _ _
 clear hc hd hl
 go_enter Tryz.func22,Tryz.ntmps22
 go_upto_region 1 with fail
 go_region_held3 (fun w' => w'.cell? ⟨b,13,none⟩ = some (.bool x.won) ∧ w'.cell? ⟨b,8,none⟩ = some (.int .i64 x.number)) (first | with_reducible exact HC.out _ (by first | with_reducible assumption | with_reducible exact Keeps.drew (by with_reducible assumption)) | go_keep) ((first
  | (go_at_call 63; (with_reducible refine (Q1.out _ (by first | with_reducible assumption | with_reducible exact Keeps.drew (by with_reducible assumption))).mono ?_); rintro e w1 ⟨rfl,hk_w1⟩)
  | (go_at_call 62; (with_reducible refine (Q2.out _ (by first | with_reducible assumption | with_reducible exact Keeps.drew (by with_reducible assumption))).mono ?_); rintro e w2 ⟨rfl,hk_w2⟩)
  | (go_at_call 64; (with_reducible refine (Q3.out _ (by first | with_reducible assumption | with_reducible exact Keeps.drew (by with_reducible assumption))).mono ?_); rintro e w3 ⟨rfl,hk_w3⟩)
  | (go_at_call 65; (with_reducible refine (Q4.out _ (by first | with_reducible assumption | with_reducible exact Keeps.drew (by with_reducible assumption))).mono ?_); rintro e w4 ⟨rfl,hk_w4⟩)
  | (go_at_call 91; (with_reducible refine (Q5.out _ (by first | with_reducible assumption | with_reducible exact Keeps.drew (by with_reducible assumption))).mono ?_); rintro e w5 ⟨rfl,hk_w5⟩)
  | (go_at_call 92; (with_reducible refine (Q6.out _ (by first | with_reducible assumption | with_reducible exact Keeps.drew (by with_reducible assumption))).mono ?_); rintro e w6 ⟨rfl,hk_w6⟩)
  | (go_at_call 93; (with_reducible refine (Q7.out _ (by first | with_reducible assumption | with_reducible exact Keeps.drew (by with_reducible assumption))).mono ?_); rintro e wv ⟨⟨v1,rfl,ho1⟩,hk_wv⟩; have HO1 := Lib.hid ho1; clear ho1)
  | (go_at_call 94; (with_reducible refine (Q8.out _ (by first | with_reducible assumption | with_reducible exact Keeps.drew (by with_reducible assumption))).mono ?_); rintro e wu ⟨⟨v2,rfl,ho2⟩,hk_wu,hkx⟩; have HO2 := Lib.hid ho2; have HO3 : Hid (wu.ownsRow 0 113 4 v1 x.victims.length (vcCells x.victims)) := (by first | exact own_keeps HO1.out hkx (by simp) | exact own_keeps HO1.out (Keeps.undrew hkx) (by simp)); clear ho2 hkx)
  | (go_at_call 54; (with_reducible refine (Q9.out _ _ _ HO3.out HO2.out (by first | with_reducible assumption | with_reducible exact Keeps.drew (by with_reducible assumption))).mono ?_); rintro e wz ⟨rfl,hk_wz⟩)))
 all_goals
  go_wp2_with fail
  go_ret
  exact ⟨rfl,by first | with_reducible assumption | with_reducible exact Keeps.drew (by with_reducible assumption)⟩
end
end Cd
open Go.RowKit
theorem i64_and3 (n : Int) : bits .and .i64 n 3 = n % 4 := by
 have hm : (BitVec.ofInt 64 3).toNat = 2 ^ 2 - 1 := by decide
 have key : (BitVec.ofInt 64 n &&& BitVec.ofInt 64 3).toNat = (n % ((2 ^ 64 : Nat) : Int)).toNat % 2 ^ 2 := by
  rw [BitVec.toNat_and,BitVec.toNat_ofInt,hm,Nat.and_two_pow_sub_one_eq_mod]
 show IntKind.i64.wrap ((BitVec.ofInt 64 n &&& BitVec.ofInt 64 3).toNat : Nat) = n % 4
 rw [key,IntKind.wrap_i64]
 omega
def upd' {ι α : Type} [DecidableEq ι] (f : ι → α) (i : ι) (x : α) : ι → α := fun j => if j = i then x else f j
theorem upd_at {ι α : Type} [DecidableEq ι] (f : ι → α) (i : ι) (x : α) : upd' f i x i = x := if_pos rfl
theorem upd_off {ι α : Type} [DecidableEq ι] (f : ι → α) (i : ι) (x : α) {j : ι} (h : j ≠ i) : upd' f i x j = f j := if_neg h
theorem raw_c (S : Sp) (kd i n x : Int) : (S.raw kd i n x).c = S.c := by
 unfold Sp.raw
 split; (unfold Sp.store; split <;> rfl)
 split; (unfold Sp.take; split; rfl; split <;> rfl)
 split; (unfold Sp.give; split; rfl; split <;> rfl)
 split; (unfold Sp.claim; split; rfl; split; rfl; split <;> rfl)
 split; (unfold Sp.ready; split; rfl; split; rfl; split <;> rfl)
 split; (unfold Sp.doom; split; rfl; split; rfl; split <;> rfl)
 split; (unfold Sp.free; split; rfl; split <;> rfl)
 split; (unfold Sp.put; split <;> rfl)
 rfl
structure Kit (σ : Type) where
 PM : Sb → World → List Nat → Nat → σ → Prop
 PD : Rb → World → List Nat → Nat → σ → Prop
 TX : TypeId
 TY : TypeId
 TO : TypeId
 xy : TX ≠ TY
 xf : TX ∉ fixT
 yf : TY ∉ fixT
 of : TO ∉ fixT
 lm : ∀ w0 z a x,Lies w0 (fun w G => PM z w G a x)
 ld : ∀ w0 y a x,Lies w0 (fun w G => PD y w G a x)
 tm : ∀ z w G a x,PM z w G a x → ∀ q,q ∈ G → ∃ t,tyOf w q = some t ∧ t ∉ fixT
 td : ∀ y w G a x,PD y w G a x → ∀ q,q ∈ G → ∃ t,tyOf w q = some t ∧ t ∉ fixT
namespace PR
inductive Pt
 | s | r | xs | ys | o
 | m (i : Nat)
 | d (i : Nat)
deriving DecidableEq
section
variable {σ : Type}
def pv : Option (Nat × σ) → Value
 | none => .pointer none
 | some (a,_) => PT a
def arr (M : Nat → Option (Nat × σ)) : Array Value := #[pv (M 0),pv (M 1),pv (M 2),pv (M 3)]
def mPart (P : World → List Nat → Nat → σ → Prop) : Option (Nat × σ) → World → List Nat → Prop
 | none => fun w F => F = []
 | some (a,x) => fun w F => P w F a x
def oPart (TO : TypeId) : Option (Nat × Array Value) → World → List Nat → Prop
 | none => fun w F => F = []
 | some (b,cs) => fun w F => F = [b] ∧ Blk w b TO cs
theorem oPart_lies {w0 : World} {TO : TypeId} : ∀ q,Lies w0 (oPart TO q)
 | none => lies_none
 | some (b,cs) => lies_blk b TO cs
theorem mPart_lies {w0 : World} {P : World → List Nat → Nat → σ → Prop} (h : ∀ a x,Lies w0 (fun w G => P w G a x)) : ∀ q,Lies w0 (mPart P q)
 | none => lies_none
 | some (a,x) => h a x
variable (K : Kit σ)
def parts (w0 : World) (z : Sb) (y : Rb) (xb yb : Nat) (O : Option (Nat × Array Value)) (S T : Sp) (M N : Nat → Option (Nat × σ)) : Pt → World → List Nat → Prop
 | .s => fun w F => SP w0 w z F S
 | .r => fun w F => RP w0 w y F T
 | .xs => fun w F => F = [xb] ∧ Blk w xb K.TX (arr M)
 | .ys => fun w F => F = [yb] ∧ Blk w yb K.TY (arr N)
 | .o => oPart K.TO O
 | .m i => mPart (K.PM z) (M i)
 | .d i => mPart (K.PD y) (N i)
theorem parts_lies (w0 : World) (z : Sb) (y : Rb) (xb yb : Nat) (O : Option (Nat × Array Value)) (S T : Sp) (M N : Nat → Option (Nat × σ)) : ∀ p,Lies w0 (parts K w0 z y xb yb O S T M N p)
 | .s => lies_sp z S
 | .r => lies_rp y T
 | .xs => lies_blk xb K.TX (arr M)
 | .ys => lies_blk yb K.TY (arr N)
 | .o => oPart_lies O
 | .m i => mPart_lies (K.lm w0 z) (M i)
 | .d i => mPart_lies (K.ld w0 y) (N i)
section
variable {K : Kit σ} {w0 : World} {z : Sb} {y : Rb} {xb yb : Nat} {O : Option (Nat × Array Value)} {S T : Sp} {M N : Nat → Option (Nat × σ)}
theorem parts_d (i : Nat) : parts K w0 z y xb yb O S T M N (.d i) = mPart (K.PD y) (N i) := rfl
theorem parts_xs : parts K w0 z y xb yb O S T M N .xs = fun w F => F = [xb] ∧ Blk w xb K.TX (arr M) := rfl
theorem parts_ys : parts K w0 z y xb yb O S T M N .ys = fun w F => F = [yb] ∧ Blk w yb K.TY (arr N) := rfl
end
structure Rig (w0 w : World) (z : Sb) (y : Rb) (xb yb : Nat) (O : Option (Nat × Array Value)) (S T : Sp) (M N : Nat → Option (Nat × σ)) : Prop where
 ex : ∃ G,Sep w0 w (parts K w0 z y xb yb O S T M N) G
end
section
variable {σ : Type} {K : Kit σ} {w0 w w1 w' : World} {z : Sb} {y : Rb} {xb yb k : Nat} {O : Option (Nat × Array Value)} {S S' T T' : Sp} {M N : Nat → Option (Nat × σ)} {G : Pt → List Nat} {F' G' X : List Nat} {i j a : Nat} {x x' : σ}
theorem space (hs : Sep w0 w (parts K w0 z y xb yb O S T M N) G) (hw : Went w0 w w' z (G .s) S') : Rig K w0 w' z y xb yb O S' T M N := by
 obtain ⟨F',h1,h2,h3⟩ := hw
 refine ⟨upd' G .s F',hs.one .s h2 (fun q hq => hq) (fun j hj => ⟨?_,upd_off _ _ _ hj⟩) ?_ (parts_lies _ _ _ _ _ _ _ _ _ _ _ _) ?_ ?_⟩
 · cases j <;> first | rfl | exact absurd rfl hj
 · rw [upd_at]; exact h1
 · rw [upd_at]; exact h1.apart
 · rw [upd_at]; exact h3
theorem doc (hs : Sep w0 w (parts K w0 z y xb yb O S T M N) G) (hw : RWent w0 w w' y (G .r) T') : Rig K w0 w' z y xb yb O S T' M N := by
 obtain ⟨F',h1,h2,h3⟩ := hw
 refine ⟨upd' G .r F',hs.one .r h2 (fun q hq => hq) (fun j hj => ⟨?_,upd_off _ _ _ hj⟩) ?_ (parts_lies _ _ _ _ _ _ _ _ _ _ _ _) ?_ ?_⟩
 · cases j <;> first | rfl | exact absurd rfl hj
 · rw [upd_at]; exact h1
 · rw [upd_at]; exact h1.apart
 · rw [upd_at]; exact h3
theorem two (hs : Sep w0 w (parts K w0 z y xb yb O S S M N) G) : Two w0 w z (G .s) y (G .r) S S := ⟨hs.at_ .s,hs.at_ .r,fun x hx => hs.dif .s .r (by decide) x hx⟩
theorem both (hs : Sep w0 w (parts K w0 z y xb yb O S S M N) G) (h : TwoWent w0 w w' z (G .s) y (G .r) S') : Rig K w0 w' z y xb yb O S' S' M N := by
 obtain ⟨F',G',h1,h2,h3,h4⟩ := h
 refine ⟨upd' (upd' G .s F') .r G',?_⟩
 refine hs.two .s .r (by decide) h2 (fun q hq => by rw [List.mem_append] at hq; exact hq) (fun j h5 h6 => ⟨?_,by rw [upd_off _ _ _ h6,upd_off _ _ _ h5]⟩) ?_ (parts_lies _ _ _ _ _ _ _ _ _ _ _ _) ?_ ?_ ?_ (parts_lies _ _ _ _ _ _ _ _ _ _ _ _) ?_ ?_ ?_
 · cases j <;> first | rfl | exact absurd rfl h5 | exact absurd rfl h6
 · rw [upd_off _ _ _ (by decide),upd_at]; exact h1.sp
 · rw [upd_off _ _ _ (by decide),upd_at]; exact h1.sp.apart
 · rw [upd_off _ _ _ (by decide),upd_at]; exact fun q hq => (h3 q hq).imp Or.inl id
 · rw [upd_at]; exact h1.rp
 · rw [upd_at]; exact h1.rp.apart
 · rw [upd_at]; exact fun q hq => (h4 q hq).imp Or.inr id
 · rw [upd_off _ _ _ (by decide),upd_at,upd_at]; exact h1.far
def Pair (J : σ → Prop) (M N : Nat → Option (Nat × σ)) : Prop := ∀ j,(M j = none ∧ N j = none) ∨ ∃ a b x,M j = some (a,x) ∧ N j = some (b,x) ∧ J x
theorem Pair.set {J : σ → Prop} (h : Pair J M N) (j : Nat) {a b : Nat} {x : σ} (hj : J x) : Pair J (upd' M j (some (a,x))) (upd' N j (some (b,x))) := fun i => by
 by_cases e : i = j
 · subst e; exact .inr ⟨a,b,x,upd_at _ _ _,upd_at _ _ _,hj⟩
 · rw [upd_off _ _ _ e,upd_off _ _ _ e]; exact h i
theorem Pair.unset {J : σ → Prop} (h : Pair J M N) (j : Nat) : Pair J (upd' M j none) (upd' N j none) := fun i => by
 by_cases e : i = j
 · subst e; exact .inl ⟨upd_at _ _ _,upd_at _ _ _⟩
 · rw [upd_off _ _ _ e,upd_off _ _ _ e]; exact h i
end
end PR
end Go.Proofs.YtmlnedilbneekaaGreat