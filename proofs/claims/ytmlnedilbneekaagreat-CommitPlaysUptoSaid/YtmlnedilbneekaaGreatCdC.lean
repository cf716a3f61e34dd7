/- Layer 13: the document's commit: behind a look. -/
import Derived.Test.YtmlnedilbneekaaGreatCdJ
import Derived.Test.YtmlnedilbneekaaGreatDdN
import Derived.Test.YtmlnedilbneekaaGreatLdS
import Derived.Test.YtmlnedilbneekaaGreatSigTouched
import Derived.OwnWalk
set_option linter.unusedVariables false
set_option linter.unusedSimpArgs false
namespace Go.Proofs.YtmlnedilbneekaaGreat
open Go.RowKit Pol
namespace Cd
open Ld Rj
def JW (w0 w w' : World) (y : Rb) (jb b lb : Nat) (sl ge th st nu at_ : Int) (won : Bool) (e0 : Int) (wv vv dp : Value) (c : Cf) (d : Int) (vs : List Vc) : Prop :=
 JD w' jb c (decided c st d vs) ∧ Keeps [b,jb] w w' ∧ ∃ sg e1 dpv,Blk w' b 167 #[PT y.p,PT jb,.int .i64 sl,.int .i64 ge,.int .i64 th,.int .i64 st,wv,.int .i64 sg,.int .i64 nu,(PT lb),dpv,.int .i64 at_,.int .i64 e1,.bool won] ∧
  ((verdict c st d vs = 2 ∧ sg = 7 ∧ e1 = 9 ∧ dpv = dp) ∨ (verdict c st d vs = 3 ∧ sg = 7 ∧ e1 = 8 ∧ dpv = dp) ∨
   (verdict c st d vs ≠ 2 ∧ verdict c st d vs ≠ 3 ∧ sg = (if vs = [] then 5 else 4) ∧ e1 = e0 ∧ ∃ db A cc,vv = .slice A vs.length cc ∧ dpv = PT db ∧ DAt w' y db (Dm.new th vs) A cc vs (.slice none 0 0) ∧ w.heap.size ≤ db))
section
variable {w w' w0 wd : World} {y : Rb} {G : List Nat} {S : Sp} {n b k jb : Nat} {sl ge th st sg nu at_ e0 : Int} {won : Bool} {wv lp dp vv : Value} {l : Lk} {lb : Nat} {c : Cf} {d : Int} {vs : List Vc}
theorem at14 {w : World} {y : Rb} {n lb : Nat} {l : Lk} {vv : Value} (h : Ld.At w y n lb l vv) : w.cell? ⟨lb,14,none⟩ = some vv := by
 obtain ⟨⟨own,at_,wn,p0,p1,_,hbb⟩,_⟩ := h
 exact (hbb.cell 14).trans rfl
theorem at_vs {w : World} {y : Rb} {n lb : Nat} {l : Lk} {A : Option Addr} {m cc : Nat} (h : Ld.At w y n lb l (.slice A m cc)) : Vs w A l.victims := fun h0 => by
 obtain ⟨_,A',c',e,_,_,_,h5⟩ := SlR.of_own h.own
 injection e with e1 _ _
 subst e1
 obtain ⟨q,off,e,h6⟩ := h5 h0
 exact ⟨q,off,e,h6⟩
theorem at_form {w : World} {y : Rb} {n lb : Nat} {l : Lk} {vv : Value} (h : Ld.At w y n lb l vv) : ∃ A cc,vv = .slice A l.victims.length cc ∧ l.victims.length ≤ cc ∧ cc ≤ maxLen := by
 obtain ⟨_,A,cc,e,h1,h2,_⟩ := SlR.of_own h.own
 exact ⟨A,cc,e,h1,h2⟩
set_option maxRecDepth 100000 in
set_option maxHeartbeats 4000000 in
theorem judged_walk (h : RP w0 w y G S) (hn : S.c.slots = (n : Int)) (hb : Blk w b 167 #[PT y.p,PT jb,.int .i64 sl,.int .i64 ge,.int .i64 th,.int .i64 st,wv,.int .i64 sg,.int .i64 nu,(PT lb),dp,.int .i64 at_,.int .i64 e0,.bool won]) (hbG : b ∉ G) (hl : Ld.At w y n lb l vv) (hj : JD w jb c d) (hjG : jb ∉ G) (hj0 : w0.heap.size ≤ jb) (hc : c.ok) (hd0 : 0 ≤ d) (hd1 : d ≤ 64) (hvs : l.victims = vs) (hr : ∀ v,v ∈ vs → 0 ≤ v.slot ∧ v.slot < (n : Int)) (ht : 1 ≤ th ∧ th ≤ 8) (hll : vs.length ≤ 1099511627776) :
 Calls Tryz.prog 75 #[PT b] w fun e w' => e = .returned (.tuple #[]) ∧ JW w0 w w' y jb b lb sl ge th st nu at_ won e0 wv vv dp c d vs := by
 subst hvs
 obtain ⟨A,cc,rfl,hc1,hc2⟩ := at_form hl
 have hbj : b ≠ jb := hb.ne_ hj (by decide)
 have HBJ := Lib.hid hbj
 have HB := Lib.hid hb
 have HL := Lib.hid hl
 have HP := Lib.hid h
 have HG := Lib.hid (And.intro hbG (And.intro hjG hj0))
 have HC := Lib.hid (And.intro hc1 hc2)
 have HN := Lib.hid hn
 have HLL := Lib.hid hll
 have HRT := Lib.hid (And.intro hr ht)
 have HJ := Lib.hid hj
 obtain ⟨m,hm⟩ : ∃ m,l.victims.length = m := ⟨_,rfl⟩
 have HM := Lib.hid hm
 obtain ⟨V,hV⟩ : ∃ V,verdict c st d l.victims = V := ⟨_,rfl⟩
 have HVV := Lib.hid hV
 have QD : Hid (∀ w',Keeps [] w w' → Calls Tryz.prog 126 #[PT jb,.int .i64 st,.slice A m cc] w' fun e w'' => e = .returned (.int .i64 V) ∧ JD w'' jb c (decided c st d l.victims) ∧ Keeps [jb] w w'') := fun w' hk => by
  have h5 := decide_doc w' jb c hc st d hd0 (by omega) (Blk.keeps hj hk (by simp)) A cc l.victims (at_vs (hl.calm hk)) hll
  rw [hV,hm] at h5
  exact h5.mono fun e w'' ⟨he,h2,h3⟩ => ⟨he,h2,(hk.mono (T := [jb]) (by simp)).trans h3 (fun z hz => .inl hz)⟩
 have hS0 : ∀ w',Keeps [jb] w w' → w'.cell? ⟨b,1,none⟩ = some (PT jb) ∧ w'.cell? ⟨b,5,none⟩ = some (.int .i64 st) ∧ w'.cell? ⟨b,9,none⟩ = some (PT lb) ∧ w'.cell? ⟨lb,14,none⟩ = some (.slice A l.victims.length cc) := fun w' hk => by
  have h6 := hb.keeps hk (by simp; exact hbj)
  have h7 := hl.keeps hk (by intro hx; simp at hx; subst hx; have e1 := hl.ty; rw [hj.tyOf] at e1; injection e1 with e1; exact absurd e1 (by decide)) (fun q hq hx => by simp at hx; subst hx; have e1 := own_in hl.own q (by simp [vblk,hq]); rw [hj.tyOf] at e1; injection e1 with e1; exact absurd e1 (by decide))
  exact ⟨(h6.cell 1).trans rfl,(h6.cell 5).trans rfl,(h6.cell 9).trans rfl,at14 h7⟩
 have HS0 := Lib.hid hS0
 have HLK : Hid (∀ w',Keeps [b,jb] w w' → Ld.At w' y n lb l (.slice A m cc)) := fun w' hk => by
  rw [← hm]
  refine hl.keeps hk (fun hx => ?_) (fun q hq hx => ?_)
  · simp at hx
    rcases hx with hx | hx
    · have e1 := hl.ty; rw [hx,hb.tyOf] at e1; injection e1 with e1; exact absurd e1 (by decide)
    · have e1 := hl.ty; rw [hx,hj.tyOf] at e1; injection e1 with e1; exact absurd e1 (by decide)
  · have e1 := own_in hl.own q (by simp [vblk,hq])
    simp at hx
    rcases hx with hx | hx
    · rw [hx,hb.tyOf] at e1; injection e1 with e1; exact absurd e1 (by decide)
    · rw [hx,hj.tyOf] at e1; injection e1 with e1; exact absurd e1 (by decide)
 have hkB : Keeps [jb] w w := Keeps.refl _ _
 have hkB0 : Keeps [] w w := Keeps.refl _ _
 rw [hm] at hS0 HS0 hl
 clear h hn hb hbG hl hj hjG hj0 hc hd0 hd1 hr ht hll hbj hc1 hc2 hm hV hS0
 go_enter Tryz.func75,Tryz.ntmps75
 go_upto_region 0 with fail
 go_region_held3 (fun w' => w'.cell? ⟨b,1,none⟩ = some (PT jb) ∧ w'.cell? ⟨b,5,none⟩ = some (.int .i64 st) ∧ w'.cell? ⟨b,9,none⟩ = some (PT lb) ∧ w'.cell? ⟨lb,14,none⟩ = some (.slice A m cc)) (first | with_reducible exact HS0.out _ (by first | with_reducible assumption | with_reducible exact Keeps.drew (by with_reducible assumption)) | with_reducible exact HS0.out _ (Keeps.mono (by first | with_reducible assumption | with_reducible exact Keeps.drew (by with_reducible assumption)) (by simp)) | go_keep) ((go_at_call 126; (with_reducible refine (QD.out _ (by first | with_reducible assumption | with_reducible exact Keeps.drew (by with_reducible assumption))).mono ?_); rintro e w4 ⟨rfl,hj4,hk4⟩; have HJ4 := Lib.hid hj4; clear hj4))
 have HK4 := Lib.hid (hk4.mono (T := [b,jb]) (fun z hz => .inl (by simp at hz; simp [hz])))
 have HB4 := Lib.hid (HB.out.keeps hk4 (by simp; exact HBJ.out))
 have HP4 := Lib.hid (HP.out.away hk4 (fun z hz => by simp at hz; subst hz; exact ⟨HG.out.2.2,HG.out.2.1,fun t ht => by rw [HJ.out.tyOf] at ht; injection ht with ht; subst ht; decide⟩))
 have m7 : w4.cell? ⟨b,7,none⟩ = some (.int .i64 sg) := (HB4.out.cell 7).trans rfl
 have m10 : w4.cell? ⟨b,10,none⟩ = some dp := (HB4.out.cell 10).trans rfl
 have m12 : w4.cell? ⟨b,12,none⟩ = some (.int .i64 e0) := (HB4.out.cell 12).trans rfl
 have f7 := HB4.out.frozen 7
 have f10 := HB4.out.frozen 10
 have f12 := HB4.out.frozen 12
 clear hkB hkB0 hk4 QD HS0
 by_cases h2 : V = 2
 · subst h2
   go_wp2_with fail
   go_end0
   have hkf : Keeps [b] w4 ((w4.setCell ⟨b,12,none⟩ (.int .i64 9)).setCell ⟨b,7,none⟩ (.int .i64 7)) := (((Keeps.refl [b] w4).setCell (.inl (by simp)) _).setCell (.inl (by simp)) _)
   have hb9 := ((HB4.out.set_ 12 (.int .i64 9)).set_ 7 (.int .i64 7))
   exact ⟨rfl,Blk.keeps HJ4.out hkf (by simp; exact HBJ.out.symm),HK4.out.trans hkf (fun z hz => .inl (by simp at hz; simp [hz])),7,9,dp,hb9,.inl ⟨HVV.out,rfl,rfl,rfl⟩⟩
 ·
  have e2 : (V == 2) = false := by simpa using h2
  by_cases h3 : V = 3
  · subst h3
    clear h2
    go_wp2_with fail
    go_end0
    have hkf : Keeps [b] w4 ((w4.setCell ⟨b,12,none⟩ (.int .i64 8)).setCell ⟨b,7,none⟩ (.int .i64 7)) := (((Keeps.refl [b] w4).setCell (.inl (by simp)) _).setCell (.inl (by simp)) _)
    have hb9 := ((HB4.out.set_ 12 (.int .i64 8)).set_ 7 (.int .i64 7))
    exact ⟨rfl,Blk.keeps HJ4.out hkf (by simp; exact HBJ.out.symm),HK4.out.trans hkf (fun z hz => .inl (by simp at hz; simp [hz])),7,8,dp,hb9,.inr (.inl ⟨HVV.out,rfl,rfl,rfl⟩)⟩
  ·
   have e3 : (V == 3) = false := by simpa using h3
   have H23 := Lib.hid (And.intro h2 h3)
   have hE : dmE n th l.victims = 0 := by
    unfold dmE
    rw [if_neg (by have := HRT.out.2; omega),if_neg (fun he => ?_)]
    obtain ⟨v,hv,ho⟩ := List.any_eq_true.1 he
    have h6 := HRT.out.1 v hv
    simp [Vc.off] at ho
    omega
   have QN : Hid (∀ w',Keeps [] w4 w' → Calls Tryz.prog 49 #[PT y.p,.int .i64 th,.slice A m cc] w' fun e w'' => ∃ db,e = .returned (.tuple #[PT db,.int .i64 0]) ∧ DAt w'' y db (Dm.new th l.victims) A cc l.victims (.slice none 0 0) ∧ w4.heap.size ≤ db ∧ Keeps [] w4 w'') := fun w' hk => by
    have h5 := newDoom (HP4.out.calm hk) HN.out (at_vs (HLK.out w' (HK4.out.trans hk (by simp)))) HC.out HLL.out th
    rw [HM.out] at h5
    have hz := hk.size
    refine h5.mono fun e w'' ⟨g1,_,g3⟩ => ?_
    obtain ⟨db,he,g4,g5⟩ := g1 hE
    exact ⟨db,he,g4,Nat.le_trans hz g5,hk.trans g3 (by simp)⟩
   have HC1 : Hid (∀ w',Keeps [] w4 w' → w'.cell? ⟨b,0,none⟩ = some (PT y.p) ∧ w'.cell? ⟨b,4,none⟩ = some (.int .i64 th) ∧ w'.cell? ⟨b,9,none⟩ = some (PT lb) ∧ w'.cell? ⟨lb,14,none⟩ = some (.slice A m cc)) := fun w' hk => by
    have h6 := HB4.out.keeps hk (by simp)
    have h7 := HLK.out w' (HK4.out.trans hk (by simp))
    exact ⟨(h6.cell 0).trans rfl,(h6.cell 4).trans rfl,(h6.cell 9).trans rfl,at14 h7⟩
   have hkB : Keeps [] w4 w4 := Keeps.refl _ _
   clear h2 h3 hE
   go_upto_region 1 with fail
   clear m7 m10 m12 f7 f10 f12
   go_region_held3 (fun w' => w'.cell? ⟨b,0,none⟩ = some (PT y.p) ∧ w'.cell? ⟨b,4,none⟩ = some (.int .i64 th) ∧ w'.cell? ⟨b,9,none⟩ = some (PT lb) ∧ w'.cell? ⟨lb,14,none⟩ = some (.slice A m cc)) (first | with_reducible exact HC1.out _ (by first | with_reducible assumption | with_reducible exact Keeps.drew (by with_reducible assumption)) | go_keep) ((go_at_call 49; (with_reducible refine (QN.out _ (by first | with_reducible assumption | with_reducible exact Keeps.drew (by with_reducible assumption))).mono ?_); rintro e w5 ⟨db,rfl,hdb,hdl,hk5⟩; have HD := Lib.hid (And.intro hdb hdl); clear hdb hdl))
   have HB5 := Lib.hid (HB4.out.keeps hk5 (by simp))
   have HK5 := Lib.hid hk5
   have m7 : w5.cell? ⟨b,7,none⟩ = some (.int .i64 sg) := (HB5.out.cell 7).trans rfl
   have m10 : w5.cell? ⟨b,10,none⟩ = some dp := (HB5.out.cell 10).trans rfl
   have f7 := HB5.out.frozen 7
   have f10 := HB5.out.frozen 10
   clear hkB hk5 HC1 QN
   go_upto_region 4 with fail
   obtain ⟨w6,hw6⟩ : ∃ w6,(w5.setCell ⟨b,10,none⟩ (PT db)).setCell ⟨b,7,none⟩ (.int .i64 4) = w6 := ⟨_,rfl⟩
   have HB6 : Hid (Blk w6 b 167 #[PT y.p,PT jb,.int .i64 sl,.int .i64 ge,.int .i64 th,.int .i64 st,wv,.int .i64 4,.int .i64 nu,(PT lb),(PT db),.int .i64 at_,.int .i64 e0,.bool won]) := hw6 ▸ (HB5.out.set_ 10 (PT db)).set_ 7 (.int .i64 4)
   have hk6 : Keeps [b] w5 w6 := hw6 ▸ ((Keeps.refl [b] w5).setCell (.inl (by simp)) _).setCell (.inl (by simp)) _
   try rw [hw6]
   have hbd : db ≠ b := fun e => by have h6 := HB4.out.lt; have h7 := HD.out.2; omega
   have hA6 : 0 < l.victims.length → ∀ q off,A = some ⟨q,off,none⟩ → q ≠ b := fun h0 q off eA e => by
    have h6 := HLK.out _ HK4.out
    obtain ⟨q',off',e1,h7⟩ := at_vs h6 h0
    have h8 := own_in h6.own q (by subst eA; simp [vblk,Value.ownBlock])
    rw [e,HB4.out.tyOf] at h8
    injection h8 with h8
    exact absurd h8 (by decide)
   have HD6 := Lib.hid (HD.out.1.keeps hk6 (by simp; exact hbd) (by simp [vblk,Value.ownBlock]) (fun h0 q off eA hx => by simp at hx; exact hA6 h0 q off eA hx))
   have HK6 := Lib.hid ((HK5.out.mono (T := [b]) (by simp)).trans hk6 (fun z hz => .inl hz))
   have QX := Lib.hid (ddone HD6.out)
   clear hw6 hk6 hbd hA6 m7 m10 f7 f10 HB5
   have hz6 : Hid (w.heap.size ≤ db) := Nat.le_trans HK4.out.size HD.out.2
   have HJ6 : Hid (JD w6 jb c (decided c st d l.victims)) := Blk.keeps HJ4.out HK6.out (by simp; exact HBJ.out.symm)
   have HKK : Hid (Keeps [b,jb] w w6) := HK4.out.trans HK6.out (fun z hz => .inl (by simp at hz; simp [hz]))
   go_wp2_with fail
   refine QX.out.mono ?_
   rintro e w7 ⟨rfl,hk7⟩
   have HB7 := Lib.hid (HB6.out.keeps hk7 (by simp))
   have HD7 := Lib.hid (HD6.out.calm hk7)
   have HK7 := Lib.hid hk7
   have m7 : w7.cell? ⟨b,7,none⟩ = some (.int .i64 4) := (HB7.out.cell 7).trans rfl
   have f7 := HB7.out.frozen 7
   have hemp : (Dm.new th l.victims).left.isEmpty = l.victims.isEmpty := rfl
   rw [hemp]
   clear hk7 hemp QX
   cases hvc : l.victims with
   | nil =>
     try rw [hvc]
     go_wp2_with fail
     go_end0
     have hkf : Keeps [b] w7 (w7.setCell ⟨b,7,none⟩ (.int .i64 5)) := (Keeps.refl [b] w7).setCell (.inl (by simp)) _
     have hb9 := HB7.out.set_ 7 (.int .i64 5)
     have hbd : db ≠ b := fun e => by have h6 := HB4.out.lt; have h7 := HD.out.2; omega
     have hd9 := HD7.out.keeps hkf (by simp; exact hbd) (by simp [vblk,Value.ownBlock]) (fun h0 q off eA hx => by rw [hvc] at h0; simp at h0)
     have hj9 := Blk.keeps (Blk.keeps HJ6.out HK7.out (by simp)) hkf (by simp; exact HBJ.out.symm)
     refine ⟨rfl,hj9,(HKK.out.trans HK7.out (by simp)).trans hkf (fun z hz => .inl (by simp at hz; simp [hz])),5,e0,PT db,hb9,.inr (.inr ⟨by rw [HVV.out]; exact H23.out.1,by rw [HVV.out]; exact H23.out.2,by rw [hvc]; rfl,rfl,db,A,cc,by rw [HM.out],rfl,hd9,hz6.out⟩)⟩
   | cons a r =>
     try rw [hvc]
     go_wp2_with fail
     go_end0
     have hj9 := Blk.keeps HJ6.out HK7.out (by simp)
     refine ⟨rfl,hj9,HKK.out.trans HK7.out (by simp),4,e0,PT db,HB7.out,.inr (.inr ⟨by rw [HVV.out]; exact H23.out.1,by rw [HVV.out]; exact H23.out.2,by rw [hvc]; rfl,rfl,db,A,cc,by rw [HM.out],rfl,HD7.out,hz6.out⟩)⟩
end
end Cd
open Go.RowKit
namespace Cd
theorem grow1 {wz wr w1 : World} {v v1 : Value} {l : List Int} {y : Int} {o : Obj} (ho : wr.ownsRow wz.heap.size 3 1 v l.length (l.map (Value.int .i64))) (hk : Keeps [] wz wr)
 (hown : w1.ownsRow 0 3 1 v1 (l.length + 1) (l.map (Value.int .i64) ++ [.int .i64 y])) (hg : (wr.alloc o).grownBy w1 v.ownBlock) (hat : v1.ownBlock = v.ownBlock ∨ v1.ownBlock = some (wr.alloc o).heap.size) :
 w1.ownsRow wz.heap.size 3 1 v1 (l ++ [y]).length ((l ++ [y]).map (Value.int .i64)) ∧ Keeps [] wz w1 := by
 refine ⟨?_,(hk.alloc o).grown hg (fun k hk' => .inr (ho.lt k hk').1)⟩
 have h3 := own_base (base' := wz.heap.size) hown (fun q hq => by
  rcases hat with h4 | h4
  · exact (ho.lt q (h4 ▸ hq)).1
  · rw [h4] at hq; injection hq with hq; subst hq; have := hk.size; simp; omega)
 simpa using h3
theorem take_snoc' {l : List Int} {j : Nat} {y : Int} (h : l[j]? = some y) : l.take (j + 1) = l.take j ++ [y] := by
 rw [List.take_add_one,h]; rfl
set_option maxRecDepth 100000 in
set_option maxHeartbeats 4000000 in
theorem cells_any (w : World) (g c : Nat) (ws : List Pr) (h16 : ws.length ≤ 16) (hw : w.ownsRow 0 81 2 (.slice (some ⟨g,0,none⟩) ws.length c) ws.length (prCells ws)) :
 Calls Tryz.prog 125 #[.slice (some ⟨g,0,none⟩) ws.length c] w fun e w' => ∃ A cp,e = .returned (.slice A ws.length cp) ∧ Slc w' A (ws.map Pr.cell) ∧ Keeps [] w w' := by
 have HW := Lib.hid hw
 obtain ⟨n,hn⟩ : ∃ n,ws.length = n := ⟨_,rfl⟩
 have HN := Lib.hid hn
 have hcn : n ≤ c := by
  obtain ⟨_,A',c',ec,hcc,hcm,_⟩ := SlR.of_own hw
  obtain ⟨-,-,rfl⟩ := Value.slice.inj ec
  omega
 rw [hn] at h16 ⊢
 obtain ⟨i0,hi,hz0,hz1,hz2⟩ := info_parts Tryz.infoInt
 obtain ⟨L,hL⟩ : ∃ L,ws.map Pr.cell = L := ⟨_,rfl⟩
 have HL := Lib.hid hL
 have HLL : Hid (L.length = n) := by unfold Hid; rw [← hL,List.length_map,hn]
 rw [hL]
 clear hw hn hL
 go_enter Tryz.func125,Tryz.ntmps125
 go_wp2_with fail
 go_loopw [3,4] (fun v i wr => ∃ j : Nat,j ≤ n ∧ i = .int .i64 j ∧ Keeps [] w wr ∧ wr.ownsRow w.heap.size 3 1 v (L.take j).length ((L.take j).map (Value.int .i64))) (fun _ i _ => n - (intOf i).toNat)
 case atStart => exact ⟨0,Nat.zero_le _,rfl,Keeps.refl _ _,World.ownsRow_nil _ _ _ _⟩
 case round =>
  obtain ⟨j,hj,rfl,hkr,hor⟩ := hrel
  have HKR := Lib.hid hkr
  have HOR := Lib.hid hor
  by_cases hlt : j < n
  ·
   have j0 : (0 : Int) ≤ (j : Int) := by omega
   have j1 : (j : Int) < (n : Int) := by omega
   obtain ⟨p,hp⟩ : ∃ p,ws[j]? = some p := ⟨_,List.getElem?_eq_getElem (by have := HN.out; omega)⟩
   have hw2 := own_keeps HW.out hkr (by simp)
   rw [HN.out] at hw2
   obtain ⟨d0,d1⟩ := pr_cells hw2 hp
   have HSN : Hid (L.take (j + 1) = L.take j ++ [p.cell]) := take_snoc' (by rw [← HL.out,List.getElem?_map,hp]; rfl)
   have hjl : (L.take j).length ≤ 16 := by have := HLL.out; rw [List.length_take]; omega
   have hmx : Hid ((L.take j).length + 1 ≤ maxLen) := by unfold Hid maxLen; omega
   have hby : Hid (((L.take j).length + 1) * 8 ≤ 140737488355328) := by unfold Hid; omega
   have hwr : IntKind.i64.wrap ((j : Int) + 1) = (j : Int) + 1 := by rw [IntKind.wrap_i64]; omega
   clear hkr hor hp hw2 hjl hlt d1
   go_wp2_with (at_builtin; refine wpList_append_row rfl (.tmp 11) (.tmp 17) 186 rfl 3 i0 _ 1 8 Tryz.underlying186 hi hz0 hz1 hz2 rfl (by decide) u3 (L.take j).length _ rfl (own_base (own_keeps HOR.out ((Keeps.refl [] _).alloc _) (by simp)) (fun k _ => Nat.zero_le k)) _ 1 [.int .i64 p.cell] rfl (made_row _ _ _ _ (by simp)) (by simp [Value.oneCell']) hmx.out hby.out ?_; intro v1 w1 hown1 hg1 hat1; have HGR := Lib.hid (grow1 HOR.out HKR.out hown1 hg1 hat1); clear hown1 hg1 hat1)
   exact ⟨⟨j + 1,by omega,by simp,HGR.out.2,by rw [HSN.out]; exact HGR.out.1⟩,by simp [intOf]; omega⟩
  ·
   obtain rfl : j = n := by omega
   have htk : L.take j = L := by have := HLL.out; rw [← this,List.take_length]
   rw [htk] at hor
   obtain ⟨A,cp,rfl,hAl,hsl⟩ := Slc.of_own hor (by have := HLL.out; unfold maxLen; omega)
   have HSL := Lib.hid hsl
   have hll := HLL.out
   rw [hAl] at *
   clear hlt hkr hor hsl
   go_wp2_with fail
   go_ret
   first | exact ⟨A,⟨cp,rfl⟩,HSL.out,HKR.out⟩ | exact ⟨A,⟨cp,by simp [hll]⟩,HSL.out,HKR.out⟩
end Cd
end Go.Proofs.YtmlnedilbneekaaGreat