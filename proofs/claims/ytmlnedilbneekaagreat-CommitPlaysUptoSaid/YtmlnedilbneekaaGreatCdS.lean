/- Layer 13: the document's commit's Step, stage by stage. -/
import Derived.Test.YtmlnedilbneekaaGreatCdO
set_option linter.unusedVariables false
set_option linter.unusedSimpArgs false
namespace Go.Proofs.YtmlnedilbneekaaGreat
open Go.RowKit Pol
namespace Cd
open Ld Rj
section
variable {w w' w0 wd : World} {y : Rb} {G : List Nat} {S : Sp} {n b k jb : Nat} {sl ge th st sg nu at_ e0 : Int} {won : Bool} {wv lp dp vv dv : Value} {c : Cf} {d : Int} {cs : Array Value} {l : Lk} {q : Dm} {lb db : Nat} {A : Option Addr} {cc : Nat} {L : List Vc}
set_option maxRecDepth 100000 in
set_option maxHeartbeats 4000000 in
theorem step_take {P : World → Prop} {ans : Int} (hb : w.cell? ⟨b,7,none⟩ = some (.int .i64 1)) (hc : Calls Tryz.prog 73 #[PT b] w fun e w' => e = .returned (.int .i64 ans) ∧ P w') :
 Calls Tryz.prog 18 #[PT b] w fun e w' => e = .returned (.int .i64 ans) ∧ P w' := by
 have QC := Lib.hid hc
 have m7 := hb
 clear hb hc
 go_enter Tryz.func18,Tryz.ntmps18
 go_wp2_with fail
 refine QC.out.mono ?_
 rintro e w1 ⟨rfl,hp⟩
 have HP := Lib.hid hp
 clear hp
 go_wp2_with fail
 go_ret
 exact ⟨rfl,HP.out⟩
set_option maxRecDepth 100000 in
set_option maxHeartbeats 4000000 in
theorem step_own {P : World → Prop} {ans : Int} (hb : w.cell? ⟨b,7,none⟩ = some (.int .i64 2)) (hc : Calls Tryz.prog 74 #[PT b] w fun e w' => e = .returned (.tuple #[]) ∧ P w') :
 Calls Tryz.prog 18 #[PT b] w fun e w' => e = .returned (.int .i64 1) ∧ P w' := by
 have QC := Lib.hid hc
 have m7 := hb
 clear hb hc
 go_enter Tryz.func18,Tryz.ntmps18
 go_wp2_with fail
 refine QC.out.mono ?_
 rintro e w1 ⟨rfl,hp⟩
 have HP := Lib.hid hp
 clear hp
 go_wp2_with fail
 go_ret
 exact ⟨rfl,HP.out⟩
set_option maxRecDepth 100000 in
set_option maxHeartbeats 4000000 in
theorem step_write {P : World → Prop} {ans : Int} (hb : w.cell? ⟨b,7,none⟩ = some (.int .i64 5)) (hc : Calls Tryz.prog 76 #[PT b] w fun e w' => e = .returned (.tuple #[]) ∧ P w') :
 Calls Tryz.prog 18 #[PT b] w fun e w' => e = .returned (.int .i64 1) ∧ P w' := by
 have QC := Lib.hid hc
 have m7 := hb
 clear hb hc
 go_enter Tryz.func18,Tryz.ntmps18
 go_wp2_with fail
 refine QC.out.mono ?_
 rintro e w1 ⟨rfl,hp⟩
 have HP := Lib.hid hp
 clear hp
 go_wp2_with fail
 go_ret
 exact ⟨rfl,HP.out⟩
set_option maxRecDepth 100000 in
set_option maxHeartbeats 4000000 in
theorem step_giveUp {P : World → Prop} {ans : Int} (hb : w.cell? ⟨b,7,none⟩ = some (.int .i64 7)) (hc : Calls Tryz.prog 78 #[PT b] w fun e w' => e = .returned (.int .i64 ans) ∧ P w') :
 Calls Tryz.prog 18 #[PT b] w fun e w' => e = .returned (.int .i64 ans) ∧ P w' := by
 have QC := Lib.hid hc
 have m7 := hb
 clear hb hc
 go_enter Tryz.func18,Tryz.ntmps18
 go_wp2_with fail
 refine QC.out.mono ?_
 rintro e w1 ⟨rfl,hp⟩
 have HP := Lib.hid hp
 clear hp
 go_wp2_with fail
 go_ret
 exact ⟨rfl,HP.out⟩
set_option maxRecDepth 100000 in
set_option maxHeartbeats 4000000 in
theorem step_over (hb : w.cell? ⟨b,7,none⟩ = some (.int .i64 9)) : Calls Tryz.prog 18 #[PT b] w fun e w' => e = .returned (.int .i64 3) ∧ Keeps [] w w' := by
 go_enter Tryz.func18,Tryz.ntmps18
 go_wp2_with fail
 go_ret
 exact ⟨rfl,by simp⟩
def LW (w0 w w' : World) (y : Rb) (G : List Nat) (n jb b lb : Nat) (sl ge th st nu at_ : Int) (won : Bool) (e0 : Int) (wv vv dp : Value) (c : Cf) (d : Int) (L : List Vc) (S' : Sp) (l' : Lk) : Prop :=
 ∃ G' vv',RP w0 w' y G' S' ∧ Ld.At w' y n lb l' vv' ∧ Olds w' vv L ∧ Keeps (b :: jb :: lb :: (vblk vv ++ G)) w w' ∧ (∀ z,z ∈ G' → z ∈ G ∨ w.heap.size ≤ z) ∧ (∀ q,q ∈ vblk vv' → q ∈ vblk vv ∨ w.heap.size ≤ q ∧ q ∉ G') ∧
  ((l'.turns ≠ [] ∧ Blk w' b 167 #[PT y.p,PT jb,.int .i64 sl,.int .i64 ge,.int .i64 th,.int .i64 st,wv,.int .i64 3,.int .i64 nu,(PT lb),dp,.int .i64 at_,.int .i64 e0,.bool won] ∧ JD w' jb c d) ∨ (l'.turns = [] ∧ ∃ w1,w.heap.size ≤ w1.heap.size ∧ JW w0 w1 w' y jb b lb sl ge th st nu at_ won e0 wv vv' dp c d l'.victims))
set_option maxRecDepth 100000 in
set_option maxHeartbeats 4000000 in
theorem step_look (h : RP w0 w y G S) (hf : Fit k S) (hk : k ≤ 1099511627776) (hu : S.wu) (hn : S.c.slots = (n : Int)) (hc : c.ok) (hb : Blk w b 167 #[PT y.p,PT jb,.int .i64 sl,.int .i64 ge,.int .i64 th,.int .i64 st,wv,.int .i64 3,.int .i64 nu,(PT lb),dp,.int .i64 at_,.int .i64 e0,.bool won]) (hbG : b ∉ G) (hb0 : w0.heap.size ≤ b) (hl : Ld.At w y n lb l vv) (hlG : lb ∉ G) (hl0 : w0.heap.size ≤ lb) (hvG : ∀ u,u ∈ vblk vv → w0.heap.size ≤ u ∧ u ∉ G) (hin : l.In n) (n8 : n ≤ 8) (hj : JD w jb c d) (hjG : jb ∉ G) (hj0 : w0.heap.size ≤ jb) (hd0 : 0 ≤ d) (hd1 : d ≤ 64) (ht : 1 ≤ th ∧ th ≤ 8) :
 Calls Tryz.prog 18 #[PT b] w fun e w' => e = .returned (.int .i64 1) ∧ LW w0 w w' y G n jb b lb sl ge th st nu at_ won e0 wv vv dp c d l.victims (l.step S).2.2 (l.step S).2.1 := by
 have hll : l.victims.length ≤ 1099511627776 := by have := hin.sum; omega
 have hin' := hin.step hu
 have hcs : (l.step S).2.2.c = S.c := by
  unfold Lk.step
  split
  · rfl
  · split
    · rename_i t _ _ _; show (S.look t).2.c = S.c; unfold Sp.look; split <;> rfl
    · rename_i t _ _ _; show (S.word t l.words.length).2.c = S.c; unfold Sp.word; split <;> rfl
 have QS := Lib.hid (doc_step h hf hk hu hl hn hl0 hlG hvG hin.sg hll)
 have hbl : b ≠ lb := fun e => by have e1 := hl.ty; rw [← e,hb.tyOf] at e1; injection e1 with e1; exact absurd e1 (by decide)
 have hbv : b ∉ vblk vv := fun hx => by have e1 := own_in hl.own b hx; rw [hb.tyOf] at e1; injection e1 with e1; exact absurd e1 (by decide)
 have hjl : jb ≠ lb := fun e => by have e1 := hl.ty; rw [← e,hj.tyOf] at e1; injection e1 with e1; exact absurd e1 (by decide)
 have hjv : jb ∉ vblk vv := fun hx => by have e1 := own_in hl.own jb hx; rw [hj.tyOf] at e1; injection e1 with e1; exact absurd e1 (by decide)
 have HBW : Hid (b ∉ lb :: (vblk vv ++ G)) := by simp [Hid]; exact ⟨hbl,hbv,hbG⟩
 have HJW : Hid (jb ∉ lb :: (vblk vv ++ G)) := by simp [Hid]; exact ⟨hjl,hjv,hjG⟩
 have HL := Lib.hid hl
 have HB := Lib.hid hb
 have HJ := Lib.hid hj
 have HG := Lib.hid (And.intro hbG (And.intro hb0 (And.intro hjG hj0)))
 have HN := Lib.hid (And.intro (show (l.step S).2.2.c.slots = (n : Int) by rw [hcs]; exact hn) (And.intro hin' (And.intro hc (And.intro hd0 (And.intro hd1 (And.intro ht n8))))))
 have m7 : w.cell? ⟨b,7,none⟩ = some (.int .i64 3) := (hb.cell 7).trans rfl
 have m9 : w.cell? ⟨b,9,none⟩ = some (PT lb) := (hb.cell 9).trans rfl
 have HPL := Lib.hid h.lt
 clear h hf hk hu hn hc hb hbG hb0 hl hlG hl0 hvG hin n8 hj hjG hj0 hd0 hd1 ht hll hin' hcs hbl hbv hjl hjv
 obtain ⟨ans,hans⟩ : ∃ v,(l.step S).1 = v := ⟨_,rfl⟩
 rw [hans] at QS
 generalize (l.step S).2.2 = S' at *
 generalize (l.step S).2.1 = l' at *
 clear hans
 go_enter Tryz.func18,Tryz.ntmps18
 go_wp2_with fail
 refine QS.out.mono ?_
 rintro e w4 ⟨rfl,G',vv',h1,h2,h3,h4,h5,h6⟩
 have HB4 := Lib.hid (HB.out.keeps h3 HBW.out)
 have HJ4 := Lib.hid (Blk.keeps HJ.out h3 HJW.out)
 have HW := Lib.hid (And.intro h1 (And.intro h2 (And.intro h3 (And.intro h4 (And.intro h5 h6)))))
 have QX := Lib.hid (Ld.done h2 h1 HN.out.1)
 have HBG1 : Hid (b ∉ G') := fun hx => by
  rcases h4 b hx with h7 | h7
  · exact HG.out.1 h7
  · have h8 := HB.out.lt; omega
 have HJG1 : Hid (jb ∉ G') := fun hx => by
  rcases h4 jb hx with h7 | h7
  · exact HG.out.2.2.1 h7
  · have h8 := HJ.out.lt; omega
 have m9 : w4.cell? ⟨b,9,none⟩ = some (PT lb) := (HB4.out.cell 9).trans rfl
 clear h1 h2 h3 h4 h5 h6 QS m7
 go_wp2_with fail
 refine QX.out.mono ?_
 rintro e w5 ⟨rfl,hk5⟩
 have HB5 := Lib.hid (HB4.out.keeps hk5 (by simp))
 have HJ5 := Lib.hid (Blk.keeps HJ4.out hk5 (by simp))
 have HP5 := Lib.hid (HW.out.1.calm hk5)
 have HA5 := Lib.hid (HW.out.2.1.calm hk5)
 have HK5 := Lib.hid (HW.out.2.2.1.trans hk5 (by simp))
 have HO5 : Hid (Olds w5 vv l.victims) := fun u hu => by
  obtain ⟨h7,h8⟩ := HW.out.2.2.2.2.2 u hu
  exact ⟨tyOf_keeps h7 hk5 (by simp),fun i v hv => (World.cell?_of_block (hk5.block u (tyOf_lt h7) (by simp))).trans (h8 i v hv)⟩
 clear hk5 QX m9
 cases htu : l'.turns with
 | cons t r =>
   have HT := Lib.hid htu
   clear htu
   try simp only [List.isEmpty_cons]
   go_wp2_with fail
   go_ret
   exact ⟨rfl,G',vv',HP5.out,HA5.out,HO5.out,HK5.out.mono (fun z hz => .inl (by simp at hz ⊢; rcases hz with hz | hz | hz <;> simp [hz])),HW.out.2.2.2.1,HW.out.2.2.2.2.1,.inl ⟨by rw [HT.out]; simp,HB5.out,HJ5.out⟩⟩
 | nil =>
   have HT := Lib.hid htu
   clear htu
   try simp only [List.isEmpty_nil]
   have QJ := Lib.hid (judged_walk HP5.out HN.out.1 HB5.out HBG1.out HA5.out HJ5.out HJG1.out HG.out.2.2.2 HN.out.2.2.1 HN.out.2.2.2.1 HN.out.2.2.2.2.1 (vs := l'.victims) rfl HN.out.2.1.vs HN.out.2.2.2.2.2.1 (by have := HN.out.2.1.sum; have := HN.out.2.2.2.2.2.2; omega))
   go_wp2_with fail
   refine QJ.out.mono ?_
   rintro e w8 ⟨rfl,hjw⟩
   have HJW2 := Lib.hid hjw
   clear hjw
   go_wp2_with fail
   go_ret
   have hkj := HJW2.out.2.1
   have hp9 := HP5.out.away hkj (fun z hz => by
    simp at hz
    rcases hz with hz | hz
    · subst hz; exact ⟨HG.out.2.1,HBG1.out,fun t ht => by rw [HB5.out.tyOf] at ht; injection ht with ht; subst ht; decide⟩
    · subst hz; exact ⟨HG.out.2.2.2,HJG1.out,fun t ht => by rw [HJ5.out.tyOf] at ht; injection ht with ht; subst ht; decide⟩)
   have hno : ∀ u,(tyOf w5 u = some 135 ∨ tyOf w5 u = some 113) → u ∉ [b,jb] := fun u hu hx => by
    simp at hx
    rcases hx with hx | hx <;> rcases hu with hu | hu
    · rw [hx,HB5.out.tyOf] at hu; injection hu with hu; exact absurd hu (by decide)
    · rw [hx,HB5.out.tyOf] at hu; injection hu with hu; exact absurd hu (by decide)
    · rw [hx,HJ5.out.tyOf] at hu; injection hu with hu; exact absurd hu (by decide)
    · rw [hx,HJ5.out.tyOf] at hu; injection hu with hu; exact absurd hu (by decide)
   have hla := HA5.out.keeps hkj (hno _ (.inl HA5.out.ty)) (fun u hu => hno u (.inr (own_in HA5.out.own u (by simp [vblk,hu]))))
   have hol : Olds w8 vv l.victims := fun u hu => by
    obtain ⟨h7,h8⟩ := HO5.out u hu
    exact ⟨tyOf_keeps h7 hkj (hno u (.inr h7)),fun i v hv => (World.cell?_of_block (hkj.block u (tyOf_lt h7) (hno u (.inr h7)))).trans (h8 i v hv)⟩
   exact ⟨rfl,G',vv',hp9,hla,hol,(HK5.out.mono (fun z hz => .inl (by simp at hz ⊢; rcases hz with hz | hz | hz <;> simp [hz]))).trans hkj (fun z hz => .inl (by simp at hz ⊢; rcases hz with hz | hz <;> simp [hz])),HW.out.2.2.2.1,HW.out.2.2.2.2.1,.inr ⟨HT.out,w5,HK5.out.size,HJW2.out⟩⟩
def DW (w0 w w' : World) (y : Rb) (G : List Nat) (jb b db : Nat) (sl ge th st nu at_ : Int) (won : Bool) (e0 : Int) (wv lp : Value) (A : Option Addr) (cc : Nat) (L : List Vc) (dv : Value) (D : List Vc) (S' : Sp) (q' : Dm) : Prop :=
 ∃ G' dv',RP w0 w' y G' S' ∧ DAt w' y db q' A cc L dv' ∧ Olds w' dv D ∧ Keeps (b :: db :: (vblk dv ++ G)) w w' ∧ (∀ z,z ∈ G' → z ∈ G ∨ w.heap.size ≤ z) ∧ (∀ q,q ∈ vblk dv' → q ∈ vblk dv ∨ w.heap.size ≤ q ∧ q ∉ G') ∧ Blk w' b 167 #[PT y.p,PT jb,.int .i64 sl,.int .i64 ge,.int .i64 th,.int .i64 st,wv,.int .i64 (if q'.left = [] then 5 else 4),.int .i64 nu,lp,(PT db),.int .i64 at_,.int .i64 e0,.bool won]
set_option maxRecDepth 100000 in
set_option maxHeartbeats 4000000 in
theorem step_doom (h : RP w0 w y G S) (hf : Fit k S) (hk : k ≤ 1099511627776) (hb : Blk w b 167 #[PT y.p,PT jb,.int .i64 sl,.int .i64 ge,.int .i64 th,.int .i64 st,wv,.int .i64 4,.int .i64 nu,lp,(PT db),.int .i64 at_,.int .i64 e0,.bool won]) (hbG : b ∉ G) (hb0 : w0.heap.size ≤ b) (hd : DAt w y db q A cc L dv) (hdG : db ∉ G) (hd0 : w0.heap.size ≤ db) (hvG : ∀ u,u ∈ vblk dv → w0.heap.size ≤ u ∧ u ∉ G) (hA : 0 < L.length → ∀ u off,A = some ⟨u,off,none⟩ → u ∉ G ∧ u ≠ db ∧ u ∉ vblk dv ∧ u ≠ b) (hl8 : q.doomed.length ≤ 8) :
 Calls Tryz.prog 18 #[PT b] w fun e w' => e = .returned (.int .i64 1) ∧ DW w0 w w' y G jb b db sl ge th st nu at_ won e0 wv lp A cc L dv q.doomed (q.step S).2.2 (q.step S).2.1 := by
 have QS := Lib.hid (doom_step h hf hk hd hd0 hdG hvG (fun h0 u off e => ⟨(hA h0 u off e).1,(hA h0 u off e).2.1,(hA h0 u off e).2.2.1⟩) (by omega))
 have hbl : b ≠ db := fun e => by have e1 := hd.ty; rw [← e,hb.tyOf] at e1; injection e1 with e1; exact absurd e1 (by decide)
 have hbv : b ∉ vblk dv := fun hx => by have e1 := own_in hd.own b hx; rw [hb.tyOf] at e1; injection e1 with e1; exact absurd e1 (by decide)
 have HBW : Hid (b ∉ db :: (vblk dv ++ G)) := by simp [Hid]; exact ⟨hbl,hbv,hbG⟩
 have HB := Lib.hid hb
 have HG := Lib.hid (And.intro hbG hb0)
 have HAA := Lib.hid hA
 have m7 : w.cell? ⟨b,7,none⟩ = some (.int .i64 4) := (hb.cell 7).trans rfl
 have m10 : w.cell? ⟨b,10,none⟩ = some (PT db) := (hb.cell 10).trans rfl
 clear h hf hk hb hbG hb0 hd hdG hd0 hvG hA hl8 hbl hbv
 obtain ⟨ans,hans⟩ : ∃ v,(q.step S).1 = v := ⟨_,rfl⟩
 rw [hans] at QS
 generalize (q.step S).2.2 = S' at *
 generalize (q.step S).2.1 = q' at *
 clear hans
 go_enter Tryz.func18,Tryz.ntmps18
 go_wp2_with fail
 refine QS.out.mono ?_
 rintro e w4 ⟨rfl,G',dv',h1,h2,h3,h4,h5,h6⟩
 have HB4 := Lib.hid (HB.out.keeps h3 HBW.out)
 have HW := Lib.hid (And.intro h1 (And.intro h2 (And.intro h3 (And.intro h4 (And.intro h5 h6)))))
 have QX := Lib.hid (ddone h2)
 have HBG1 : Hid (b ∉ G') := fun hx => by
  rcases h4 b hx with h7 | h7
  · exact HG.out.1 h7
  · have h8 := HB.out.lt; omega
 have m10 : w4.cell? ⟨b,10,none⟩ = some (PT db) := (HB4.out.cell 10).trans rfl
 clear h1 h2 h3 h4 h5 h6 QS m7
 go_wp2_with fail
 refine QX.out.mono ?_
 rintro e w5 ⟨rfl,hk5⟩
 have HB5 := Lib.hid (HB4.out.keeps hk5 (by simp))
 have HP5 := Lib.hid (HW.out.1.calm hk5)
 have HA5 := Lib.hid (HW.out.2.1.calm hk5)
 have HK5 := Lib.hid (HW.out.2.2.1.trans hk5 (by simp))
 have HO5 : Hid (Olds w5 dv q.doomed) := fun u hu => by
  obtain ⟨h7,h8⟩ := HW.out.2.2.2.2.2 u hu
  exact ⟨tyOf_keeps h7 hk5 (by simp),fun i v hv => (World.cell?_of_block (hk5.block u (tyOf_lt h7) (by simp))).trans (h8 i v hv)⟩
 have m7 : w5.cell? ⟨b,7,none⟩ = some (.int .i64 4) := (HB5.out.cell 7).trans rfl
 have f7 := HB5.out.frozen 7
 clear hk5 QX m10
 cases htu : q'.left with
 | cons t r =>
   have HT := Lib.hid htu
   clear htu
   try simp only [List.isEmpty_cons]
   go_wp2_with fail
   go_ret
   refine ⟨rfl,G',dv',HP5.out,HA5.out,HO5.out,HK5.out.mono (fun z hz => .inl (by simp at hz ⊢; rcases hz with hz | hz | hz <;> simp [hz])),HW.out.2.2.2.1,HW.out.2.2.2.2.1,?_⟩
   rw [if_neg (by rw [HT.out]; simp)]
   exact HB5.out
 | nil =>
   have HT := Lib.hid htu
   clear htu
   try simp only [List.isEmpty_nil]
   go_wp2_with fail
   go_ret
   have hkf : Keeps [b] w5 (w5.setCell ⟨b,7,none⟩ (.int .i64 5)) := (Keeps.refl [b] w5).setCell (.inl (by simp)) _
   have hp9 := HP5.out.away hkf (fun z hz => by simp at hz; subst hz; exact ⟨HG.out.2,HBG1.out,fun t ht => by rw [HB5.out.tyOf] at ht; injection ht with ht; subst ht; decide⟩)
   have hno : ∀ u,(tyOf w5 u = some 142 ∨ tyOf w5 u = some 113) → u ∉ [b] := fun u hu hx => by
    simp at hx
    rcases hu with hu | hu
    · rw [hx,HB5.out.tyOf] at hu; injection hu with hu; exact absurd hu (by decide)
    · rw [hx,HB5.out.tyOf] at hu; injection hu with hu; exact absurd hu (by decide)
   have hda := HA5.out.keeps hkf (hno _ (.inl HA5.out.ty)) (fun u hu => hno u (.inr (own_in HA5.out.own u hu))) (fun h0 u off e hx => by simp at hx; exact (HAA.out h0 u off e).2.2.2 hx)
   have hol : Olds (w5.setCell ⟨b,7,none⟩ (.int .i64 5)) dv q.doomed := fun u hu => by
    obtain ⟨h7,h8⟩ := HO5.out u hu
    exact ⟨tyOf_keeps h7 hkf (hno u (.inr h7)),fun i v hv => (World.cell?_of_block (hkf.block u (tyOf_lt h7) (hno u (.inr h7)))).trans (h8 i v hv)⟩
   refine ⟨rfl,G',dv',hp9,hda,hol,(HK5.out.mono (fun z hz => .inl (by simp at hz ⊢; rcases hz with hz | hz | hz <;> simp [hz]))).trans hkf (fun z hz => .inl (by simp at hz ⊢; simp [hz])),HW.out.2.2.2.1,HW.out.2.2.2.2.1,?_⟩
   rw [if_pos HT.out]
   exact HB5.out.set_ 7 (.int .i64 5)
end
end Cd
end Go.Proofs.YtmlnedilbneekaaGreat