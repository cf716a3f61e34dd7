/- CommitPlays: the walk: what the call does, wherever what it reads is of bulk at most 1048576. -/
import Derived.Test.YtmlnedilbneekaaGreatCmMost
import Derived.Test.YtmlnedilbneekaaGreatOneStruct
import Derived.Test.YtmlnedilbneekaaGreatRegT
import Derived.Deep.RegionHeld3
import Derived.Deep.QuietTactic
import Derived.BigQuiet
import Derived.Deep.DeepCutAuto
import Derived.Deep.CutBlock
import Derived.WalkKit
import Derived.Test.YtmlnedilbneekaaGreatMake
set_option linter.unusedVariables false
set_option linter.unusedSimpArgs false
namespace Go.Proofs.YtmlnedilbneekaaGreat.commitPlays
open Go.RowKit Pol
open PR CP Cd Rj
theorem vs8 {n : Nat} {x : Cm} (h : x.Ok n) : x.victims.length ≤ 8 := by
 unfold Cm.victims
 cases hl : x.lk with
 | none => simp
 | some l => have h1 := (h.lk l hl).sum; have h2 := h.n8; simp only; omega
set_option maxRecDepth 100000 in
set_option maxHeartbeats 32000000 in
theorem walk (cf : Cf) (A : Option Addr) (nn c : Nat) (ops : List Op13) (w : World) (hs : LstOp13 w A nn c ops) :
 Calls Tryz.prog 4 #[.agg #[.int .i64 cf.cells,.int .i64 cf.slots,.int .i64 cf.bits,.int .i64 cf.tag,.int .i64 cf.bias,.int .i64 cf.defer],.slice A nn c] w fun e w' => e = .returned (.bool true) ∧ Below w.heap.size w w' := by
 have HSC := Lib.hid hs
 have hn := hs.2.2.1
 have hni : (nn : Int) ≤ 1048576 := by omega
 clear hs
 have kB : Keeps [] w (w.alloc (.cells cf.vals 23)) := Sq.r.alloc _
 have hb : Blk (w.alloc (.cells cf.vals 23)) w.heap.size 23 cf.vals := Blk.new _ _ _
 have HKB := Lib.hid kB
 have HBB := Lib.hid hb
 clear kB hb
 go_enter Tryz.func4,Tryz.ntmps4
 go_wp2_with fail
 refine (awake13 _).mono ?_
 rintro e w1 ⟨rfl,hk1⟩
 have HK1 : Hid (Keeps [] w w1) := HKB.out.trans hk1 (by simp)
 have HB1 : Hid (Blk w1 w.heap.size 23 cf.vals) := HBB.out.keeps hk1 (by simp)
 clear hk1 HKB HBB
 obtain ⟨d0,d1,d2,d3,d4,d5⟩ := cf_cells HB1.out
 go_wp2_with fail
 by_cases hok : cf.ok
 ·
  refine (sp_new w1 cf hok).mono ?_
  rintro e w2 ⟨z,F,rfl,hsp⟩
  have HS2 := Lib.hid (hsp.base HK1.out)
  have hk2 := hsp.keep
  have HB2 : Hid (Blk w2 w.heap.size 23 cf.vals) := HB1.out.keeps hk2 (by simp)
  clear hsp hk2 d0 d1 d2 d3 d4 d5 HB1
  obtain ⟨d0,d1,d2,d3,d4,d5⟩ := cf_cells HB2.out
  go_wp2_with fail
  refine (rp_new w2 cf hok).mono ?_
  rintro e w3 ⟨y,G,rfl,hrp⟩
  have HT : Hid (Two w w3 z F y G (Sp.new cf) (Sp.new cf)) := by
   have hk3 := hrp.keep
   refine ⟨HS2.out.calm hk3,hrp.base HS2.out.keep,fun x hx hg => ?_⟩
   have h1 := HS2.out.lt x hx
   have h2 := hrp.low x hg
   omega
  have HB3 : Hid (Blk w3 w.heap.size 23 cf.vals) := HB2.out.keeps hrp.keep (by simp)
  clear hrp d0 d1 d2 d3 d4 d5 HS2 HB2 HK1
  have HOK := Lib.hid hok
  have hslt := hok.2.1
  obtain ⟨n,hcn⟩ : ∃ n : Nat,cf.slots = (n : Int) := ⟨cf.slots.toNat,by omega⟩
  have hn8 : n ≤ 8 := by omega
  have HN := Lib.hid (And.intro hcn hn8)
  have HF0 := Lib.hid (Fit.new hok)
  clear hslt hcn hn8
  go_upto_region 12 with fail
  obtain ⟨xb,hxb⟩ : ∃ v,w3.heap.size = v := ⟨_,rfl⟩
  obtain ⟨w4,hw4⟩ : ∃ v,((((w3.alloc (.cells #[.pointer none,.pointer none,.pointer none] 56)).alloc (.cells #[.pointer none,.pointer none,.pointer none] 58)).alloc (.cells #[.pointer none,.pointer none,.pointer none] 60)).alloc (.cells #[.pointer none,.pointer none,.pointer none] 62)) = v := ⟨_,rfl⟩
  have bx4 : Blk w4 xb 56 (arr3 (fun _ => (none : Option (Nat × Cm)))) := by rw [← hw4,← hxb]; exact (((Blk.new w3 _ _).alloc _).alloc _).alloc _
  have by4 : Blk w4 (xb + 1) 58 (arr3 (fun _ => (none : Option (Nat × Cm)))) := by
   rw [← hw4,← hxb]
   have h5 := Blk.new (w3.alloc (.cells #[.pointer none,.pointer none,.pointer none] 56)) 58 #[.pointer none,.pointer none,.pointer none]
   rw [World.size_alloc] at h5
   exact (h5.alloc _).alloc _
  have bj4 : Blk w4 (xb + 1 + 1) 60 (arr3 (fun _ => (none : Option (Nat × Int)))) := by
   rw [← hw4,← hxb]
   have h5 := Blk.new ((w3.alloc (.cells #[.pointer none,.pointer none,.pointer none] 56)).alloc (.cells #[.pointer none,.pointer none,.pointer none] 58)) 60 #[.pointer none,.pointer none,.pointer none]
   rw [World.size_alloc,World.size_alloc] at h5
   exact h5.alloc _
  have bk4 : Blk w4 (xb + 1 + 1 + 1) 62 (arr3 (fun _ => (none : Option (Nat × Int)))) := by
   rw [← hw4,← hxb]
   have h5 := Blk.new (((w3.alloc (.cells #[.pointer none,.pointer none,.pointer none] 56)).alloc (.cells #[.pointer none,.pointer none,.pointer none] 58)).alloc (.cells #[.pointer none,.pointer none,.pointer none] 60)) 62 #[.pointer none,.pointer none,.pointer none]
   rw [World.size_alloc,World.size_alloc,World.size_alloc] at h5
   exact h5
  have hk4 : Keeps [] w3 w4 := hw4 ▸ ((((Keeps.refl [] w3).alloc _).alloc _).alloc _).alloc _
  have HR0 := Lib.hid (CP.start (f := ⟨z,y,n,cf,xb,xb + 1,xb + 1 + 1,xb + 1 + 1 + 1⟩) (m := xb) (HT.out.sp.calm hk4) (HT.out.rp.calm hk4) HT.out.far (fun u hu => by rw [← hxb]; exact HT.out.sp.lt u hu) (fun u hu => by rw [← hxb]; exact HT.out.rp.lt u hu) (by rw [← hxb]; exact HT.out.sp.keep.size) (Nat.le_refl _) (Nat.lt_succ_self _) (Nat.lt_succ_self _) (Nat.lt_succ_self _) bx4 by4 bj4 bk4)
  have HB4 : Hid (Blk w4 w.heap.size 23 cf.vals) := HB3.out.keeps hk4 (by simp)
  try rw [hw4]
  try rw [hxb]
  obtain ⟨yb,hyb⟩ : ∃ v,xb + 1 = v := ⟨_,rfl⟩
  rw [hyb] at HR0
  try rw [hyb]
  obtain ⟨jb,hjb⟩ : ∃ v,yb + 1 = v := ⟨_,rfl⟩
  rw [hjb] at HR0
  try rw [hjb]
  obtain ⟨kb,hkb⟩ : ∃ v,jb + 1 = v := ⟨_,rfl⟩
  rw [hkb] at HR0
  try rw [hkb]
  obtain ⟨zb,hzb⟩ : ∃ v,w.heap.size = v := ⟨_,rfl⟩
  rw [hzb] at HB4
  have hzx : zb < xb := by have h5 := HB3.out.lt; omega
  try rw [hzb]
  have hzj : zb < jb := by omega
  have hzk : zb < kb := by omega
  clear hw4 hxb hyb hjb hkb hk4 bx4 by4 bj4 bk4 HT HB3
  go_wp2_with fail
  go_loopw [14] (fun i wr => ∃ (q : Nat) (J K : MJ),q ≤ 3 ∧ i = .int .i64 q ∧ Rg (⟨z,y,n,cf,xb,yb,jb,kb⟩ : Fx) w wr none (Sp.new cf) (Sp.new cf) (fun _ => none) (fun _ => none) J K ∧ Blk wr zb 23 cf.vals ∧ ∀ p,p < q → ∃ a b,J p = some (a,0) ∧ K p = some (b,0)) (fun i _ => 3 - (intOf i).toNat)
  case atStart => exact ⟨0,_,_,by omega,rfl,HR0.out,HB4.out,fun p hp => by omega⟩
  case round =>
   clear HR0 HB4
   obtain ⟨q,J,K,hq,rfl,hr,hb,hJ⟩ := hrel
   have HR := Lib.hid hr
   have HB := Lib.hid hb
   have HJ := Lib.hid hJ
   clear hr hb hJ
   by_cases hlt : q < 3
   ·
    have q0 : (0 : Int) ≤ (q : Int) := by omega
    have q1 : (q : Int) < (3 : Int) := by omega
    obtain ⟨d0,d1,d2,d3,d4,d5⟩ := cf_cells HB.out
    go_wp2_with fail
    refine (judge_new wr cf HOK.out).mono ?_
    rintro e w5 ⟨ja,rfl,hj5,hjl,hk5⟩
    have HJA := Lib.hid hj5
    have HJL := Lib.hid hjl
    have HK5 := Lib.hid hk5
    clear d0 d1 d2 d3 d4 d5 hj5 hjl
    obtain ⟨-,-,bj5,-⟩ := (HR.out.calm hk5).arrs
    have fj := bj5.frozen q
    have cj := ((HR.out.calm hk5).cells hlt).2.2.1
    clear bj5 hk5
    go_upto_region 19 with fail
    obtain ⟨w6,hw6⟩ : ∃ v,w5.setCell ⟨jb,q,none⟩ (PT ja) = v := ⟨_,rfl⟩
    have HR6 := Lib.hid (CP.setJ HR.out hlt HK5.out HJA.out HJL.out hw6)
    have hk6 : Keeps [jb] w5 w6 := hw6 ▸ Sq.r.setCell (.inl (by simp)) _
    try rw [hw6]
    have hb6 : Blk w6 zb 23 cf.vals := (HB.out.keeps HK5.out (by simp)).keeps hk6 (by simp; omega)
    have HB6 := Lib.hid hb6
    obtain ⟨d0,d1,d2,d3,d4,d5⟩ := cf_cells hb6
    obtain ⟨-,-,-,bk6⟩ := HR6.out.arrs
    have fk := bk6.frozen q
    have ck := (HR6.out.cells hlt).2.2.2
    have kl : kb < w6.heap.size := bk6.lt
    clear hw6 bk6 hb6 hk6 HR cj fj HJA HJL HK5 HB
    go_wp2_with fail
    have hv := World.setCell_alloc_past (w := w6) (.cells (Rj.jv cf 0) 66) kb q (PT w6.heap.size) kl
    have hb7 : Blk (w6.alloc (.cells (Rj.jv cf 0) 66)) zb 23 cf.vals := HB6.out.alloc _
    refine ⟨⟨q + 1,_,_,by omega,by simp,CP.setK HR6.out hlt (Sq.r.alloc _) (Blk.new w6 66 (Rj.jv cf 0)) (Nat.le_refl _) hv,?_,fun p hp => ?_⟩,by simp [intOf]; omega⟩
    · exact hv ▸ hb7.keeps (((Keeps.refl [kb] _).setCell (.inl (by simp)) _)) (by simp; omega)
    · by_cases e : p = q
      · subst e; exact ⟨_,_,upd_at _ _ _,upd_at _ _ _⟩
      · rw [upd_off _ _ _ e,upd_off _ _ _ e]; exact HJ.out p (by omega)
   ·
    obtain rfl : q = 3 := by omega
    have HI0 : Hid (Ins (⟨z,y,n,cf,xb,yb,jb,kb⟩ : Fx) w wr 0 (Sp.new cf) (fun _ => none) (fun _ => none) J K) := ⟨HR.out,HF0.out,Sp.new_wu cf,rfl,fun j => .inl ⟨rfl,rfl⟩,fun j hj => by
     obtain ⟨a,b,h1,h2⟩ := HJ.out j hj
     exact ⟨a,b,0,h1,h2,by omega,by omega⟩⟩
    clear hlt hq HR HB HJ HF0
    go_wp2_with fail
    go_loopw [17] (fun i wr => ∃ (k : Nat) (S : Sp) (X Y : MC) (J K : MJ),k ≤ nn ∧ i = .int .i64 k ∧ Ins (⟨z,y,n,cf,xb,yb,jb,kb⟩ : Fx) w wr k S X Y J K) (fun i _ => nn - (intOf i).toNat)
    case atStart => exact ⟨0,_,_,_,_,_,Nat.zero_le _,rfl,HI0.out⟩
    case round =>
     clear HI0
     obtain ⟨k,S,X,Y,J,K,hk,rfl,hI⟩ := hrel
     have HI := Lib.hid hI
     clear hI
     by_cases hlt : k < nn
     ·
      obtain ⟨ab,off,p,rfl,hp,hvs,hcell⟩ := HSC.out.at_ hlt
      have hop := hcell wr HI.out.rg.keep
      have c0 := hop.c0
      have c1 := hop.c1
      have c2 := hop.c2
      have c3 := hop.c3
      have c4 := hop.c4
      have c5 := hop.c5
      have c6 := hop.c6
      have c7 := hop.c7
      have c8 := hop.c8
      have c9 := hop.c9
      have hcap := hop.cap
      have hln := hop.ln
      have k0 : (0 : Int) ≤ (k : Int) := by omega
      have k1 : (k : Int) < (nn : Int) := by omega
      clear hop hcell hp
      obtain ⟨kd,mm,pi,pn,px,sl,ge,th,st,A0,cw,ws⟩ := p
      simp only at c0 c1 c2 c3 c4 c5 c6 c7 c8 c9 hvs hcap hln
      obtain ⟨m,hm⟩ : ∃ m,ws.length = m := ⟨_,rfl⟩
      rw [hm] at c9 hcap hln
      have HM := Lib.hid hm
      have HM8 : Hid (m ≤ 1048576) := hln
      have HCAP0 := Lib.hid hcap
      obtain ⟨r4,hr4⟩ : ∃ r : Nat,mm % 4 = (r : Int) := ⟨(mm % 4).toNat,by omega⟩
      obtain ⟨j,hj⟩ : ∃ j : Nat,r4 % 3 = j := ⟨_,rfl⟩
      have hj3 : j < 3 := by omega
      have m3 : bits .and .i64 mm 3 = (r4 : Int) := (i64_and3 mm).trans hr4
      have hrem : (r4 : Int).tmod 3 = (j : Int) := by rw [Int.tmod_eq_emod_of_nonneg (by omega)]; omega
      have j0 : (0 : Int) ≤ (j : Int) := by omega
      have j1 : (j : Int) < 3 := by omega
      have hr41 : (0 : Int) ≤ (r4 : Int) ∧ (r4 : Int) < 4 := by omega
      have HR1 := Lib.hid (HI.out.rg.laid #[.int .i64 kd,.int .i64 mm,.int .i64 pi,.int .i64 pn,.int .i64 px,.int .i64 sl,.int .i64 ge,.int .i64 th,.int .i64 st,.slice A0 m cw])
      clear hj hr4 hm hln hcap
      go_upto_region 24 with fail
      obtain ⟨wa,hwa⟩ : ∃ v,wr.alloc (.cells #[.int .i64 kd,.int .i64 mm,.int .i64 pi,.int .i64 pn,.int .i64 px,.int .i64 sl,.int .i64 ge,.int .i64 th,.int .i64 st,.slice A0 m cw] 71) = v := ⟨_,rfl⟩
      obtain ⟨bo,hbo⟩ : ∃ b,wr.heap.size = b := ⟨_,rfl⟩
      rw [hwa] at HR1
      rw [hbo] at HR1
      try rw [hwa]
      try rw [hbo]
      have bx := HR1.out.box
      clear hwa hbo c0 c1 c2 c3 c4 c5 c6 c7 c8 c9
      have d1 : wa.cell? ⟨bo,1,none⟩ = some (.int .i64 mm) := (bx.cell 1).trans rfl
      clear bx
      go_wp2_with fail
      refine (HR1.out.turn _).mono ?_
      rintro e w1' ⟨rfl,hr2⟩
      have yc := hr2.yc
      have HR2 := Lib.hid hr2
      clear hr2 d1 HR1
      go_wp2_with fail
      refine (HR2.out.begin _).mono ?_
      rintro e w2 ⟨rfl,hr3⟩
      have HR3 := Lib.hid hr3
      have bx := hr3.box
      have d0 : w2.cell? ⟨bo,0,none⟩ = some (.int .i64 kd) := (bx.cell 0).trans rfl
      have d1 : w2.cell? ⟨bo,1,none⟩ = some (.int .i64 mm) := (bx.cell 1).trans rfl
      have d2 : w2.cell? ⟨bo,2,none⟩ = some (.int .i64 pi) := (bx.cell 2).trans rfl
      have d3 : w2.cell? ⟨bo,3,none⟩ = some (.int .i64 pn) := (bx.cell 3).trans rfl
      have d4 : w2.cell? ⟨bo,4,none⟩ = some (.int .i64 px) := (bx.cell 4).trans rfl
      have d5 : w2.cell? ⟨bo,5,none⟩ = some (.int .i64 sl) := (bx.cell 5).trans rfl
      have d6 : w2.cell? ⟨bo,6,none⟩ = some (.int .i64 ge) := (bx.cell 6).trans rfl
      have d7 : w2.cell? ⟨bo,7,none⟩ = some (.int .i64 th) := (bx.cell 7).trans rfl
      have d8 : w2.cell? ⟨bo,8,none⟩ = some (.int .i64 st) := (bx.cell 8).trans rfl
      have d9 : w2.cell? ⟨bo,9,none⟩ = some (.slice A0 m cw) := (bx.cell 9).trans rfl
      have HF1 : Hid (Fit k (S.begin j)) := HI.out.fit.begin _
      have HC1 : Hid ((S.begin j).c = cf) := HI.out.c
      have HW1 : Hid ((S.begin j).wu) := HI.out.wu
      have HPC := Lib.hid HI.out.pc
      have HPJ := Lib.hid HI.out.pj
      have HPS : Hid (Ps w2 A0 ws) := hvs.keeps hr3.keep (by simp)
      obtain ⟨S1,hS1⟩ : ∃ v,S.begin j = v := ⟨_,rfl⟩
      rw [hS1] at HR3 HF1 HC1 HW1
      clear hr3 bx yc HR2 HI hS1 hvs m3 hrem hr41
      by_cases n20 : kd = 20
      ·
       subst n20
       as_aux_lemma =>
        obtain ⟨ja,ka,d,e3,e4,hd0,hd1⟩ := HPJ.out j hj3
        have HEJ := Lib.hid (And.intro e3 e4)
        clear e3 e4 hd0 hd1
        obtain ⟨i0,hi,hz0,hz1,hz2⟩ := info_parts Tryz.infoPr
        have hmx : Hid (0 + m ≤ maxLen) := by unfold Hid maxLen; have := HM8.out; omega
        have hby : Hid ((0 + m) * 16 ≤ 140737488355328) := by unfold Hid; have := HM8.out; omega
        have hmx2 : Hid (0 + m + 1 ≤ maxLen) := by unfold Hid maxLen; have := HM8.out; omega
        have hby2 : Hid ((0 + m + 1) * 16 ≤ 140737488355328) := by unfold Hid; have := HM8.out; omega
        have HLN : Hid ((prCells ws).length = m * 2) := by unfold Hid; rw [prCells_len,HM.out]
        have HSRC : Hid (0 < m → ∃ ad,A0 = some ad ∧ ∀ i u,(prCells ws)[i]? = some u → (w2.alloc (.cells #[] 81)).cell? (ad.add i) = some u) := fun h0 => by
         obtain ⟨q,off,eA,hc⟩ := (HPS.out.keeps ((Keeps.refl [] w2).alloc (.cells #[] 81)) (by simp)) (by rw [HM.out]; exact h0)
         exact ⟨_,eA,fun i u hu => by
          have e : (⟨q,off,none⟩ : Addr).add i = ⟨q,off + i,none⟩ := by unfold Addr.add; split <;> simp_all
          rw [e]; exact hc i u hu⟩
        have HD := Lib.hid (And.intro d5 (And.intro d6 (And.intro d7 (And.intro d8 d9))))
        have hbol : bo < w2.heap.size := HR3.out.box.lt
        go_upto_region 34 with (first
         | (at_builtin; refine wpList_append_src (o := ⟨some 118,_,_,_,_,_⟩) rfl (.tmp 114) (.tmp 117) 67 rfl 81 i0 _ 2 16 Tryz.underlying67 hi hz0 hz1 hz2 rfl (by decide) (.slice (some ⟨w2.heap.size,0,none⟩) 0 0) 0 [] rfl (own_new _ _ _ _ rfl) A0 m cw (prCells ws) rfl HLN.out HSRC.out (pr_one _) hmx.out hby.out ?_; intro v1 w3 hown1 hg1 hat1)
         | (at_builtin; refine wpList_append_lies _ (o := ⟨some 121,_,_,_,_,_⟩) rfl (.tmp 118) (.tmp 120) 67 rfl 0 81 i0 _ 2 16 Tryz.underlying67 hi hz0 hz1 hz2 rfl (by decide) v1 (0 + m) ([] ++ prCells ws) rfl (hown1.alloc _) ⟨w3.heap.size,0,none⟩ 1 1 mk.cells rfl rfl (World.news_of_block (new_at _ _ _ rfl)) (by simp [Value.oneCell',Pr.cells]) (by decide) hmx2.out hby2.out (Nat.zero_le _) _ rfl ?_; intro g2 cap wz hown2 hg2 hat2 hlt2; have HK := Lib.hid (grown2 hg1 hat1 _ hg2 hat2); have HO := Lib.hid hown2; have hcap1 := (own_cap hown2).1; have hcap0 : m ≤ cap := (by omega); have HCP := Lib.hid (own_cap hown2); clear hown1 hg1 hat1 hown2 hg2 hat2 d0 d1 d2 d3 d4 d5 d6 d7 d8 d9; have d5 := keeps_cell0 HK.out.1 HD.out.1; have d6 := keeps_cell0 HK.out.1 HD.out.2.1; have d7 := keeps_cell0 HK.out.1 HD.out.2.2.1; have d8 := keeps_cell0 HK.out.1 HD.out.2.2.2.1; have d9 := keeps_cell0 HK.out.1 HD.out.2.2.2.2; have hbo4 : bo < wz.heap.size := (Nat.lt_of_lt_of_le hbol HK.out.1.size)))
        have hkz : Keeps [] w2 (wz.alloc (.cells #[.int .i64 sl,.int .i64 ge,.int .i64 th,.int .i64 st,.slice (some ⟨g2,0,none⟩) m cap] 69)) := HK.out.1.alloc _
        have hgz : w2.heap.size ≤ g2 ∧ g2 < (wz.alloc (.cells #[.int .i64 sl,.int .i64 ge,.int .i64 th,.int .i64 st,.slice (some ⟨g2,0,none⟩) m cap] 69)).heap.size := ⟨HK.out.2,by rw [World.size_alloc]; omega⟩
        have hoz : (wz.alloc (.cells #[.int .i64 sl,.int .i64 ge,.int .i64 th,.int .i64 st,.slice (some ⟨g2,0,none⟩) m cap] 69)).ownsRow 0 81 2 (.slice (some ⟨g2,0,none⟩) (m + 1) cap) (m + 1) (prCells ws ++ mk.cells) := by
         have h5 := HO.out
         simp only [Nat.zero_add,List.nil_append] at h5
         exact h5.alloc _
        have hbz := Blk.new wz 69 #[.int .i64 sl,.int .i64 ge,.int .i64 th,.int .i64 st,.slice (some ⟨g2,0,none⟩) m cap]
        have HCAP : Hid (m + 1 ≤ cap ∧ cap ≤ maxLen) := ⟨by omega,HCP.out.2⟩
        obtain ⟨w4,hw4⟩ : ∃ v,wz.alloc (.cells #[.int .i64 sl,.int .i64 ge,.int .i64 th,.int .i64 st,.slice (some ⟨g2,0,none⟩) m cap] 69) = v := ⟨_,rfl⟩
        obtain ⟨ob,hob⟩ : ∃ v,wz.heap.size = v := ⟨_,rfl⟩
        rw [hw4] at hkz hgz hoz hbz
        rw [hob] at hbz
        try rw [hw4]
        try rw [hob]
        have HK24 := Lib.hid hkz
        have HG2 := Lib.hid hgz
        have HO4 := Lib.hid hoz
        have HOB := Lib.hid hbz
        have HOF := Lib.hid (own_front hoz HLN.out (Nat.le_succ m))
        obtain ⟨F3,hsp⟩ := (HR3.out.calm hkz).sp
        clear hw4 hob hkz hgz hoz hbz HO HCP hcap0 hcap1 hlt2 HK d5 d6 d7 d8 d9 hbo4 HSRC HD hbol hmx hby hmx2 hby2 hi hz0 hz1 hz2 HCAP0
        by_cases hE : mayE cf sl th st ws = 0
        ·
         as_aux_lemma =>
          have HEE := Lib.hid hE
          have QN : Hid (∀ w',Keeps [] w4 w' → Calls Tryz.prog 15 #[PT z.p,PT ja,.agg #[.int .i64 sl,.int .i64 ge,.int .i64 th,.int .i64 st,.slice (some ⟨g2,0,none⟩) m cap]] w' fun e w'' => ∃ a H,e = .returned (.tuple #[PT a,.int .i64 0]) ∧ CmN w w'' z F3 ja a H 0 (stgVal 0 .take) (Cm.new sl ge th st ws) ∧ (∀ q,q ∈ H → w4.heap.size ≤ q) ∧ Keeps [] w4 w'') := fun w' hk => by
           have h5 := cm_new (jb := ja) (hsp.calm hk) HF1.out sl ge th st (some ⟨g2,0,none⟩) cap ws (by rw [HM.out]; exact SlR.of_own (own_keeps HOF.out hk (by simp))) (by rw [HC1.out]; exact hE)
           rw [HM.out] at h5
           have hz := hk.size
           exact h5.mono fun e w'' ⟨a,H,he,h1,h2,h3⟩ => ⟨a,H,he,h1,fun q hq => Nat.le_trans hz (h2 q hq),hk.trans h3 (by simp)⟩
          have HC34 : Hid (∀ w',Keeps [] w4 w' → w'.cell? ⟨jb,j,none⟩ = some (PT ja) ∧ w'.cell? ⟨ob,0,none⟩ = some (.int .i64 sl) ∧ w'.cell? ⟨ob,1,none⟩ = some (.int .i64 ge) ∧ w'.cell? ⟨ob,2,none⟩ = some (.int .i64 th) ∧ w'.cell? ⟨ob,3,none⟩ = some (.int .i64 st) ∧ w'.cell? ⟨ob,4,none⟩ = some (.slice (some ⟨g2,0,none⟩) m cap)) := fun w' hk => by
           have h5 := ((HR3.out.calm (HK24.out.trans hk (by simp))).cells hj3).2.2.1
           rw [HEJ.out.1] at h5
           have h6 := HOB.out.keeps hk (by simp)
           exact ⟨h5,(h6.cell 0).trans rfl,(h6.cell 1).trans rfl,(h6.cell 2).trans rfl,(h6.cell 3).trans rfl,(h6.cell 4).trans rfl⟩
          have hkB : Keeps [] w4 w4 := Keeps.refl _ _
          clear hsp
          go_region_held3 (fun w' => w'.cell? ⟨jb,j,none⟩ = some (PT ja) ∧ w'.cell? ⟨ob,0,none⟩ = some (.int .i64 sl) ∧ w'.cell? ⟨ob,1,none⟩ = some (.int .i64 ge) ∧ w'.cell? ⟨ob,2,none⟩ = some (.int .i64 th) ∧ w'.cell? ⟨ob,3,none⟩ = some (.int .i64 st) ∧ w'.cell? ⟨ob,4,none⟩ = some (.slice (some ⟨g2,0,none⟩) m cap)) (first | with_reducible exact HC34.out _ (by first | with_reducible assumption | with_reducible exact Keeps.drew (by with_reducible assumption)) | go_keep) ((go_at_call 15; (with_reducible refine (QN.out _ (by first | with_reducible assumption | with_reducible exact Keeps.drew (by with_reducible assumption))).mono ?_); rintro e w5 ⟨a,Hm,rfl,ha,hla,hk5⟩; have HA := Lib.hid (And.intro ha hla); clear ha hla))
          clear hkB HC34 QN
          have HK45 := Lib.hid hk5
          obtain ⟨_,hrp⟩ := (HR3.out.calm (HK24.out.trans hk5 (by simp))).rp
          have QR : Hid (∀ w',Keeps [] w5 w' → Calls Tryz.prog 16 #[PT y.p,PT ka,.int .i64 sl,.int .i64 ge,.int .i64 th,.int .i64 st,.slice A0 m cw] w' fun e w'' => ∃ b F,e = .returned (.tuple #[PT b,.int .i64 0]) ∧ CD w'' y n ka b (Cm.new sl ge th st ws) F ∧ (∀ u,u ∈ F → w5.heap.size ≤ u) ∧ (∀ u,u ∈ F → ∃ t,tyOf w'' u = some t ∧ t ∉ fixT) ∧ Keeps [] w5 w'') := fun w' hk => by
           have h5 := cd_new (jb := ka) (hrp.calm hk) HC1.out (by rw [HC1.out]; exact HN.out.1) sl ge th st A0 cw ws (HPS.out.keeps ((HK24.out.trans hk5 (by simp)).trans hk (by simp)) (by simp)) (by rw [HM.out]; exact HM8.out)
           rw [HM.out] at h5
           refine h5.mono fun e w'' ⟨g1,g2,g3⟩ => ?_
           have hz := hk.size
           obtain ⟨b,F,he,h1,h2,h3⟩ := g1 hE
           exact ⟨b,F,he,h1,fun u hu => Nat.le_trans hz (h2 u hu),h3,hk.trans g3 (by simp)⟩
          have HC35 : Hid (∀ w',Keeps [] w5 w' → w'.cell? ⟨kb,j,none⟩ = some (PT ka) ∧ w'.cell? ⟨bo,5,none⟩ = some (.int .i64 sl) ∧ w'.cell? ⟨bo,6,none⟩ = some (.int .i64 ge) ∧ w'.cell? ⟨bo,7,none⟩ = some (.int .i64 th) ∧ w'.cell? ⟨bo,8,none⟩ = some (.int .i64 st) ∧ w'.cell? ⟨bo,9,none⟩ = some (.slice A0 m cw)) := fun w' hk => by
           have h4 := HR3.out.calm ((HK24.out.trans hk5 (by simp)).trans hk (by simp))
           have h5 := (h4.cells hj3).2.2.2
           rw [HEJ.out.2] at h5
           have h6 := h4.box
           exact ⟨h5,(h6.cell 5).trans rfl,(h6.cell 6).trans rfl,(h6.cell 7).trans rfl,(h6.cell 8).trans rfl,(h6.cell 9).trans rfl⟩
          have hkB : Keeps [] w5 w5 := Keeps.refl _ _
          clear hrp
          go_upto_region 35 with fail
          go_region_held3 (fun w' => w'.cell? ⟨kb,j,none⟩ = some (PT ka) ∧ w'.cell? ⟨bo,5,none⟩ = some (.int .i64 sl) ∧ w'.cell? ⟨bo,6,none⟩ = some (.int .i64 ge) ∧ w'.cell? ⟨bo,7,none⟩ = some (.int .i64 th) ∧ w'.cell? ⟨bo,8,none⟩ = some (.int .i64 st) ∧ w'.cell? ⟨bo,9,none⟩ = some (.slice A0 m cw)) (first | with_reducible exact HC35.out _ (by first | with_reducible assumption | with_reducible exact Keeps.drew (by with_reducible assumption)) | go_keep) ((go_at_call 16; (with_reducible refine (QR.out _ (by first | with_reducible assumption | with_reducible exact Keeps.drew (by with_reducible assumption))).mono ?_); rintro e w6 ⟨b,Hd,rfl,hb,hlb,htb,hk6⟩; have HB := Lib.hid (And.intro hb (And.intro hlb htb)); clear hb hlb htb))
          clear hkB HC35 QR
          have HK56 := Lib.hid hk6
          have HKQ : Hid (Keeps [] w2 w6) := (HK24.out.trans hk5 (by simp)).trans hk6 (by simp)
          have RN : Hid (∀ w7 w8,Keeps [g2] w6 w7 → Keeps [xb,yb] w7 w8 → Blk w8 xb 56 (arr3 (upd' X j (some (a,Cm.new sl ge th st ws)))) → Blk w8 yb 58 (arr3 (upd' Y j (some (b,Cm.new sl ge th st ws)))) → Rg (⟨z,y,n,cf,xb,yb,jb,kb⟩ : Fx) w w8 (some (bo,#[.int .i64 20,.int .i64 mm,.int .i64 pi,.int .i64 pn,.int .i64 px,.int .i64 sl,.int .i64 ge,.int .i64 th,.int .i64 st,.slice A0 m cw])) S1 S1 (upd' X j (some (a,Cm.new sl ge th st ws))) (upd' Y j (some (b,Cm.new sl ge th st ws))) J K) := fun w7 w8 hk7 hk8 hbx hby => by
           refine renew (Hm := Hm) (Hd := Hd) HR3.out (HKQ.out.trans hk7 (fun u hu => .inr (by simp at hu; have := HG2.out.1; omega))) ⟨ja,d,0,HEJ.out.1,(CmN.bare HA.out.1).keeps (HK56.out.mono (T := [g2]) (by simp) |>.trans hk7 (fun u hu => .inl hu)) (fun u hu hx => by simp at hx; have h5 := HA.out.2 u hu; have h6 := HG2.out.2; omega) (by simp)⟩ (fun u hu => Nat.le_trans HK24.out.size (HA.out.2 u hu)) ⟨ka,d,HEJ.out.2,HB.out.1.keeps hk7 (fun u hu hx => by simp at hx; have h5 := HB.out.2.1 u hu; have h6 := HG2.out.2; have h7 := HK45.out.size; omega)⟩ (fun u hu => ⟨by have h5 := HB.out.2.1 u hu; have h6 := HK45.out.size; have h7 := HK24.out.size; omega,by obtain ⟨t,h8,h9⟩ := HB.out.2.2 u hu; exact ⟨t,tyOf_keeps h8 hk7 (by simp; have h5 := HB.out.2.1 u hu; have h6 := HG2.out.2; have h7 := HK45.out.size; omega),h9⟩⟩) (fun u hu hg => by have h5 := HA.out.1.lt u hu; have h6 := HB.out.2.1 u hg; omega) hk8 hbx hby
          obtain ⟨cs6,hbq,hcs⟩ := own_blk (own_keeps HO4.out (hk5.trans hk6 (by simp)) (by simp))
          have HKB : Hid (Kp w6 g2 0 m ws) := ⟨cs6,hbq,fun t ht => hcs t⟩
          have HVS : Hid (∀ w',Keeps [g2] w6 w' → Ps w' A0 ws) := fun w' hk => (HPS.out.keeps HKQ.out (by simp)).keeps hk (fun h0 u off e hx => by simp at hx; have h5 := HPS.out.lt h0 e; have h6 := HG2.out.1; omega)
          obtain ⟨k0,k1⟩ := HKB.out.last (Nat.zero_le _) HM.out
          have d9 : w6.cell? ⟨bo,9,none⟩ = some (.slice A0 m cw) := ((HR3.out.calm HKQ.out).box.cell 9).trans rfl
          clear hk5 hk6 hbq hcs hE
          have hs1 : (0 : Int) ≤ (m : Int) := by omega
          have hs2 : (m : Int) < (m : Int) + 1 := by omega
          have hs3 : IntKind.i64.wrap ((m : Int) + 1 - 1) = (m : Int) := by rw [IntKind.wrap_i64]; have := HM8.out; omega
          have hs4 : IntKind.i64.wrap (m : Int) = (m : Int) := by rw [IntKind.wrap_i64]; have := HM8.out; omega
          have hmk := fun w => pr_same w (-9) 0
          go_upto_region 38 with fail
          clear k0 k1 hs1 hs2 hs3 hs4 hmk d9
          go_wp2_with fail
          go_loopw [26] (fun i wr => ∃ t : Nat,t ≤ m ∧ i = .int .i64 t ∧ Keeps [g2] w6 wr ∧ Kp wr g2 t m ws) (fun i _ => m - (intOf i).toNat)
          case atStart => exact ⟨0,Nat.zero_le _,rfl,Keeps.refl _ _,HKB.out⟩
          case round =>
           obtain ⟨t,ht,rfl,hk,hkb⟩ := hrel
           have HKT := Lib.hid hk
           have HKBT := Lib.hid hkb
           have hk2r : Keeps [] w2 wr := HKQ.out.trans hk (T := [g2]) (fun u hu => .inr (by simp at hu; have := HG2.out.1; omega))
           have HK2R := Lib.hid hk2r
           have d9 : wr.cell? ⟨bo,9,none⟩ = some (.slice A0 m cw) := ((HR3.out.calm hk2r).box.cell 9).trans rfl
           clear hk hkb hk2r
           by_cases hlt : (t : Int) < (m : Int)
           ·
            have t0 : (0 : Int) ≤ (t : Int) := by omega
            obtain ⟨v,hv⟩ : ∃ v,ws[t]? = some v := ⟨_,List.getElem?_eq_getElem (by have := HM.out; omega)⟩
            obtain ⟨u,off,rfl,c0',c1'⟩ := (HVS.out wr HKT.out).at_ hv
            obtain ⟨k0,k1⟩ := HKBT.out.at_ HM.out (Nat.le_refl t) (by omega) hv
            have f0 := HKBT.out.fz (t * 2)
            have f1 := HKBT.out.fz (t * 2 + 1)
            have hsame := fun w => pr_same w v.cell v.x
            have hw : IntKind.i64.wrap ((t : Int) + 1) = (t : Int) + 1 := by have := HM8.out; rw [IntKind.wrap_i64]; omega
            have hcapt : (t : Int) < (cap : Int) := by have := HCAP.out.1; omega
            have hcapm : (t : Int) < (m : Int) + 1 := by omega
            clear hv
            go_wp2_with fail
            go_quiet (fail)
            go_wp2_with fail
            first
             | exact ⟨⟨t + 1,by omega,by simp,kstored HKT.out _ _,HKBT.out.stored _ _⟩,by simp [intOf]; omega⟩
             | exact ⟨⟨t + 1,by omega,by simp,kstored (HKT.out.drewN _) _ _,(HKBT.out.drewN _).stored _ _⟩,by simp [intOf]; omega⟩
           ·
            obtain rfl : t = m := by omega
            obtain ⟨cx,cy,-,-⟩ := (HR3.out.calm HK2R.out).cells hj3
            obtain ⟨hbx,hby,-,-⟩ := (HR3.out.calm HK2R.out).arrs
            have hxy : xb ≠ yb := hbx.ne_ hby (by decide)
            have hyx : yb ≠ xb := hxy.symm
            have fx := hbx.frozen j
            have fy := hby.frozen j
            have HST := Lib.hid (st2 HR3.out HK2R.out hj3 (some (a,Cm.new sl ge th st ws)) (some (b,Cm.new sl ge th st ws)) hxy)
            clear hbx hby hlt
            go_upto_region 50 with fail
            obtain ⟨w8,hw8⟩ : ∃ v,(wr.setCell ⟨xb,j,none⟩ (pv (some (a,Cm.new sl ge th st ws)))).setCell ⟨yb,j,none⟩ (pv (some (b,Cm.new sl ge th st ws))) = v := ⟨_,rfl⟩
            have hk8 : Keeps [xb,yb] wr w8 := hw8 ▸ (Sq.r.setCell (.inl (by simp)) _).setCell (.inl (by simp)) _
            have HST2 : Hid (Blk w8 xb 56 (arr3 (upd' X j (some (a,Cm.new sl ge th st ws)))) ∧ Blk w8 yb 58 (arr3 (upd' Y j (some (b,Cm.new sl ge th st ws))))) := hw8 ▸ HST.out
            have HQ := Lib.hid (RN.out _ _ HKT.out hk8 HST2.out.1 HST2.out.2)
            change Code.wp _ _ _ _ ((wr.setCell ⟨xb,j,none⟩ (pv (some (a,Cm.new sl ge th st ws)))).setCell ⟨yb,j,none⟩ (pv (some (b,Cm.new sl ge th st ws))))
            rw [hw8]
            have HPC2 : Hid (Pair (Cm.Ok n) (upd' X j (some (a,Cm.new sl ge th st ws))) (upd' Y j (some (b,Cm.new sl ge th st ws)))) := HPC.out.set j (new_ok HOK.out HN.out.1 HEE.out)
            have HF := Lib.hid HF1.out.succ
            have HW := HW1
            have HCc := HC1
            clear hw8 hk8 HST HST2 RN HR3 HF1 HW1 HC1 cx cy fx fy hxy hyx d9 HPC
            revert HPC2; intro HPC
            rcases HPC.out j with ⟨e1,e2⟩ | ⟨a9,b9,x9,e1,e2,hJ9⟩
            · have cx : w8.cell? ⟨xb,j,none⟩ = some (.pointer none) := by have h5 := (HQ.out.cells hj3).1; rw [e1] at h5; exact h5
              clear e1 e2
              go_wp2_with fail
              go_quiet (fail)
              go_wp2_with fail
              exact ⟨⟨k + 1,_,_,_,_,_,by omega,by simp,(HQ.out.left).calm (by first | exact Keeps.refl _ _ | exact Sq.r.drew | exact Sq.r.drewN _),HF.out,HW.out,HCc.out,HPC.out,HPJ.out⟩,by simp [intOf]; omega⟩
            · obtain ⟨H9,jb9,dp9,hc9⟩ := HQ.out.c_of e1
              obtain ⟨F9,kb9,hd9⟩ := HQ.out.d_of e2
              have QT : Hid (∀ w',Keeps [] w8 w' → Calls Tryz.prog 22 #[PT a9,PT b9] w' fun e w'' => e = .returned (.bool true) ∧ Keeps [] w8 w'') := fun w' hk => (Cd.told_yes (hc9.calm hk) (hd9.keeps hk (by simp)) (by have h5 := vs8 hJ9; omega)).mono fun e w'' ⟨he,h2⟩ => ⟨he,hk.trans h2 (by simp)⟩
              have HC9 : Hid (∀ w',Keeps [] w8 w' → w'.cell? ⟨xb,j,none⟩ = some (PT a9) ∧ w'.cell? ⟨yb,j,none⟩ = some (PT b9)) := fun w' hk => by
               obtain ⟨h5,h6,_,_⟩ := (HQ.out.calm hk).cells hj3
               rw [e1] at h5
               rw [e2] at h6
               exact ⟨h5,h6⟩
              have hkB9 : Keeps [] w8 w8 := Keeps.refl _ _
              clear e1 e2 hc9 hd9 hJ9
              go_wp2_with fail
              go_region_held3 (fun w' => w'.cell? ⟨xb,j,none⟩ = some (PT a9) ∧ w'.cell? ⟨yb,j,none⟩ = some (PT b9)) (first | with_reducible exact HC9.out _ (by first | with_reducible assumption | with_reducible exact Keeps.drew (by with_reducible assumption)) | go_keep) ((go_at_call 22; (with_reducible refine (QT.out _ (by first | with_reducible assumption | with_reducible exact Keeps.drew (by with_reducible assumption))).mono ?_); rintro e wt ⟨rfl,hkt⟩))
              all_goals
               go_wp2_with fail
               exact ⟨⟨k + 1,_,_,_,_,_,by omega,by simp,(HQ.out.left).calm (by first | with_reducible assumption | with_reducible exact Keeps.drew (by with_reducible assumption)),HF.out,HW.out,HCc.out,HPC.out,HPJ.out⟩,by simp [intOf]; omega⟩
        ·
         as_aux_lemma =>
          have HEE := Lib.hid hE
          have QN : Hid (∀ w',Keeps [] w4 w' → Calls Tryz.prog 15 #[PT z.p,PT ja,.agg #[.int .i64 sl,.int .i64 ge,.int .i64 th,.int .i64 st,.slice (some ⟨g2,0,none⟩) m cap]] w' fun e w'' => e = .returned (.tuple #[.pointer none,.int .i64 (mayE cf sl th st ws)]) ∧ Keeps [] w4 w'') := fun w' hk => by
           have h5 := cm_new_bad (jb := ja) (hsp.calm hk) HF1.out sl ge th st (some ⟨g2,0,none⟩) cap ws (by rw [HM.out]; exact SlR.of_own (own_keeps HOF.out hk (by simp))) (by rw [HC1.out]; exact hE)
           rw [HM.out,HC1.out] at h5
           exact h5.mono fun e w'' ⟨he,h3⟩ => ⟨he,hk.trans h3 (by simp)⟩
          have HC34 : Hid (∀ w',Keeps [] w4 w' → w'.cell? ⟨jb,j,none⟩ = some (PT ja) ∧ w'.cell? ⟨ob,0,none⟩ = some (.int .i64 sl) ∧ w'.cell? ⟨ob,1,none⟩ = some (.int .i64 ge) ∧ w'.cell? ⟨ob,2,none⟩ = some (.int .i64 th) ∧ w'.cell? ⟨ob,3,none⟩ = some (.int .i64 st) ∧ w'.cell? ⟨ob,4,none⟩ = some (.slice (some ⟨g2,0,none⟩) m cap)) := fun w' hk => by
           have h5 := ((HR3.out.calm (HK24.out.trans hk (by simp))).cells hj3).2.2.1
           rw [HEJ.out.1] at h5
           have h6 := HOB.out.keeps hk (by simp)
           exact ⟨h5,(h6.cell 0).trans rfl,(h6.cell 1).trans rfl,(h6.cell 2).trans rfl,(h6.cell 3).trans rfl,(h6.cell 4).trans rfl⟩
          have hkB : Keeps [] w4 w4 := Keeps.refl _ _
          clear hsp
          go_region_held3 (fun w' => w'.cell? ⟨jb,j,none⟩ = some (PT ja) ∧ w'.cell? ⟨ob,0,none⟩ = some (.int .i64 sl) ∧ w'.cell? ⟨ob,1,none⟩ = some (.int .i64 ge) ∧ w'.cell? ⟨ob,2,none⟩ = some (.int .i64 th) ∧ w'.cell? ⟨ob,3,none⟩ = some (.int .i64 st) ∧ w'.cell? ⟨ob,4,none⟩ = some (.slice (some ⟨g2,0,none⟩) m cap)) (first | with_reducible exact HC34.out _ (by first | with_reducible assumption | with_reducible exact Keeps.drew (by with_reducible assumption)) | go_keep) ((go_at_call 15; (with_reducible refine (QN.out _ (by first | with_reducible assumption | with_reducible exact Keeps.drew (by with_reducible assumption))).mono ?_); rintro e w5 ⟨rfl,hk5⟩))
          clear hkB HC34 QN
          have HK45 := Lib.hid hk5
          obtain ⟨_,hrp⟩ := (HR3.out.calm (HK24.out.trans hk5 (by simp))).rp
          have QR : Hid (∀ w',Keeps [] w5 w' → Calls Tryz.prog 16 #[PT y.p,PT ka,.int .i64 sl,.int .i64 ge,.int .i64 th,.int .i64 st,.slice A0 m cw] w' fun e w'' => e = .returned (.tuple #[.pointer none,.int .i64 (mayE cf sl th st ws)]) ∧ Keeps [] w5 w'') := fun w' hk => by
           have h5 := cd_new (jb := ka) (hrp.calm hk) HC1.out (by rw [HC1.out]; exact HN.out.1) sl ge th st A0 cw ws (HPS.out.keeps ((HK24.out.trans hk5 (by simp)).trans hk (by simp)) (by simp)) (by rw [HM.out]; exact HM8.out)
           rw [HM.out] at h5
           refine h5.mono fun e w'' ⟨g1,g2,g3⟩ => ?_
           exact ⟨g2 hE,hk.trans g3 (by simp)⟩
          have HC35 : Hid (∀ w',Keeps [] w5 w' → w'.cell? ⟨kb,j,none⟩ = some (PT ka) ∧ w'.cell? ⟨bo,5,none⟩ = some (.int .i64 sl) ∧ w'.cell? ⟨bo,6,none⟩ = some (.int .i64 ge) ∧ w'.cell? ⟨bo,7,none⟩ = some (.int .i64 th) ∧ w'.cell? ⟨bo,8,none⟩ = some (.int .i64 st) ∧ w'.cell? ⟨bo,9,none⟩ = some (.slice A0 m cw)) := fun w' hk => by
           have h4 := HR3.out.calm ((HK24.out.trans hk5 (by simp)).trans hk (by simp))
           have h5 := (h4.cells hj3).2.2.2
           rw [HEJ.out.2] at h5
           have h6 := h4.box
           exact ⟨h5,(h6.cell 5).trans rfl,(h6.cell 6).trans rfl,(h6.cell 7).trans rfl,(h6.cell 8).trans rfl,(h6.cell 9).trans rfl⟩
          have hkB : Keeps [] w5 w5 := Keeps.refl _ _
          clear hrp
          go_upto_region 35 with fail
          go_region_held3 (fun w' => w'.cell? ⟨kb,j,none⟩ = some (PT ka) ∧ w'.cell? ⟨bo,5,none⟩ = some (.int .i64 sl) ∧ w'.cell? ⟨bo,6,none⟩ = some (.int .i64 ge) ∧ w'.cell? ⟨bo,7,none⟩ = some (.int .i64 th) ∧ w'.cell? ⟨bo,8,none⟩ = some (.int .i64 st) ∧ w'.cell? ⟨bo,9,none⟩ = some (.slice A0 m cw)) (first | with_reducible exact HC35.out _ (by first | with_reducible assumption | with_reducible exact Keeps.drew (by with_reducible assumption)) | go_keep) ((go_at_call 16; (with_reducible refine (QR.out _ (by first | with_reducible assumption | with_reducible exact Keeps.drew (by with_reducible assumption))).mono ?_); rintro e w6 ⟨rfl,hk6⟩))
          clear hkB HC35 QR
          have HK56 := Lib.hid hk6
          have HKQ : Hid (Keeps [] w2 w6) := (HK24.out.trans hk5 (by simp)).trans hk6 (by simp)
          have RN : Hid (∀ w7 w8,Keeps [g2] w6 w7 → Keeps [xb,yb] w7 w8 → Blk w8 xb 56 (arr3 (upd' X j (none : Option (Nat × Cm)))) → Blk w8 yb 58 (arr3 (upd' Y j (none : Option (Nat × Cm)))) → Rg (⟨z,y,n,cf,xb,yb,jb,kb⟩ : Fx) w w8 (some (bo,#[.int .i64 20,.int .i64 mm,.int .i64 pi,.int .i64 pn,.int .i64 px,.int .i64 sl,.int .i64 ge,.int .i64 th,.int .i64 st,.slice A0 m cw])) S1 S1 (upd' X j (none : Option (Nat × Cm))) (upd' Y j (none : Option (Nat × Cm))) J K) := fun w7 w8 hk7 hk8 hbx hby => by
           refine renew (Hm := []) (Hd := []) HR3.out (HKQ.out.trans hk7 (fun u hu => .inr (by simp at hu; have := HG2.out.1; omega))) rfl (by simp) rfl (by simp) (by simp) hk8 hbx hby
          obtain ⟨cs6,hbq,hcs⟩ := own_blk (own_keeps HO4.out (hk5.trans hk6 (by simp)) (by simp))
          have HKB : Hid (Kp w6 g2 0 m ws) := ⟨cs6,hbq,fun t ht => hcs t⟩
          have HVS : Hid (∀ w',Keeps [g2] w6 w' → Ps w' A0 ws) := fun w' hk => (HPS.out.keeps HKQ.out (by simp)).keeps hk (fun h0 u off e hx => by simp at hx; have h5 := HPS.out.lt h0 e; have h6 := HG2.out.1; omega)
          obtain ⟨k0,k1⟩ := HKB.out.last (Nat.zero_le _) HM.out
          have d9 : w6.cell? ⟨bo,9,none⟩ = some (.slice A0 m cw) := ((HR3.out.calm HKQ.out).box.cell 9).trans rfl
          clear hk5 hk6 hbq hcs hE
          have hs1 : (0 : Int) ≤ (m : Int) := by omega
          have hs2 : (m : Int) < (m : Int) + 1 := by omega
          have hs3 : IntKind.i64.wrap ((m : Int) + 1 - 1) = (m : Int) := by rw [IntKind.wrap_i64]; have := HM8.out; omega
          have hs4 : IntKind.i64.wrap (m : Int) = (m : Int) := by rw [IntKind.wrap_i64]; have := HM8.out; omega
          have hmk := fun w => pr_same w (-9) 0
          go_upto_region 38 with fail
          clear k0 k1 hs1 hs2 hs3 hs4 hmk d9
          go_wp2_with fail
          go_loopw [26] (fun i wr => ∃ t : Nat,t ≤ m ∧ i = .int .i64 t ∧ Keeps [g2] w6 wr ∧ Kp wr g2 t m ws) (fun i _ => m - (intOf i).toNat)
          case atStart => exact ⟨0,Nat.zero_le _,rfl,Keeps.refl _ _,HKB.out⟩
          case round =>
           obtain ⟨t,ht,rfl,hk,hkb⟩ := hrel
           have HKT := Lib.hid hk
           have HKBT := Lib.hid hkb
           have hk2r : Keeps [] w2 wr := HKQ.out.trans hk (T := [g2]) (fun u hu => .inr (by simp at hu; have := HG2.out.1; omega))
           have HK2R := Lib.hid hk2r
           have d9 : wr.cell? ⟨bo,9,none⟩ = some (.slice A0 m cw) := ((HR3.out.calm hk2r).box.cell 9).trans rfl
           clear hk hkb hk2r
           by_cases hlt : (t : Int) < (m : Int)
           ·
            have t0 : (0 : Int) ≤ (t : Int) := by omega
            obtain ⟨v,hv⟩ : ∃ v,ws[t]? = some v := ⟨_,List.getElem?_eq_getElem (by have := HM.out; omega)⟩
            obtain ⟨u,off,rfl,c0',c1'⟩ := (HVS.out wr HKT.out).at_ hv
            obtain ⟨k0,k1⟩ := HKBT.out.at_ HM.out (Nat.le_refl t) (by omega) hv
            have f0 := HKBT.out.fz (t * 2)
            have f1 := HKBT.out.fz (t * 2 + 1)
            have hsame := fun w => pr_same w v.cell v.x
            have hw : IntKind.i64.wrap ((t : Int) + 1) = (t : Int) + 1 := by have := HM8.out; rw [IntKind.wrap_i64]; omega
            have hcapt : (t : Int) < (cap : Int) := by have := HCAP.out.1; omega
            have hcapm : (t : Int) < (m : Int) + 1 := by omega
            clear hv
            go_wp2_with fail
            go_quiet (fail)
            go_wp2_with fail
            first
             | exact ⟨⟨t + 1,by omega,by simp,kstored HKT.out _ _,HKBT.out.stored _ _⟩,by simp [intOf]; omega⟩
             | exact ⟨⟨t + 1,by omega,by simp,kstored (HKT.out.drewN _) _ _,(HKBT.out.drewN _).stored _ _⟩,by simp [intOf]; omega⟩
           ·
            obtain rfl : t = m := by omega
            obtain ⟨cx,cy,-,-⟩ := (HR3.out.calm HK2R.out).cells hj3
            obtain ⟨hbx,hby,-,-⟩ := (HR3.out.calm HK2R.out).arrs
            have hxy : xb ≠ yb := hbx.ne_ hby (by decide)
            have hyx : yb ≠ xb := hxy.symm
            have fx := hbx.frozen j
            have fy := hby.frozen j
            have HST := Lib.hid (st2 HR3.out HK2R.out hj3 (none : Option (Nat × Cm)) (none : Option (Nat × Cm)) hxy)
            clear hbx hby hlt
            go_upto_region 50 with fail
            obtain ⟨w8,hw8⟩ : ∃ v,(wr.setCell ⟨xb,j,none⟩ (pv (none : Option (Nat × Cm)))).setCell ⟨yb,j,none⟩ (pv (none : Option (Nat × Cm))) = v := ⟨_,rfl⟩
            have hk8 : Keeps [xb,yb] wr w8 := hw8 ▸ (Sq.r.setCell (.inl (by simp)) _).setCell (.inl (by simp)) _
            have HST2 : Hid (Blk w8 xb 56 (arr3 (upd' X j (none : Option (Nat × Cm)))) ∧ Blk w8 yb 58 (arr3 (upd' Y j (none : Option (Nat × Cm))))) := hw8 ▸ HST.out
            have HQ := Lib.hid (RN.out _ _ HKT.out hk8 HST2.out.1 HST2.out.2)
            change Code.wp _ _ _ _ ((wr.setCell ⟨xb,j,none⟩ (pv (none : Option (Nat × Cm)))).setCell ⟨yb,j,none⟩ (pv (none : Option (Nat × Cm))))
            rw [hw8]
            have HPC2 : Hid (Pair (Cm.Ok n) (upd' X j (none : Option (Nat × Cm))) (upd' Y j (none : Option (Nat × Cm)))) := HPC.out.unset j
            have HF := Lib.hid HF1.out.succ
            have HW := HW1
            have HCc := HC1
            clear hw8 hk8 HST HST2 RN HR3 HF1 HW1 HC1 cx cy fx fy hxy hyx d9 HPC
            revert HPC2; intro HPC
            rcases HPC.out j with ⟨e1,e2⟩ | ⟨a9,b9,x9,e1,e2,hJ9⟩
            · have cx : w8.cell? ⟨xb,j,none⟩ = some (.pointer none) := by have h5 := (HQ.out.cells hj3).1; rw [e1] at h5; exact h5
              clear e1 e2
              go_wp2_with fail
              go_quiet (fail)
              go_wp2_with fail
              exact ⟨⟨k + 1,_,_,_,_,_,by omega,by simp,(HQ.out.left).calm (by first | exact Keeps.refl _ _ | exact Sq.r.drew | exact Sq.r.drewN _),HF.out,HW.out,HCc.out,HPC.out,HPJ.out⟩,by simp [intOf]; omega⟩
            · obtain ⟨H9,jb9,dp9,hc9⟩ := HQ.out.c_of e1
              obtain ⟨F9,kb9,hd9⟩ := HQ.out.d_of e2
              have QT : Hid (∀ w',Keeps [] w8 w' → Calls Tryz.prog 22 #[PT a9,PT b9] w' fun e w'' => e = .returned (.bool true) ∧ Keeps [] w8 w'') := fun w' hk => (Cd.told_yes (hc9.calm hk) (hd9.keeps hk (by simp)) (by have h5 := vs8 hJ9; omega)).mono fun e w'' ⟨he,h2⟩ => ⟨he,hk.trans h2 (by simp)⟩
              have HC9 : Hid (∀ w',Keeps [] w8 w' → w'.cell? ⟨xb,j,none⟩ = some (PT a9) ∧ w'.cell? ⟨yb,j,none⟩ = some (PT b9)) := fun w' hk => by
               obtain ⟨h5,h6,_,_⟩ := (HQ.out.calm hk).cells hj3
               rw [e1] at h5
               rw [e2] at h6
               exact ⟨h5,h6⟩
              have hkB9 : Keeps [] w8 w8 := Keeps.refl _ _
              clear e1 e2 hc9 hd9 hJ9
              go_wp2_with fail
              go_region_held3 (fun w' => w'.cell? ⟨xb,j,none⟩ = some (PT a9) ∧ w'.cell? ⟨yb,j,none⟩ = some (PT b9)) (first | with_reducible exact HC9.out _ (by first | with_reducible assumption | with_reducible exact Keeps.drew (by with_reducible assumption)) | go_keep) ((go_at_call 22; (with_reducible refine (QT.out _ (by first | with_reducible assumption | with_reducible exact Keeps.drew (by with_reducible assumption))).mono ?_); rintro e wt ⟨rfl,hkt⟩))
              all_goals
               go_wp2_with fail
               exact ⟨⟨k + 1,_,_,_,_,_,by omega,by simp,(HQ.out.left).calm (by first | with_reducible assumption | with_reducible exact Keeps.drew (by with_reducible assumption)),HF.out,HW.out,HCc.out,HPC.out,HPJ.out⟩,by simp [intOf]; omega⟩
      ·
       by_cases n21 : kd = 21
       ·
        subst n21
        as_aux_lemma =>
         rcases HPC.out j with ⟨e1,e2⟩ | ⟨a,b,x,e1,e2,hok⟩
         · have cx : w2.cell? ⟨xb,j,none⟩ = some (.pointer none) := by have h5 := (HR3.out.cells hj3).1; rw [e1] at h5; exact h5
           clear e1 e2
           go_wp2_with fail
           exact ⟨⟨k + 1,_,_,_,_,_,by omega,by simp,HR3.out.left,HF1.out.succ,HW1.out,HC1.out,HPC.out,HPJ.out⟩,by simp [intOf]; omega⟩
         ·
          obtain ⟨ja,ka,d,e3,e4,hd0,hd1⟩ := HPJ.out j hj3
          have cx : w2.cell? ⟨xb,j,none⟩ = some (PT a) := by have h5 := (HR3.out.cells hj3).1; rw [e1] at h5; exact h5
          have cy : w2.cell? ⟨yb,j,none⟩ = some (PT b) := by have h5 := (HR3.out.cells hj3).2.1; rw [e2] at h5; exact h5
          have hHn : S1.H.length = n := by have h5 := HF1.out.slots; rw [HC1.out] at h5; have h6 := HN.out.1; omega
          have hcn : S1.c.slots = (n : Int) := by rw [HC1.out]; exact HN.out.1
          have QP : Hid (Calls Tryz.prog 17 #[PT a] w2 fun e w' => e = .returned (.int .i64 (x.step S1 d).1) ∧ Rg (⟨z,y,n,cf,xb,yb,jb,kb⟩ : Fx) w w' (some (bo,#[.int .i64 21,.int .i64 mm,.int .i64 pi,.int .i64 pn,.int .i64 px,.int .i64 sl,.int .i64 ge,.int .i64 th,.int .i64 st,.slice A0 m cw])) (x.step S1 d).2.2.1 S1 (upd' X j (some (a,(x.step S1 d).2.1))) Y (upd' J j (some (ja,(x.step S1 d).2.2.2))) K) := cm_calls HR3.out e1 e3 HF1.out (by omega) HC1.out HW1.out hd0 hd1 (by rw [hHn]; exact hok)
          have HE := Lib.hid (And.intro e2 (And.intro e4 (And.intro hok (And.intro hd0 hd1))))
          have hfit := HF1.out.cmstep x d
          have his := x.step_is S1 d
          have HF : Hid (Fit (k + 1) (x.step S1 d).2.2.1) := hfit
          have HW : Hid ((x.step S1 d).2.2.1.wu) := Sp.wu_of HW1.out his.2.1
          have HCc : Hid ((x.step S1 d).2.2.1.c = cf) := his.1.trans HC1.out
          have hokn := hok.step (d := d) hHn HW1.out HF1.out.c
          have hrng := Cm.step_rng HF1.out.c hd0 hd1 x
          have HPC2 : Hid (Pair (Cm.Ok n) (upd' X j (some (a,(x.step S1 d).2.1))) (upd' Y j (some (b,(x.step S1 d).2.1)))) := HPC.out.set j hokn
          have HPJ2 : Hid (Jud (upd' J j (some (ja,(x.step S1 d).2.2.2))) (upd' K j (some (ka,(x.step S1 d).2.2.2)))) := HPJ.out.set j hrng.1 hrng.2
          have QD0 : Hid (∀ w',Rg (⟨z,y,n,cf,xb,yb,jb,kb⟩ : Fx) w w' (some (bo,#[.int .i64 21,.int .i64 mm,.int .i64 pi,.int .i64 pn,.int .i64 px,.int .i64 sl,.int .i64 ge,.int .i64 th,.int .i64 st,.slice A0 m cw])) (x.step S1 d).2.2.1 S1 (upd' X j (some (a,(x.step S1 d).2.1))) Y (upd' J j (some (ja,(x.step S1 d).2.2.2))) K → Calls Tryz.prog 18 #[PT b] w' fun e w'' => e = .returned (.int .i64 (x.step S1 d).1) ∧ Rg (⟨z,y,n,cf,xb,yb,jb,kb⟩ : Fx) w w'' (some (bo,#[.int .i64 21,.int .i64 mm,.int .i64 pi,.int .i64 pn,.int .i64 px,.int .i64 sl,.int .i64 ge,.int .i64 th,.int .i64 st,.slice A0 m cw])) (x.step S1 d).2.2.1 (x.step S1 d).2.2.1 (upd' X j (some (a,(x.step S1 d).2.1))) (upd' Y j (some (b,(x.step S1 d).2.1))) (upd' J j (some (ja,(x.step S1 d).2.2.2))) (upd' K j (some (ka,(x.step S1 d).2.2.2)))) := fun w' hr => cd_calls hr e2 e4 HF1.out (by omega) HC1.out HW1.out hcn hd0 hd1 hok
          obtain ⟨ans,hans⟩ : ∃ v,(x.step S1 d).1 = v := ⟨_,rfl⟩
          rw [hans] at QP QD0
          clear hfit his hokn hrng hok hd0 hd1 e1 e3 e2 e4 hHn hcn
          have HEJ : Hid ((upd' J j (some (ja,(x.step S1 d).2.2.2))) j = some (ja,(x.step S1 d).2.2.2)) := upd_at _ _ _
          go_wp2_with fail
          refine QP.out.mono ?_
          rintro e w3 ⟨rfl,hr4⟩
          have HC48 : Hid (∀ w',Keeps [] w3 w' → w'.cell? ⟨yb,j,none⟩ = some (PT b) ∧ w'.cell? ⟨z.p,0,none⟩ = some (PT z.m) ∧ w'.cell? ⟨y.p,6,none⟩ = some (PT y.m) ∧ w'.cell? ⟨jb,j,none⟩ = some (PT ja) ∧ w'.cell? ⟨kb,j,none⟩ = some (PT ka)) := fun w' hk => by
           have hx := hr4.calm hk
           obtain ⟨h5,h6,h7,h8⟩ := hx.cells hj3
           rw [HE.out.1] at h6
           rw [upd_at] at h7
           rw [HE.out.2.1] at h8
           exact ⟨h6,hx.zc,hx.yc,h7,h8⟩
          have QD : Hid (∀ w',Keeps [] w3 w' → Calls Tryz.prog 18 #[PT b] w' fun e w'' => e = .returned (.int .i64 ans) ∧ Rg (⟨z,y,n,cf,xb,yb,jb,kb⟩ : Fx) w w'' (some (bo,#[.int .i64 21,.int .i64 mm,.int .i64 pi,.int .i64 pn,.int .i64 px,.int .i64 sl,.int .i64 ge,.int .i64 th,.int .i64 st,.slice A0 m cw])) (x.step S1 d).2.2.1 (x.step S1 d).2.2.1 (upd' X j (some (a,(x.step S1 d).2.1))) (upd' Y j (some (b,(x.step S1 d).2.1))) (upd' J j (some (ja,(x.step S1 d).2.2.2))) (upd' K j (some (ka,(x.step S1 d).2.2.2)))) := fun w' hk => QD0.out w' (hr4.calm hk)
          have hkB : Keeps [] w3 w3 := Keeps.refl _ _
          clear hr4 QP HR3 HF1 HC1 HW1 HE cx cy d0 hans QD0 HPC HPJ HEJ
          revert HPC2; intro HPC
          revert HPJ2; intro HPJ
          generalize (x.step S1 d).2.1 = x' at *
          generalize (x.step S1 d).2.2.1 = S' at *
          generalize (x.step S1 d).2.2.2 = d' at *
          go_wp2_with fail
          refine wp_region_noPanic ?_
          refine wp_region_L 99 (fun w' => w'.cell? ⟨yb,j,none⟩ = some (PT b) ∧ w'.cell? ⟨z.p,0,none⟩ = some (PT z.m) ∧ w'.cell? ⟨y.p,6,none⟩ = some (PT y.m) ∧ w'.cell? ⟨jb,j,none⟩ = some (PT ja) ∧ w'.cell? ⟨kb,j,none⟩ = some (PT ka)) (by kernel_rfl) ?_
          have hHeld := HC48.out _ hkB.drew
          refine Sq.kT (i := 0) (v := ?rv0) rfl ?ry0 hHeld ?rr0
          case ry0 => (intro w' hSw; (try dsimp only at hSw); go_simp; first | done | with_reducible rfl)
          try simp only [Act.put,Sq.t,Sq.z,Sq.s]
          refine Sq.kT (i := 1) (v := ?rv1) rfl ?ry1 hHeld ?rr1
          case ry1 => (intro w' hSw; (try dsimp only at hSw); go_simp; first | done | with_reducible rfl)
          try simp only [Act.put,Sq.t,Sq.z,Sq.s]
          refine Sq.kT (i := 2) (v := ?rv2) rfl ?ry2 hHeld ?rr2
          case ry2 => (intro w' hSw; (try dsimp only at hSw); go_simp; first | done | with_reducible rfl)
          try simp only [Act.put,Sq.t,Sq.z,Sq.s]
          refine Sq.kT (i := 3) (v := ?rv3) rfl ?ry3 hHeld ?rr3
          case ry3 => (intro w' hSw; (try dsimp only at hSw); go_simp; first | done | with_reducible rfl)
          try simp only [Act.put,Sq.t,Sq.z,Sq.s]
          refine Sq.oT (i := 4) rfl fun K hK => ?_
          go_simp
          go_at_call 18
          refine (QD.out _ hkB.drew).mono ?_
          rintro e w5 ⟨rfl,hr5⟩
          have hS5 : w5.cell? ⟨yb,j,none⟩ = some (PT b) ∧ w5.cell? ⟨z.p,0,none⟩ = some (PT z.m) ∧ w5.cell? ⟨y.p,6,none⟩ = some (PT y.m) ∧ w5.cell? ⟨jb,j,none⟩ = some (PT ja) ∧ w5.cell? ⟨kb,j,none⟩ = some (PT ka) := ⟨by have h5 := (hr5.cells hj3).2.1; rw [upd_at] at h5; exact h5,hr5.zc,hr5.yc,by have h5 := (hr5.cells hj3).2.2.1; rw [upd_at] at h5; exact h5,by have h5 := (hr5.cells hj3).2.2.2; rw [upd_at] at h5; exact h5⟩
          go_simp
          refine hK.out _ _ (fun _ => hS5) ?_
          clear hK K
          try simp only [Act.put,Sq.t,Sq.z,Sq.s]
          replace hHeld := hS5
          clear hS5
          have HQ := Lib.hid hr5
          have cm2 : w5.cell? ⟨y.m,2,none⟩ = some (.int .i64 S'.met.done) := hr5.done_cell
          have QM : Hid (Calls Tryz.prog 19 #[PT z.m] w5 fun e w' => e = .returned (.int .i64 S'.met.done) ∧ w5 = w') := hr5.done_call
          have ck6 : w5.cell? ⟨ka,6,none⟩ = some (.int .i64 d') := (Blk.cell (hr5.k_of (upd_at _ _ _)) 6).trans rfl
          have QJ : Hid (Calls Tryz.prog 20 #[PT ja] w5 fun e w' => e = .returned (.int .i64 d') ∧ w5 = w') := judge_defers (hr5.j_of (upd_at _ _ _))
          clear hr5
          refine Sq.kT (i := 5) (v := ?rv5) rfl ?ry5 hHeld ?rr5
          case ry5 => (intro w' hSw; (try dsimp only at hSw); go_simp; first | done | with_reducible rfl)
          try simp only [Act.put,Sq.t,Sq.z,Sq.s]
          refine Sq.kT (i := 6) (v := ?rv6) rfl ?ry6 hHeld ?rr6
          case ry6 => (intro w' hSw; (try dsimp only at hSw); go_simp; first | done | with_reducible rfl)
          try simp only [Act.put,Sq.t,Sq.z,Sq.s]
          refine Sq.kT (i := 7) (v := ?rv7) rfl ?ry7 hHeld ?rr7
          case ry7 => (intro w' hSw; (try dsimp only at hSw); go_simp; first | done | with_reducible rfl)
          try simp only [Act.put,Sq.t,Sq.z,Sq.s]
          refine Sq.kT (i := 8) (v := ?rv8) rfl ?ry8 hHeld ?rr8
          case ry8 => (intro w' hSw; (try dsimp only at hSw); go_simp; first | done | with_reducible rfl)
          try simp only [Act.put,Sq.t,Sq.z,Sq.s]
          refine Sq.kT (i := 9) (v := ?rv9) rfl ?ry9 hHeld ?rr9
          case ry9 => (intro w' hSw; (try dsimp only at hSw); go_simp; first | done | with_reducible rfl)
          try simp only [Act.put,Sq.t,Sq.z,Sq.s]
          refine Sq.kT (i := 10) (v := ?rv10) rfl ?ry10 hHeld ?rr10
          case ry10 => (intro w' hSw; (try dsimp only at hSw); go_simp; first | done | with_reducible rfl)
          try simp only [Act.put,Sq.t,Sq.z,Sq.s]
          refine Sq.kT (i := 12) (v := ?rv12) rfl ?ry12 hHeld ?rr12
          case ry12 => (intro w' hSw; (try dsimp only at hSw); go_simp; first | done | with_reducible rfl)
          try simp only [Act.put,Sq.t,Sq.z,Sq.s]
          refine Sq.kT (i := 13) (v := ?rv13) rfl ?ry13 hHeld ?rr13
          case ry13 => (intro w' hSw; (try dsimp only at hSw); go_simp; first | done | with_reducible rfl)
          try simp only [Act.put,Sq.t,Sq.z,Sq.s]
          refine Sq.kT (i := 14) (v := ?rv14) rfl ?ry14 hHeld ?rr14
          case ry14 => (intro w' hSw; (try dsimp only at hSw); go_simp; first | done | with_reducible rfl)
          try simp only [Act.put,Sq.t,Sq.z,Sq.s]
          refine Sq.kT (i := 15) (v := ?rv15) rfl ?ry15 hHeld ?rr15
          case ry15 => (intro w' hSw; (try dsimp only at hSw); go_simp; first | done | with_reducible rfl)
          try simp only [Act.put,Sq.t,Sq.z,Sq.s]
          refine Sq.kT (i := 16) (v := ?rv16) rfl ?ry16 hHeld ?rr16
          case ry16 => (intro w' hSw; (try dsimp only at hSw); go_simp; first | done | with_reducible rfl)
          try simp only [Act.put,Sq.t,Sq.z,Sq.s]
          refine Sq.kT (i := 17) (v := ?rv17) rfl ?ry17 hHeld ?rr17
          case ry17 => (intro w' hSw; (try dsimp only at hSw); go_simp; first | done | with_reducible rfl)
          try simp only [Act.put,Sq.t,Sq.z,Sq.s]
          refine wpAnyL_twoT (i := 11) (j := 18) (by kernel_rfl) rfl rfl (fun K hK => ?_) (fun K hK => ?_)
          ·
           go_simp
           go_at_call 19
           refine (QM.out).mono ?_
           rintro e w6 ⟨rfl,rfl⟩
           go_simp
           refine hK.out _ _ (fun _ => hHeld) ?_
           clear hK K
           try simp only [Act.put,Sq.t,Sq.z,Sq.s]
           refine Sq.oT (i := 18) rfl fun K hK => ?_
           go_simp
           refine hK.out _ _ (fun _ => hHeld) ?_
           clear hK K
           try simp only [Act.put,Sq.t,Sq.z,Sq.s]
           refine Sq.kT (i := 19) (v := ?rvu19) rfl ?ryu19 hHeld ?rru19
           case ryu19 => (intro w' hSw; (try dsimp only at hSw); go_simp; first | done | with_reducible rfl)
           try simp only [Act.put,Sq.t,Sq.z,Sq.s]
           refine Sq.kT (i := 20) (v := ?rvu20) rfl ?ryu20 hHeld ?rru20
           case ryu20 => (intro w' hSw; (try dsimp only at hSw); go_simp; first | done | with_reducible rfl)
           try simp only [Act.put,Sq.t,Sq.z,Sq.s]
           refine Sq.kT (i := 21) (v := ?rvu21) rfl ?ryu21 hHeld ?rru21
           case ryu21 => (intro w' hSw; (try dsimp only at hSw); go_simp; first | done | with_reducible rfl)
           try simp only [Act.put,Sq.t,Sq.z,Sq.s]
           refine Sq.kT (i := 22) (v := ?rvu22) rfl ?ryu22 hHeld ?rru22
           case ryu22 => (intro w' hSw; (try dsimp only at hSw); go_simp; first | done | with_reducible rfl)
           try simp only [Act.put,Sq.t,Sq.z,Sq.s]
           refine Sq.kT (i := 23) (v := ?rvu23) rfl ?ryu23 hHeld ?rru23
           case ryu23 => (intro w' hSw; (try dsimp only at hSw); go_simp; first | done | with_reducible rfl)
           try simp only [Act.put,Sq.t,Sq.z,Sq.s]
           refine Sq.kT (i := 24) (v := ?rvu24) rfl ?ryu24 hHeld ?rru24
           case ryu24 => (intro w' hSw; (try dsimp only at hSw); go_simp; first | done | with_reducible rfl)
           try simp only [Act.put,Sq.t,Sq.z,Sq.s]
           refine Sq.kT (i := 26) (v := ?rvu26) rfl ?ryu26 hHeld ?rru26
           case ryu26 => (intro w' hSw; (try dsimp only at hSw); go_simp; first | done | with_reducible rfl)
           try simp only [Act.put,Sq.t,Sq.z,Sq.s]
           refine Sq.kT (i := 27) (v := ?rvu27) rfl ?ryu27 hHeld ?rru27
           case ryu27 => (intro w' hSw; (try dsimp only at hSw); go_simp; first | done | with_reducible rfl)
           try simp only [Act.put,Sq.t,Sq.z,Sq.s]
           refine Sq.kT (i := 28) (v := ?rvu28) rfl ?ryu28 hHeld ?rru28
           case ryu28 => (intro w' hSw; (try dsimp only at hSw); go_simp; first | done | with_reducible rfl)
           try simp only [Act.put,Sq.t,Sq.z,Sq.s]
           refine Sq.kT (i := 29) (v := ?rvu29) rfl ?ryu29 hHeld ?rru29
           case ryu29 => (intro w' hSw; (try dsimp only at hSw); go_simp; first | done | with_reducible rfl)
           try simp only [Act.put,Sq.t,Sq.z,Sq.s]
           refine Sq.kT (i := 30) (v := ?rvu30) rfl ?ryu30 hHeld ?rru30
           case ryu30 => (intro w' hSw; (try dsimp only at hSw); go_simp; first | done | with_reducible rfl)
           try simp only [Act.put,Sq.t,Sq.z,Sq.s]
           refine wpAnyL_twoT (i := 25) (j := 31) (by kernel_rfl) rfl rfl (fun K hK => ?_) (fun K hK => ?_)
           ·
            go_simp
            go_at_call 20
            refine (QJ.out).mono ?_
            rintro e w7 ⟨rfl,rfl⟩
            go_simp
            refine hK.out _ _ (fun _ => hHeld) ?_
            clear hK K
            try simp only [Act.put,Sq.t,Sq.z,Sq.s]
            refine Sq.oT (i := 31) rfl fun K hK => ?_
            go_simp
            refine hK.out _ _ (fun _ => hHeld) ?_
            clear hK K
            try simp only [Act.put,Sq.t,Sq.z,Sq.s]
            refine Sq.kT (i := 32) (v := ?rvup32) rfl ?ryup32 hHeld ?rrup32
            case ryup32 => (intro w' hSw; (try dsimp only at hSw); go_simp; first | done | with_reducible rfl)
            try simp only [Act.put,Sq.t,Sq.z,Sq.s]
            refine Sq.kT (i := 33) (v := ?rvup33) rfl ?ryup33 hHeld ?rrup33
            case ryup33 => (intro w' hSw; (try dsimp only at hSw); go_simp; first | done | with_reducible rfl)
            try simp only [Act.put,Sq.t,Sq.z,Sq.s]
            refine wpAnyL_done (by kernel_rfl) ?_ _
            refine NoPanic.normal ?_
            go_wp2_with fail
            rcases HPC.out j with ⟨e1,e2⟩ | ⟨a9,b9,x9,e1,e2,hJ9⟩
            · have cx : w5.cell? ⟨xb,j,none⟩ = some (.pointer none) := by have h5 := (HQ.out.cells hj3).1; rw [e1] at h5; exact h5
              clear e1 e2
              go_wp2_with fail
              go_quiet (fail)
              go_wp2_with fail
              exact ⟨⟨k + 1,_,_,_,_,_,by omega,by simp,(HQ.out.left).calm (by first | exact Keeps.refl _ _ | exact Sq.r.drew | exact Sq.r.drewN _),HF.out,HW.out,HCc.out,HPC.out,HPJ.out⟩,by simp [intOf]; omega⟩
            · obtain ⟨H9,jb9,dp9,hc9⟩ := HQ.out.c_of e1
              obtain ⟨F9,kb9,hd9⟩ := HQ.out.d_of e2
              have QT : Hid (∀ w',Keeps [] w5 w' → Calls Tryz.prog 22 #[PT a9,PT b9] w' fun e w'' => e = .returned (.bool true) ∧ Keeps [] w5 w'') := fun w' hk => (Cd.told_yes (hc9.calm hk) (hd9.keeps hk (by simp)) (by have h5 := vs8 hJ9; omega)).mono fun e w'' ⟨he,h2⟩ => ⟨he,hk.trans h2 (by simp)⟩
              have HC9 : Hid (∀ w',Keeps [] w5 w' → w'.cell? ⟨xb,j,none⟩ = some (PT a9) ∧ w'.cell? ⟨yb,j,none⟩ = some (PT b9)) := fun w' hk => by
               obtain ⟨h5,h6,_,_⟩ := (HQ.out.calm hk).cells hj3
               rw [e1] at h5
               rw [e2] at h6
               exact ⟨h5,h6⟩
              have hkB9 : Keeps [] w5 w5 := Keeps.refl _ _
              clear e1 e2 hc9 hd9 hJ9
              go_wp2_with fail
              go_region_held3 (fun w' => w'.cell? ⟨xb,j,none⟩ = some (PT a9) ∧ w'.cell? ⟨yb,j,none⟩ = some (PT b9)) (first | with_reducible exact HC9.out _ (by first | with_reducible assumption | with_reducible exact Keeps.drew (by with_reducible assumption)) | go_keep) ((go_at_call 22; (with_reducible refine (QT.out _ (by first | with_reducible assumption | with_reducible exact Keeps.drew (by with_reducible assumption))).mono ?_); rintro e wt ⟨rfl,hkt⟩))
              all_goals
               go_wp2_with fail
               exact ⟨⟨k + 1,_,_,_,_,_,by omega,by simp,(HQ.out.left).calm (by first | with_reducible assumption | with_reducible exact Keeps.drew (by with_reducible assumption)),HF.out,HW.out,HCc.out,HPC.out,HPJ.out⟩,by simp [intOf]; omega⟩
           ·
            go_simp
            refine hK.out _ _ (fun _ => hHeld) ?_
            clear hK K
            try simp only [Act.put,Sq.t,Sq.z,Sq.s]
            refine Sq.oT (i := 25) rfl fun K hK => ?_
            go_simp
            go_at_call 20
            refine (QJ.out).mono ?_
            rintro e w7 ⟨rfl,rfl⟩
            go_simp
            refine hK.out _ _ (fun _ => hHeld) ?_
            clear hK K
            try simp only [Act.put,Sq.t,Sq.z,Sq.s]
            refine Sq.kT (i := 32) (v := ?rvuq32) rfl ?ryuq32 hHeld ?rruq32
            case ryuq32 => (intro w' hSw; (try dsimp only at hSw); go_simp; first | done | with_reducible rfl)
            try simp only [Act.put,Sq.t,Sq.z,Sq.s]
            refine Sq.kT (i := 33) (v := ?rvuq33) rfl ?ryuq33 hHeld ?rruq33
            case ryuq33 => (intro w' hSw; (try dsimp only at hSw); go_simp; first | done | with_reducible rfl)
            try simp only [Act.put,Sq.t,Sq.z,Sq.s]
            refine wpAnyL_done (by kernel_rfl) ?_ _
            refine NoPanic.normal ?_
            go_wp2_with fail
            rcases HPC.out j with ⟨e1,e2⟩ | ⟨a9,b9,x9,e1,e2,hJ9⟩
            · have cx : w5.cell? ⟨xb,j,none⟩ = some (.pointer none) := by have h5 := (HQ.out.cells hj3).1; rw [e1] at h5; exact h5
              clear e1 e2
              go_wp2_with fail
              go_quiet (fail)
              go_wp2_with fail
              exact ⟨⟨k + 1,_,_,_,_,_,by omega,by simp,(HQ.out.left).calm (by first | exact Keeps.refl _ _ | exact Sq.r.drew | exact Sq.r.drewN _),HF.out,HW.out,HCc.out,HPC.out,HPJ.out⟩,by simp [intOf]; omega⟩
            · obtain ⟨H9,jb9,dp9,hc9⟩ := HQ.out.c_of e1
              obtain ⟨F9,kb9,hd9⟩ := HQ.out.d_of e2
              have QT : Hid (∀ w',Keeps [] w5 w' → Calls Tryz.prog 22 #[PT a9,PT b9] w' fun e w'' => e = .returned (.bool true) ∧ Keeps [] w5 w'') := fun w' hk => (Cd.told_yes (hc9.calm hk) (hd9.keeps hk (by simp)) (by have h5 := vs8 hJ9; omega)).mono fun e w'' ⟨he,h2⟩ => ⟨he,hk.trans h2 (by simp)⟩
              have HC9 : Hid (∀ w',Keeps [] w5 w' → w'.cell? ⟨xb,j,none⟩ = some (PT a9) ∧ w'.cell? ⟨yb,j,none⟩ = some (PT b9)) := fun w' hk => by
               obtain ⟨h5,h6,_,_⟩ := (HQ.out.calm hk).cells hj3
               rw [e1] at h5
               rw [e2] at h6
               exact ⟨h5,h6⟩
              have hkB9 : Keeps [] w5 w5 := Keeps.refl _ _
              clear e1 e2 hc9 hd9 hJ9
              go_wp2_with fail
              go_region_held3 (fun w' => w'.cell? ⟨xb,j,none⟩ = some (PT a9) ∧ w'.cell? ⟨yb,j,none⟩ = some (PT b9)) (first | with_reducible exact HC9.out _ (by first | with_reducible assumption | with_reducible exact Keeps.drew (by with_reducible assumption)) | go_keep) ((go_at_call 22; (with_reducible refine (QT.out _ (by first | with_reducible assumption | with_reducible exact Keeps.drew (by with_reducible assumption))).mono ?_); rintro e wt ⟨rfl,hkt⟩))
              all_goals
               go_wp2_with fail
               exact ⟨⟨k + 1,_,_,_,_,_,by omega,by simp,(HQ.out.left).calm (by first | with_reducible assumption | with_reducible exact Keeps.drew (by with_reducible assumption)),HF.out,HW.out,HCc.out,HPC.out,HPJ.out⟩,by simp [intOf]; omega⟩
          ·
           go_simp
           refine hK.out _ _ (fun _ => hHeld) ?_
           clear hK K
           try simp only [Act.put,Sq.t,Sq.z,Sq.s]
           refine Sq.oT (i := 11) rfl fun K hK => ?_
           go_simp
           go_at_call 19
           refine (QM.out).mono ?_
           rintro e w6 ⟨rfl,rfl⟩
           go_simp
           refine hK.out _ _ (fun _ => hHeld) ?_
           clear hK K
           try simp only [Act.put,Sq.t,Sq.z,Sq.s]
           refine Sq.kT (i := 19) (v := ?rvv19) rfl ?ryv19 hHeld ?rrv19
           case ryv19 => (intro w' hSw; (try dsimp only at hSw); go_simp; first | done | with_reducible rfl)
           try simp only [Act.put,Sq.t,Sq.z,Sq.s]
           refine Sq.kT (i := 20) (v := ?rvv20) rfl ?ryv20 hHeld ?rrv20
           case ryv20 => (intro w' hSw; (try dsimp only at hSw); go_simp; first | done | with_reducible rfl)
           try simp only [Act.put,Sq.t,Sq.z,Sq.s]
           refine Sq.kT (i := 21) (v := ?rvv21) rfl ?ryv21 hHeld ?rrv21
           case ryv21 => (intro w' hSw; (try dsimp only at hSw); go_simp; first | done | with_reducible rfl)
           try simp only [Act.put,Sq.t,Sq.z,Sq.s]
           refine Sq.kT (i := 22) (v := ?rvv22) rfl ?ryv22 hHeld ?rrv22
           case ryv22 => (intro w' hSw; (try dsimp only at hSw); go_simp; first | done | with_reducible rfl)
           try simp only [Act.put,Sq.t,Sq.z,Sq.s]
           refine Sq.kT (i := 23) (v := ?rvv23) rfl ?ryv23 hHeld ?rrv23
           case ryv23 => (intro w' hSw; (try dsimp only at hSw); go_simp; first | done | with_reducible rfl)
           try simp only [Act.put,Sq.t,Sq.z,Sq.s]
           refine Sq.kT (i := 24) (v := ?rvv24) rfl ?ryv24 hHeld ?rrv24
           case ryv24 => (intro w' hSw; (try dsimp only at hSw); go_simp; first | done | with_reducible rfl)
           try simp only [Act.put,Sq.t,Sq.z,Sq.s]
           refine Sq.kT (i := 26) (v := ?rvv26) rfl ?ryv26 hHeld ?rrv26
           case ryv26 => (intro w' hSw; (try dsimp only at hSw); go_simp; first | done | with_reducible rfl)
           try simp only [Act.put,Sq.t,Sq.z,Sq.s]
           refine Sq.kT (i := 27) (v := ?rvv27) rfl ?ryv27 hHeld ?rrv27
           case ryv27 => (intro w' hSw; (try dsimp only at hSw); go_simp; first | done | with_reducible rfl)
           try simp only [Act.put,Sq.t,Sq.z,Sq.s]
           refine Sq.kT (i := 28) (v := ?rvv28) rfl ?ryv28 hHeld ?rrv28
           case ryv28 => (intro w' hSw; (try dsimp only at hSw); go_simp; first | done | with_reducible rfl)
           try simp only [Act.put,Sq.t,Sq.z,Sq.s]
           refine Sq.kT (i := 29) (v := ?rvv29) rfl ?ryv29 hHeld ?rrv29
           case ryv29 => (intro w' hSw; (try dsimp only at hSw); go_simp; first | done | with_reducible rfl)
           try simp only [Act.put,Sq.t,Sq.z,Sq.s]
           refine Sq.kT (i := 30) (v := ?rvv30) rfl ?ryv30 hHeld ?rrv30
           case ryv30 => (intro w' hSw; (try dsimp only at hSw); go_simp; first | done | with_reducible rfl)
           try simp only [Act.put,Sq.t,Sq.z,Sq.s]
           refine wpAnyL_twoT (i := 25) (j := 31) (by kernel_rfl) rfl rfl (fun K hK => ?_) (fun K hK => ?_)
           ·
            go_simp
            go_at_call 20
            refine (QJ.out).mono ?_
            rintro e w7 ⟨rfl,rfl⟩
            go_simp
            refine hK.out _ _ (fun _ => hHeld) ?_
            clear hK K
            try simp only [Act.put,Sq.t,Sq.z,Sq.s]
            refine Sq.oT (i := 31) rfl fun K hK => ?_
            go_simp
            refine hK.out _ _ (fun _ => hHeld) ?_
            clear hK K
            try simp only [Act.put,Sq.t,Sq.z,Sq.s]
            refine Sq.kT (i := 32) (v := ?rvvp32) rfl ?ryvp32 hHeld ?rrvp32
            case ryvp32 => (intro w' hSw; (try dsimp only at hSw); go_simp; first | done | with_reducible rfl)
            try simp only [Act.put,Sq.t,Sq.z,Sq.s]
            refine Sq.kT (i := 33) (v := ?rvvp33) rfl ?ryvp33 hHeld ?rrvp33
            case ryvp33 => (intro w' hSw; (try dsimp only at hSw); go_simp; first | done | with_reducible rfl)
            try simp only [Act.put,Sq.t,Sq.z,Sq.s]
            refine wpAnyL_done (by kernel_rfl) ?_ _
            refine NoPanic.normal ?_
            go_wp2_with fail
            rcases HPC.out j with ⟨e1,e2⟩ | ⟨a9,b9,x9,e1,e2,hJ9⟩
            · have cx : w5.cell? ⟨xb,j,none⟩ = some (.pointer none) := by have h5 := (HQ.out.cells hj3).1; rw [e1] at h5; exact h5
              clear e1 e2
              go_wp2_with fail
              go_quiet (fail)
              go_wp2_with fail
              exact ⟨⟨k + 1,_,_,_,_,_,by omega,by simp,(HQ.out.left).calm (by first | exact Keeps.refl _ _ | exact Sq.r.drew | exact Sq.r.drewN _),HF.out,HW.out,HCc.out,HPC.out,HPJ.out⟩,by simp [intOf]; omega⟩
            · obtain ⟨H9,jb9,dp9,hc9⟩ := HQ.out.c_of e1
              obtain ⟨F9,kb9,hd9⟩ := HQ.out.d_of e2
              have QT : Hid (∀ w',Keeps [] w5 w' → Calls Tryz.prog 22 #[PT a9,PT b9] w' fun e w'' => e = .returned (.bool true) ∧ Keeps [] w5 w'') := fun w' hk => (Cd.told_yes (hc9.calm hk) (hd9.keeps hk (by simp)) (by have h5 := vs8 hJ9; omega)).mono fun e w'' ⟨he,h2⟩ => ⟨he,hk.trans h2 (by simp)⟩
              have HC9 : Hid (∀ w',Keeps [] w5 w' → w'.cell? ⟨xb,j,none⟩ = some (PT a9) ∧ w'.cell? ⟨yb,j,none⟩ = some (PT b9)) := fun w' hk => by
               obtain ⟨h5,h6,_,_⟩ := (HQ.out.calm hk).cells hj3
               rw [e1] at h5
               rw [e2] at h6
               exact ⟨h5,h6⟩
              have hkB9 : Keeps [] w5 w5 := Keeps.refl _ _
              clear e1 e2 hc9 hd9 hJ9
              go_wp2_with fail
              go_region_held3 (fun w' => w'.cell? ⟨xb,j,none⟩ = some (PT a9) ∧ w'.cell? ⟨yb,j,none⟩ = some (PT b9)) (first | with_reducible exact HC9.out _ (by first | with_reducible assumption | with_reducible exact Keeps.drew (by with_reducible assumption)) | go_keep) ((go_at_call 22; (with_reducible refine (QT.out _ (by first | with_reducible assumption | with_reducible exact Keeps.drew (by with_reducible assumption))).mono ?_); rintro e wt ⟨rfl,hkt⟩))
              all_goals
               go_wp2_with fail
               exact ⟨⟨k + 1,_,_,_,_,_,by omega,by simp,(HQ.out.left).calm (by first | with_reducible assumption | with_reducible exact Keeps.drew (by with_reducible assumption)),HF.out,HW.out,HCc.out,HPC.out,HPJ.out⟩,by simp [intOf]; omega⟩
           ·
            go_simp
            refine hK.out _ _ (fun _ => hHeld) ?_
            clear hK K
            try simp only [Act.put,Sq.t,Sq.z,Sq.s]
            refine Sq.oT (i := 25) rfl fun K hK => ?_
            go_simp
            go_at_call 20
            refine (QJ.out).mono ?_
            rintro e w7 ⟨rfl,rfl⟩
            go_simp
            refine hK.out _ _ (fun _ => hHeld) ?_
            clear hK K
            try simp only [Act.put,Sq.t,Sq.z,Sq.s]
            refine Sq.kT (i := 32) (v := ?rvvq32) rfl ?ryvq32 hHeld ?rrvq32
            case ryvq32 => (intro w' hSw; (try dsimp only at hSw); go_simp; first | done | with_reducible rfl)
            try simp only [Act.put,Sq.t,Sq.z,Sq.s]
            refine Sq.kT (i := 33) (v := ?rvvq33) rfl ?ryvq33 hHeld ?rrvq33
            case ryvq33 => (intro w' hSw; (try dsimp only at hSw); go_simp; first | done | with_reducible rfl)
            try simp only [Act.put,Sq.t,Sq.z,Sq.s]
            refine wpAnyL_done (by kernel_rfl) ?_ _
            refine NoPanic.normal ?_
            go_wp2_with fail
            rcases HPC.out j with ⟨e1,e2⟩ | ⟨a9,b9,x9,e1,e2,hJ9⟩
            · have cx : w5.cell? ⟨xb,j,none⟩ = some (.pointer none) := by have h5 := (HQ.out.cells hj3).1; rw [e1] at h5; exact h5
              clear e1 e2
              go_wp2_with fail
              go_quiet (fail)
              go_wp2_with fail
              exact ⟨⟨k + 1,_,_,_,_,_,by omega,by simp,(HQ.out.left).calm (by first | exact Keeps.refl _ _ | exact Sq.r.drew | exact Sq.r.drewN _),HF.out,HW.out,HCc.out,HPC.out,HPJ.out⟩,by simp [intOf]; omega⟩
            · obtain ⟨H9,jb9,dp9,hc9⟩ := HQ.out.c_of e1
              obtain ⟨F9,kb9,hd9⟩ := HQ.out.d_of e2
              have QT : Hid (∀ w',Keeps [] w5 w' → Calls Tryz.prog 22 #[PT a9,PT b9] w' fun e w'' => e = .returned (.bool true) ∧ Keeps [] w5 w'') := fun w' hk => (Cd.told_yes (hc9.calm hk) (hd9.keeps hk (by simp)) (by have h5 := vs8 hJ9; omega)).mono fun e w'' ⟨he,h2⟩ => ⟨he,hk.trans h2 (by simp)⟩
              have HC9 : Hid (∀ w',Keeps [] w5 w' → w'.cell? ⟨xb,j,none⟩ = some (PT a9) ∧ w'.cell? ⟨yb,j,none⟩ = some (PT b9)) := fun w' hk => by
               obtain ⟨h5,h6,_,_⟩ := (HQ.out.calm hk).cells hj3
               rw [e1] at h5
               rw [e2] at h6
               exact ⟨h5,h6⟩
              have hkB9 : Keeps [] w5 w5 := Keeps.refl _ _
              clear e1 e2 hc9 hd9 hJ9
              go_wp2_with fail
              go_region_held3 (fun w' => w'.cell? ⟨xb,j,none⟩ = some (PT a9) ∧ w'.cell? ⟨yb,j,none⟩ = some (PT b9)) (first | with_reducible exact HC9.out _ (by first | with_reducible assumption | with_reducible exact Keeps.drew (by with_reducible assumption)) | go_keep) ((go_at_call 22; (with_reducible refine (QT.out _ (by first | with_reducible assumption | with_reducible exact Keeps.drew (by with_reducible assumption))).mono ?_); rintro e wt ⟨rfl,hkt⟩))
              all_goals
               go_wp2_with fail
               exact ⟨⟨k + 1,_,_,_,_,_,by omega,by simp,(HQ.out.left).calm (by first | with_reducible assumption | with_reducible exact Keeps.drew (by with_reducible assumption)),HF.out,HW.out,HCc.out,HPC.out,HPJ.out⟩,by simp [intOf]; omega⟩
       ·
        as_aux_lemma =>
         have QR : Hid (Calls Tryz.prog 21 #[PT z.p,PT y.p,.agg #[.int .i64 kd,.int .i64 mm,.int .i64 pi,.int .i64 pn,.int .i64 px,.int .i64 sl,.int .i64 ge,.int .i64 th,.int .i64 st,.slice A0 m cw]] w2 fun e w' => e = .returned (.bool true) ∧ Rg (⟨z,y,n,cf,xb,yb,jb,kb⟩ : Fx) w w' (some (bo,#[.int .i64 kd,.int .i64 mm,.int .i64 pi,.int .i64 pn,.int .i64 px,.int .i64 sl,.int .i64 ge,.int .i64 th,.int .i64 st,.slice A0 m cw])) (S1.raw kd pi pn px) (S1.raw kd pi pn px) X Y J K) := raw_any HR3.out HF1.out (by omega) kd mm pi pn px sl ge th st (.slice A0 m cw)
         go_wp2_with fail
         refine QR.out.mono ?_
         rintro e w3 ⟨rfl,hr4⟩
         have HQ := Lib.hid hr4
         have HF : Hid (Fit (k + 1) (S1.raw kd pi pn px)) := HF1.out.raw kd pi pn px
         have HW : Hid ((S1.raw kd pi pn px).wu) := raw_wu HW1.out kd pi pn px
         have HCc : Hid ((S1.raw kd pi pn px).c = cf) := (raw_c S1 kd pi pn px).trans HC1.out
         clear hr4 QR HR3 HF1 HW1 HC1 d0 d1 d2 d3 d4 d5 d6 d7 d8 d9 n20 n21
         generalize (S1.raw kd pi pn px) = S' at *
         rcases HPC.out j with ⟨e1,e2⟩ | ⟨a9,b9,x9,e1,e2,hJ9⟩
         · have cx : w3.cell? ⟨xb,j,none⟩ = some (.pointer none) := by have h5 := (HQ.out.cells hj3).1; rw [e1] at h5; exact h5
           clear e1 e2
           go_wp2_with fail
           go_quiet (fail)
           go_wp2_with fail
           exact ⟨⟨k + 1,_,_,_,_,_,by omega,by simp,(HQ.out.left).calm (by first | exact Keeps.refl _ _ | exact Sq.r.drew | exact Sq.r.drewN _),HF.out,HW.out,HCc.out,HPC.out,HPJ.out⟩,by simp [intOf]; omega⟩
         ·
          obtain ⟨H9,jb9,dp9,hc9⟩ := HQ.out.c_of e1
          obtain ⟨F9,kb9,hd9⟩ := HQ.out.d_of e2
          have QT : Hid (∀ w',Keeps [] w3 w' → Calls Tryz.prog 22 #[PT a9,PT b9] w' fun e w'' => e = .returned (.bool true) ∧ Keeps [] w3 w'') := fun w' hk => (Cd.told_yes (hc9.calm hk) (hd9.keeps hk (by simp)) (by have h5 := vs8 hJ9; omega)).mono fun e w'' ⟨he,h2⟩ => ⟨he,hk.trans h2 (by simp)⟩
          have HC9 : Hid (∀ w',Keeps [] w3 w' → w'.cell? ⟨xb,j,none⟩ = some (PT a9) ∧ w'.cell? ⟨yb,j,none⟩ = some (PT b9)) := fun w' hk => by
           obtain ⟨h5,h6,_,_⟩ := (HQ.out.calm hk).cells hj3
           rw [e1] at h5
           rw [e2] at h6
           exact ⟨h5,h6⟩
          have hkB9 : Keeps [] w3 w3 := Keeps.refl _ _
          clear e1 e2 hc9 hd9 hJ9
          go_wp2_with fail
          go_region_held3 (fun w' => w'.cell? ⟨xb,j,none⟩ = some (PT a9) ∧ w'.cell? ⟨yb,j,none⟩ = some (PT b9)) (first | with_reducible exact HC9.out _ (by first | with_reducible assumption | with_reducible exact Keeps.drew (by with_reducible assumption)) | go_keep) ((go_at_call 22; (with_reducible refine (QT.out _ (by first | with_reducible assumption | with_reducible exact Keeps.drew (by with_reducible assumption))).mono ?_); rintro e wt ⟨rfl,hkt⟩))
          all_goals
           go_wp2_with fail
           exact ⟨⟨k + 1,_,_,_,_,_,by omega,by simp,(HQ.out.left).calm (by first | with_reducible assumption | with_reducible exact Keeps.drew (by with_reducible assumption)),HF.out,HW.out,HCc.out,HPC.out,HPJ.out⟩,by simp [intOf]; omega⟩
     · have hge : ¬ ((k : Int) < (nn : Int)) := by omega
       have QS := Lib.hid (same_any HI.out.rg HI.out.fit (by omega))
       have HKP := Lib.hid HI.out.rg.keep
       clear HI
       go_wp2_with fail
       refine QS.out.mono ?_
       rintro e wf ⟨rfl,hkf⟩
       go_wp2_with fail
       go_ret
       exact ⟨rfl,(HKP.out.trans hkf (by simp)).below (by simp) (Nat.le_refl _)⟩
 ·
  refine (sp_new_bad w1 cf hok).mono ?_
  rintro e w2 ⟨rfl,hk2⟩
  have HK2 : Hid (Keeps [] w w2) := HK1.out.trans hk2 (by simp)
  have HB2 : Hid (Blk w2 w.heap.size 23 cf.vals) := HB1.out.keeps hk2 (by simp)
  clear hk2 d0 d1 d2 d3 d4 d5 HB1 HK1
  obtain ⟨d0,d1,d2,d3,d4,d5⟩ := cf_cells HB2.out
  go_wp2_with fail
  refine (rp_new_bad w2 cf hok).mono ?_
  rintro e w3 ⟨rfl,hk3⟩
  have HK3 : Hid (Keeps [] w w3) := HK2.out.trans hk3 (by simp)
  clear hk3
  go_wp2_with fail
  go_ret
  exact ⟨rfl,HK3.out.below (by simp) (Nat.le_refl _)⟩
end Go.Proofs.YtmlnedilbneekaaGreat.commitPlays