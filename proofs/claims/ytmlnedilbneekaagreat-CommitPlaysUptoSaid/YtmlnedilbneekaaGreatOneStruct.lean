/- Layer 13: the document's example. -/
import Derived.Test.YtmlnedilbneekaaGreatCmMost
import Derived.Test.YtmlnedilbneekaaGreatSlR
import Derived.Test.YtmlnedilbneekaaGreatSigTouched
import Derived.Test.YtmlnedilbneekaaGreatMake
set_option linter.unusedVariables false
set_option linter.unusedSimpArgs false
namespace Go.Proofs.YtmlnedilbneekaaGreat
open Go.RowKit Pol
def c13 : Cf := ⟨1,1,8,1,0,0⟩
theorem c13_ok : c13.ok := by unfold Cf.ok c13; decide
def x13 : Cm := Cm.new 0 1 1 5 [⟨0,7⟩]
def runs (S : Sp) (d : Int) (x : Cm) : Nat → Sp × Int × Cm
 | 0 => (S,d,x)
 | k + 1 => ((((runs S d x k).2.2.step (runs S d x k).1 (runs S d x k).2.1).2.2.1),((runs S d x k).2.2.step (runs S d x k).1 (runs S d x k).2.1).2.2.2,((runs S d x k).2.2.step (runs S d x k).1 (runs S d x k).2.1).2.1)
def st13 (k : Nat) : Sp × Int × Cm := runs (spL c13) 0 x13 k
theorem st13_done (k : Nat) (h : k < 5) : (st13 k).2.2.done = false ∧ ((st13 k).2.2.step (st13 k).1 (st13 k).2.1).1 = 1 := by
 match k,h with
 | 0,_ => exact ⟨by kernel_rfl,by kernel_rfl⟩
 | 1,_ => exact ⟨by kernel_rfl,by kernel_rfl⟩
 | 2,_ => exact ⟨by kernel_rfl,by kernel_rfl⟩
 | 3,_ => exact ⟨by kernel_rfl,by kernel_rfl⟩
 | 4,_ => exact ⟨by kernel_rfl,by kernel_rfl⟩
theorem st13_end : (st13 5).2.2.done = true ∧ (st13 5).2.2.end_ = 0 ∧ (st13 5).2.2.won = true ∧ (st13 5).2.2.number = 1 ∧ ((st13 5).2.2.step (st13 5).1 (st13 5).2.1).1 = 3 ∧ (st13 5).1.cells = [7] ∧ (st13 5).1.gate.number = 2 ∧ (st13 5).1.gate.owner = 0 :=
 ⟨by kernel_rfl,by kernel_rfl,by kernel_rfl,by kernel_rfl,by kernel_rfl,by kernel_rfl,by kernel_rfl,by kernel_rfl⟩
theorem may13 : mayE c13 0 1 5 [⟨0,7⟩] = 0 ∧ mayE c13 0 1 5 [⟨0,7⟩,⟨0,0⟩] = 1 := by decide
set_option maxRecDepth 100000 in
set_option maxHeartbeats 4000000 in
theorem awake13 (w : World) : Calls Tryz.prog 11 #[] w fun e w' => e = .returned (.bool true) ∧ Keeps [] w w' := by
 have HL := Lib.hid (lives_any w c13 c13_ok)
 obtain ⟨i0,hi,hz0,hz1,hz2⟩ := info_parts Tryz.infoPr
 go_enter Tryz.func11,Tryz.ntmps11
 go_wp2_with fail
 refine HL.out.mono ?_
 rintro e w1 ⟨z,jb,F,rfl,hs,hj,hlo⟩
 have HS := Lib.hid hs
 have HJ := Lib.hid hj
 have HLO := Lib.hid hlo
 clear hs hj hlo HL
 go_wp2_with fail
 have hk2 : Keeps [] w1 ((w1.alloc (.cells #[.int .i64 0,.int .i64 7] 81)).alloc (.cells #[.int .i64 0,.int .i64 1,.int .i64 1,.int .i64 5,.slice (some ⟨w1.heap.size,0,none⟩) 1 1] 69)) := ((Keeps.refl [] w1).alloc _).alloc _
 have ho2 := own_keeps (made_row w1 81 #[.int .i64 0,.int .i64 7] w1.heap.size rfl) ((Keeps.refl [] _).alloc (.cells #[.int .i64 0,.int .i64 1,.int .i64 1,.int .i64 5,.slice (some ⟨w1.heap.size,0,none⟩) 1 1] 69)) (by simp)
 have hbo := Blk.new (w1.alloc (.cells #[.int .i64 0,.int .i64 7] 81)) 69 #[.int .i64 0,.int .i64 1,.int .i64 1,.int .i64 5,.slice (some ⟨w1.heap.size,0,none⟩) 1 1]
 have hsz : (w1.alloc (.cells #[.int .i64 0,.int .i64 7] 81)).heap.size = w1.heap.size + 1 := by simp
 have hsz2 : ((w1.alloc (.cells #[.int .i64 0,.int .i64 7] 81)).alloc (.cells #[.int .i64 0,.int .i64 1,.int .i64 1,.int .i64 5,.slice (some ⟨w1.heap.size,0,none⟩) 1 1] 69)).heap.size = w1.heap.size + 2 := by simp
 rw [hsz] at hbo
 obtain ⟨w2,hw2⟩ : ∃ q,(w1.alloc (.cells #[.int .i64 0,.int .i64 7] 81)).alloc (.cells #[.int .i64 0,.int .i64 1,.int .i64 1,.int .i64 5,.slice (some ⟨w1.heap.size,0,none⟩) 1 1] 69) = q := ⟨_,rfl⟩
 rw [hw2] at hk2 ho2 hbo hsz2
 try rw [hw2]
 have HK2 := Lib.hid hk2
 have HO2 : Hid (w2.ownsRow 0 81 2 (.slice (some ⟨w1.heap.size,0,none⟩) 1 1) 1 [.int .i64 0,.int .i64 7]) := ho2
 have HBO := Lib.hid hbo
 have HSZ2 := Lib.hid hsz2
 have HN := Lib.hid (cm_new (jb := jb) (HS.out.calm hk2) (spL_fit c13_ok) 0 1 1 5 (some ⟨w1.heap.size,0,none⟩) 1 [⟨0,7⟩] (SlR.of_own ho2) (by rw [spL_c]; exact may13.1))
 clear hk2 ho2 hbo hsz hsz2 hw2
 refine HN.out.mono ?_
 rintro e w3 ⟨cb,H,rfl,hm,hfr,hk3⟩
 have HM := Lib.hid (And.intro hm (And.intro hfr hk3))
 have hb3 := HBO.out.keeps hk3 (by simp)
 have o4 : w3.cell? ⟨w1.heap.size + 1,4,none⟩ = some (.slice (some ⟨w1.heap.size,0,none⟩) 1 1) := (hb3.cell 4).trans rfl
 have f4 := hb3.frozen 4
 have HO3 := Lib.hid (own_keeps HO2.out hk3 (by simp))
 have hlt3 := hb3.lt
 have hne : w1.heap.size + 1 ≠ w3.heap.size := Nat.ne_of_lt hlt3
 have hmx : Hid (1 + 1 ≤ maxLen) := by unfold Hid maxLen; omega
 clear hm hfr hk3 hb3
 go_wp2_with (at_builtin; refine wpList_append_row rfl (.tmp 30) (.tmp 32) 67 rfl 81 i0 _ 2 16 Tryz.underlying67 hi hz0 hz1 hz2 rfl (by decide) (.slice (some ⟨w1.heap.size,0,none⟩) 1 1) 1 _ rfl (own_keeps HO3.out ((Keeps.refl [] _).alloc _) (by simp)) _ 1 [.int .i64 0,.int .i64 0] rfl (made_row _ _ _ _ rfl) (by simp [Value.oneCell']) hmx.out (by decide) ?_; intro v1 w4 hown1 hg1 hat1; obtain ⟨g1,cc,rfl,_,_⟩ := hown1.form (by decide); have HO4 := Lib.hid hown1; have HG4 := Lib.hid hg1; have HA4 := Lib.hid hat1; have hb4 := (HBO.out.keeps (HM.out.2.2) (by simp) |>.alloc (.cells #[.int .i64 0,.int .i64 0] 81)).grown hg1 (by simp [Value.ownBlock]); have o41 : w4.cell? ⟨w1.heap.size + 1,4,none⟩ = some (.slice (some ⟨w1.heap.size,0,none⟩) 1 1) := (hb4.cell 4).trans rfl; have o01 : w4.cell? ⟨w1.heap.size + 1,0,none⟩ = some (.int .i64 0) := (hb4.cell 0).trans rfl; have o11 : w4.cell? ⟨w1.heap.size + 1,1,none⟩ = some (.int .i64 1) := (hb4.cell 1).trans rfl; have o21 : w4.cell? ⟨w1.heap.size + 1,2,none⟩ = some (.int .i64 1) := (hb4.cell 2).trans rfl; have o31 : w4.cell? ⟨w1.heap.size + 1,3,none⟩ = some (.int .i64 5) := (hb4.cell 3).trans rfl; have f41 := hb4.frozen 4; have HB4 := Lib.hid hb4; clear hown1 hg1 hat1 hb4)
 have hk34 : Keeps [w1.heap.size,w1.heap.size + 1] w3 (w4.setCell ⟨w1.heap.size + 1,4,none⟩ (.slice (some ⟨g1,0,none⟩) 2 cc)) := ((Sq.r.alloc _).grown HG4.out (fun q hq => .inl (by simp [Value.ownBlock] at hq; simp [hq]))).setCell (.inl (by simp)) _
 have hb5 := HB4.out.set_ 4 (.slice (some ⟨g1,0,none⟩) 2 cc)
 have hg1 : g1 ≠ w1.heap.size + 1 := fun e => by
  have a1 := own_tyOf HO4.out (k := g1) rfl
  rw [e,HB4.out.tyOf] at a1
  revert a1
  decide
 have hk45 : Keeps [w1.heap.size + 1] w4 (w4.setCell ⟨w1.heap.size + 1,4,none⟩ (.slice (some ⟨g1,0,none⟩) 2 cc)) := Sq.r.setCell (.inl (by simp)) _
 have ho5 := own_keeps HO4.out hk45 (by simp [Value.ownBlock]; exact hg1)
 obtain ⟨w5,hw5⟩ : ∃ q,w4.setCell ⟨w1.heap.size + 1,4,none⟩ (.slice (some ⟨g1,0,none⟩) 2 cc) = q := ⟨_,rfl⟩
 rw [hw5] at hk34 hb5 ho5
 clear hk45
 try rw [hw5]
 have hs3 : SP w w3 z F (spL c13) := HS.out.calm (HK2.out.trans HM.out.2.2 (by simp))
 have hlt1 : ∀ q,q ∈ F → q < w1.heap.size := HS.out.lt
 have hsz := HS.out.keep.size
 have ty0 := own_tyOf HO3.out (k := w1.heap.size) rfl
 have ty1 := (HBO.out.keeps HM.out.2.2 (by simp)).tyOf
 have hs5 : SP w w5 z F (spL c13) := hs3.away hk34 (fun q hq => by
  simp only [List.mem_cons,List.not_mem_nil,or_false] at hq
  rcases hq with rfl | rfl
  · refine ⟨by omega,fun hx => by have := hlt1 _ hx; omega,fun t ht => ?_⟩
    rw [ty0] at ht; injection ht with ht; subst ht; decide
  · refine ⟨by omega,fun hx => by have := hlt1 _ hx; omega,fun t ht => ?_⟩
    rw [ty1] at ht; injection ht with ht; subst ht; decide)
 have hH : ∀ q,q ∈ H → q ∉ [w1.heap.size,w1.heap.size + 1] := fun q hq hx => by
  have h1 := HM.out.2.1 q hq
  have h2 := HSZ2.out
  simp only [List.mem_cons,List.not_mem_nil,or_false] at hx
  rcases hx with rfl | rfl <;> omega
 have hjlt : jb < w1.heap.size := Blk.lt HJ.out
 have hj5 : JAt w5 jb c13 0 := Blk.keeps (Blk.keeps HJ.out (HK2.out.trans HM.out.2.2 (by simp)) (by simp)) hk34 (fun hx => by
  simp only [List.mem_cons,List.not_mem_nil,or_false] at hx
  rcases hx with e | e <;> omega)
 have hm5 : CmN w w5 z F jb cb H 0 (stgVal 0 .take) x13 := HM.out.1.keeps hk34 hH (fun q hq => .inl hq)
 have HC5 : Hid (CmRun w w5 z jb cb 1 2 (spL c13) c13 0 x13) := CmRun.made hs5 hj5 HLO.out (spL_fit c13_ok) (spL_wu c13) (spL_c c13) (by kernel_rfl) (by decide) (by decide) may13.1 hm5 (fun hx => by
  have h1 := HM.out.2.1 _ hx
  have h2 := HSZ2.out
  omega)
 have HN := Lib.hid (cm_new_bad (jb := jb) hs5 (spL_fit c13_ok) 0 1 1 5 (some ⟨g1,0,none⟩) cc [⟨0,7⟩,⟨0,0⟩] (SlR.of_own ho5) (by rw [spL_c,may13.2]; decide))
 rw [spL_c,may13.2] at HN
 clear hk34 hb5 ho5 hw5 hs3 hlt1 hsz ty0 ty1 hs5 hH hjlt hj5 hm5 hg1 HO3 HO4 HG4 HA4 HB4 HM HO2 HBO HSZ2 HS HJ HLO HK2 o41 o01 o11 o21 o31 f41 o4 f4 hlt3 hne hmx
 refine HN.out.mono ?_
 rintro e w6 ⟨rfl,hk6⟩
 have HC := Lib.hid (HC5.out.calm hk6)
 clear HC5 HN hk6
 have QE : Hid (Calls Tryz.prog 62 #[PT cb] w6 fun e w' => e = .returned (.int .i64 4) ∧ w6 = w') := HC.out.end_
 go_wp2_with fail
 refine QE.out.mono ?_
 rintro e wq ⟨rfl,rfl⟩
 clear QE
 go_wp2_with fail
 go_loopw [9] (fun i wr => ∃ k : Nat,k ≤ 5 ∧ i = .int .i64 k ∧ CmRun w wr z jb cb 1 (2 + k) (st13 k).1 c13 (st13 k).2.1 (st13 k).2.2) (fun i _ => 5 - (intOf i).toNat)
 case atStart => exact ⟨0,by decide,rfl,HC.out⟩
 case round =>
  obtain ⟨k,hk,rfl,hr⟩ := hrel
  have HR := Lib.hid hr
  clear hr HC
  have k0 : (0 : Int) ≤ (k : Int) := by omega
  by_cases hlt : k < 5
  ·
   obtain ⟨hd,ha⟩ := st13_done k hlt
   have QD := HR.out.done
   have QS := HR.out.step (by omega)
   rw [hd] at QD
   rw [ha] at QS
   have HQD := Lib.hid QD
   have HQS := Lib.hid QS
   have k1 : (k : Int) < 5 := by omega
   clear hd ha QD QS
   go_wp2_with fail
   refine HQD.out.mono ?_
   rintro e wq ⟨rfl,rfl⟩
   go_wp2_with fail
   refine HQS.out.mono ?_
   rintro e w7 ⟨rfl,hr7⟩
   have HR7 := Lib.hid hr7
   clear hr7 HQD HQS HR
   go_wp2_with fail
   exact ⟨⟨k + 1,by omega,by simp,HR7.out⟩,by simp [intOf]; omega⟩
  ·
   obtain rfl : k = 5 := by omega
   clear hlt hk k0
   rename_i wr
   obtain ⟨e1,e2,e3,e4,e5,e6,e7,e8⟩ := st13_end
   obtain ⟨F6,hs6⟩ := HR.out.sp
   have hv := sp_view hs6 HR.out.fit
   have hln : (st13 5).1.H.length = 1 := HR.out.len
   rw [e6,e7,e8,hln] at hv
   have HV := Lib.hid hv
   have QD := HR.out.done
   have QE := HR.out.end_
   have QW := HR.out.won
   have QN := HR.out.number
   rw [e1] at QD
   rw [e2] at QE
   rw [e3] at QW
   rw [e4] at QN
   clear QD QE QW QN hv hln e1 e2 e3 e4 e5 e6 e7 e8 hs6
   go_wp2_with fail
   refine HV.out.mono ?_
   rintro e w7 ⟨a1,c1,a2,c2,rfl,h1,h2,l1,l2,hk7⟩
   have x0 : w7.cell? ⟨a1,0,none⟩ = some (.int .i64 7) := LocR.cell (F := []) ⟨h1,by simp⟩ rfl
   have HR7 := Lib.hid (HR.out.calm hk7)
   clear h1 h2 hk7 HV HR
   go_wp2_with fail
   have hka : Keeps [] w7 (w7.alloc (.cells #[.slice (some ⟨a1,0,none⟩) 1 c1,.int .i64 2,.int .i64 0,.slice (some ⟨a2,0,none⟩) 1 c2] 147)) := by simp
   have L2 : Hid (Blk (w7.alloc (.cells #[.slice (some ⟨a1,0,none⟩) 1 c1,.int .i64 2,.int .i64 0,.slice (some ⟨a2,0,none⟩) 1 c2] 147)) w7.heap.size 147 #[.slice (some ⟨a1,0,none⟩) 1 c1,.int .i64 2,.int .i64 0,.slice (some ⟨a2,0,none⟩) 1 c2]) := Blk.new _ _ _
   replace x0 := keeps_cell0 hka x0
   have HR8 := Lib.hid (HR7.out.calm hka)
   obtain ⟨w8,hw8⟩ : ∃ q,w7.alloc (.cells #[.slice (some ⟨a1,0,none⟩) 1 c1,.int .i64 2,.int .i64 0,.slice (some ⟨a2,0,none⟩) 1 c2] 147) = q := ⟨_,rfl⟩
   rw [hw8] at HR8 L2 x0
   try rw [hw8]
   clear hw8 hka l1 l2
   obtain ⟨zv,hzv⟩ : ∃ zv,w7.heap.size = zv := ⟨_,rfl⟩
   rw [hzv] at L2
   try rw [hzv]
   clear hzv HR7
   obtain ⟨e1,e2,e3,e4,e5,e6,e7,e8⟩ := st13_end
   have QD := HR8.out.done
   have QE := HR8.out.end_
   have QW := HR8.out.won
   have QN := HR8.out.number
   have QS := HR8.out.step (by decide)
   rw [e1] at QD
   rw [e2] at QE
   rw [e3] at QW
   rw [e4] at QN
   rw [e5] at QS
   have HQD := Lib.hid QD
   have HQE := Lib.hid QE
   have HQW := Lib.hid QW
   have HQN := Lib.hid QN
   have HQS := Lib.hid QS
   have d0 : w8.cell? ⟨zv,0,none⟩ = some (.slice (some ⟨a1,0,none⟩) 1 c1) := (L2.out.cell 0).trans rfl
   have d1 : w8.cell? ⟨zv,1,none⟩ = some (.int .i64 2) := (L2.out.cell 1).trans rfl
   have d2 : w8.cell? ⟨zv,2,none⟩ = some (.int .i64 0) := (L2.out.cell 2).trans rfl
   have q1 : ∀ w,(Op.equalIn 10000 129 (.agg #[.int .i64 2,.int .i64 0]) (.agg #[.int .i64 2,.int .i64 0])).run Tryz.prog w = .ok true w := fun w => by have := RowG.eq_run w ⟨2,0⟩ ⟨2,0⟩; rw [decide_eq_true rfl] at this; exact this
   clear QD QE QW QN QS e1 e2 e3 e4 e5 e6 e7 e8
   go_wp2_with fail
   refine HQD.out.mono ?_
   rintro e wq ⟨rfl,rfl⟩
   go_wp2_with fail
   refine HQE.out.mono ?_
   rintro e wq ⟨rfl,rfl⟩
   go_wp2_with fail
   refine HQW.out.mono ?_
   rintro e wq ⟨rfl,rfl⟩
   go_wp2_with fail
   refine HQN.out.mono ?_
   rintro e wq ⟨rfl,rfl⟩
   go_wp2_with fail
   refine HQS.out.mono ?_
   rintro e w9 ⟨rfl,hr9⟩
   obtain ⟨F9,hs9⟩ := hr9.sp
   have hcc := hr9.cc
   have HK9 := Lib.hid hs9.keep
   have QC := sp_config hs9
   rw [hcc] at QC
   have HQC := Lib.hid QC
   clear hr9 hs9 hcc QC HQS HQN HQW HQE HQD HR8 x0 d0 d1 d2 q1 L2
   go_wp2_with fail
   refine HQC.out.mono ?_
   rintro e w10 ⟨rfl,hk10⟩
   have HK10 : Hid (Keeps [] w w10) := HK9.out.trans hk10 (by simp)
   have HM : Hid (Calls Tryz.prog 66 #[.agg #[.int .i64 1,.int .i64 1,.int .i64 8,.int .i64 1,.int .i64 0,.int .i64 0],.int .i64 1] w10 fun e w' => e = .returned (.int .i64 4) ∧ Keeps [] w10 w') := cm_most w10 c13 1
   clear hk10 HK9 HQC
   go_wp2_with fail
   refine HM.out.mono ?_
   rintro e w11 ⟨rfl,hk11⟩
   have HK11 : Hid (Keeps [] w w11) := HK10.out.trans hk11 (by simp)
   clear hk11 HK10 HM
   go_wp2_with fail
   go_ret
   exact ⟨rfl,HK11.out⟩
open Go.ChangeShapes Go.WideShapes Go.Deep Go.RowKit
section
variable {H : Type} {enc : TypeId × Value → H} {P : Program} {w : World} {base : Nat} {spare : Nat → Bool} {held : Bool}
theorem struct_open {e : TypeId} {fs : Array Field} {v : Value} {b0 : Nat} {d : DataW H} {p : List MemPlace} (he : P.underlying e = some (.struct fs)) (hone : oneCellFields P fs = true) (hC : P.cellsOf e = fs.size)
 (hok : Value.okWide P w .any b0 e v) (h : DataW.Trod enc P w base spare held e v d p) :
 ∃ cs : Array Value,v = .agg cs ∧ cs.size = fs.size ∧ ∀ (j : Nat) (f : Field),fs[j]? = some f → ∃ (c : Value) (y : DataW H × List MemPlace) (n : Nat),cs[j]? = some c ∧ DataW.trod enc P w base spare held n f.type [c] = some y := by
 obtain ⟨cs,rfl,hsz⟩ := okWide_struct he hok
 rw [hC] at hsz
 obtain ⟨fuel,hf⟩ := h
 obtain ⟨ys,n',hn',hy,hlen,hyl,hf⟩ := DataW.trod_struct he hf
 refine ⟨cs,rfl,hsz,fun j f hj => ?_⟩
 obtain ⟨ho,hk⟩ := hone_of hone j f hj
 have hjl : j < fs.size := (Array.getElem?_eq_some_iff.1 hj).1
 have hjc : j < cs.toList.length := by simpa using (by omega : j < cs.size)
 have h1 := hf j f hj
 have hc : (Value.agg cs).cells.toList = cs.toList := rfl
 rw [hc,ho,hk,List.drop_eq_getElem_cons hjc] at h1
 have hys : ys[j]? = some (ys[j]'(by omega)) := List.getElem?_eq_getElem (by omega)
 exact ⟨cs.toList[j],_,n',by rw [← Array.getElem?_toList]; exact List.getElem?_eq_getElem hjc,(show DataW.trod enc P w base spare held n' f.type [cs.toList[j]] = ys[j]? from h1).trans hys⟩
theorem arr6 {cs : Array Value} (hn : cs.size = 6) {c0 c1 c2 c3 c4 c5 : Value} (h0 : cs[0]? = some c0) (h1 : cs[1]? = some c1) (h2 : cs[2]? = some c2) (h3 : cs[3]? = some c3) (h4 : cs[4]? = some c4) (h5 : cs[5]? = some c5) : cs = #[c0,c1,c2,c3,c4,c5] := by
 apply Array.ext_getElem?
 intro i
 rcases Nat.lt_or_ge i 6 with hi | hi
 ·
  have : i = 0 ∨ i = 1 ∨ i = 2 ∨ i = 3 ∨ i = 4 ∨ i = 5 := by omega
  rcases this with rfl | rfl | rfl | rfl | rfl | rfl
  · rw [h0]; rfl
  · rw [h1]; rfl
  · rw [h2]; rfl
  · rw [h3]; rfl
  · rw [h4]; rfl
  · rw [h5]; rfl
 · rw [Array.getElem?_eq_none (by omega),Array.getElem?_eq_none (by simpa using hi)]
set_option maxRecDepth 100000 in
theorem cfg_open {v : Value} {b0 : Nat} {d : DataW H} {p : List MemPlace} (hok : Value.okWide Tryz.prog w .any b0 23 v) (h : DataW.Trod enc Tryz.prog w base spare held 23 v d p) :
 ∃ c : Cf,v = .agg #[.int .i64 c.cells,.int .i64 c.slots,.int .i64 c.bits,.int .i64 c.tag,.int .i64 c.bias,.int .i64 c.defer] := by
 obtain ⟨cs,rfl,hn,hc⟩ := struct_open Tryz.underlying23 (by kernel_rfl) (by kernel_rfl) hok h
 obtain ⟨c0,y0,n0,e0,t0⟩ := hc 0 _ rfl
 obtain ⟨c1,y1,n1,e1,t1⟩ := hc 1 _ rfl
 obtain ⟨c2,y2,n2,e2,t2⟩ := hc 2 _ rfl
 obtain ⟨c3,y3,n3,e3,t3⟩ := hc 3 _ rfl
 obtain ⟨c4,y4,n4,e4,t4⟩ := hc 4 _ rfl
 obtain ⟨c5,y5,n5,e5,t5⟩ := hc 5 _ rfl
 obtain ⟨x0,z0,_⟩ := DataW.trod_int Tryz.underlying3 t0
 obtain ⟨x1,z1,_⟩ := DataW.trod_int Tryz.underlying3 t1
 obtain ⟨x2,z2,_⟩ := DataW.trod_int Tryz.underlying3 t2
 obtain ⟨x3,z3,_⟩ := DataW.trod_int Tryz.underlying3 t3
 obtain ⟨x4,z4,_⟩ := DataW.trod_int Tryz.underlying3 t4
 obtain ⟨x5,z5,_⟩ := DataW.trod_int Tryz.underlying3 t5
 simp at z0 z1 z2 z3 z4 z5
 subst z0 z1 z2 z3 z4 z5
 exact ⟨⟨x0,x1,x2,x3,x4,x5⟩,by rw [arr6 hn e0 e1 e2 e3 e4 e5]⟩
end
end Go.Proofs.YtmlnedilbneekaaGreat