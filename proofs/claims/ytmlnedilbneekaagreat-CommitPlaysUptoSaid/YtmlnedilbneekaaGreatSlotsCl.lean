/- Package slots: Claim, Ready, Doom, Free. -/
import Derived.Test.YtmlnedilbneekaaGreatSlotsNew
import Derived.Test.YtmlnedilbneekaaGreatRowHT
import Derived.Deep.RegionHeld3
import Derived.Deep.MidRow
import Derived.Test.YtmlnedilbneekaaGreatMake
namespace Go.Proofs.YtmlnedilbneekaaGreat
open Go.RowKit
set_option linter.unusedVariables false
theorem heads_all (w : World) (r b : Nat) (kind : Int) (mp : Option Nat) (l : List Hd) (hr : RowH.At RowH.R w r b kind mp l) (hn : 1 ≤ l.length) :
 Calls Tryz.prog 138 #[.pointer (some ⟨r,0,none⟩)] w fun e w' => ∃ a c,e = .returned (.slice (some ⟨a,0,none⟩) l.length c) ∧ w.heap.size ≤ a ∧ (∀ k x,l[k]? = some x → w'.rangeAt a (k * 6) (RowH.cells x)) ∧ Keeps [] w w' :=
 (RowH.all_any w r b kind mp l hr).mono fun e w' ⟨v,he,h1,h2⟩ => by
   rcases h1.2 with ⟨_,h0⟩ | ⟨a,cap,cur,rfl,hb,hg,h3,_⟩
   · omega
   · exact ⟨a,cap,he,hb,fun k x hx j v hv => (h1.cellAt (k * 6 + j) (by rw [← RowH.cells_length]; exact (List.getElem?_eq_some_iff.1 (RowH.cells_get l k x hx j v hv)).1)).trans (by simp [RowH.cells_get l k x hx j v hv]),h2⟩
attribute [local go_sem] rd_c0 rd_c1 rd_c2 rd_c3 rd_c4 rd_c5 rd_free Option.isSome_some Option.getD_some
section
variable {w w' wb w7 : World} {t : Tb} {mp : Option Nat} {H H' : List Hd} {W : List Int} {lb : Nat} {s s' : MS} {z : Nat} {x : Hd}
theorem rd_left (h : TabAt w t mp H W) (hm : MetAt MT w mp lb s) (hl : RowH.Left RowH.R MT t.r t.b 3 mp H' lb s' w' w7) (hz : w.heap.size ≤ z) (hr : rd w' z = some x) : rd w7 z = some x := by
 obtain ⟨_,_,_,hk,_⟩ := hl
 refine rd_keeps hr hk (fun hx => ?_)
 rw [List.mem_cons] at hx
 rcases hx with hx | hx
 · have := h.heads.row.lt; omega
 · have := foot_lt hm hx; omega
theorem q_left (h : TabAt w t mp H W) (hm : MetAt MT w mp lb s) (hk : Keeps [] w w') (hl : RowH.Left RowH.R MT t.r t.b 3 mp H' lb s' w' w7) (hn : H'.length = H.length) : Blk w7 t.q 183 #[.pointer (some ⟨t.r,0,none⟩),.pointer (some ⟨t.s,0,none⟩)] :=
 (h.headed hm hk hl hn (S := []) (by simp) Sq.r).1.blk
theorem of_left {w6 : World} (hl : RowH.Left RowH.R MT t.r t.b 3 mp H' lb s' w' w7) (hk : Keeps [] w6 w') : Keeps [] w6 w' := hk
theorem le_left {w6 : World} (hk : Keeps [] w6 w') (hl : RowH.Left RowH.R MT t.r t.b 3 mp H' lb s' w' w7) : w6.heap.size ≤ w7.heap.size := by
 obtain ⟨_,_,_,h1,_⟩ := hl
 exact Nat.le_trans hk.size h1.size
theorem t13 (h : TabAt w t mp H W) (hm : MetAt MT w mp lb s) (hl : RowH.Left RowH.R MT t.r t.b 3 mp H' lb s' w' w7) (hz : w.heap.size ≤ z) (hr : rd w' z = some x) : rd w7 z = some x ∧ z < w'.heap.size := ⟨rd_left h hm hl hz hr,rd_lt hr⟩
theorem n13a (w : World) : rd (w.drew.alloc (.cells #[.int .i64 0,.int .i64 0,.int .i64 0,.int .i64 0,.bool false,.int .i64 0] 115)) w.heap.size = some Hd.zero := rd_new w.drew Hd.zero
theorem n13b (w : World) : rd (w.alloc (.cells #[.int .i64 0,.int .i64 0,.int .i64 0,.int .i64 0,.bool false,.int .i64 0] 115)).drew w.heap.size = some Hd.zero := rd_keeps (rd_new w Hd.zero) (Keeps.refl [] _).drew (by simp)
theorem n13c (w : World) : rd (w.drew.alloc (.cells #[.int .i64 0,.int .i64 0,.int .i64 0,.int .i64 0,.bool false,.int .i64 0] 115)).drew w.heap.size = some Hd.zero := rd_keeps (rd_new w.drew Hd.zero) (Keeps.refl [] _).drew (by simp)
theorem s_keeps {a c : Nat} {x1 y1 : Hd} (hq : Blk w7 t.q 183 #[.pointer (some ⟨t.r,0,none⟩),.pointer (some ⟨t.s,0,none⟩)]) (h1 : rd w7 a = some x1) (h2 : rd w7 c = some y1) (n0 : t.q ≠ z) (n1 : a ≠ z) (n2 : c ≠ z) :
 ∀ w',Keeps [z] w7 w' → w'.cell? ⟨t.q,0,none⟩ = some (.pointer (some ⟨t.r,0,none⟩)) ∧ rd w' a = some x1 ∧ rd w' c = some y1 :=
 fun w' hk => ⟨((hq.keeps hk (by simpa using n0)).cell 0).trans rfl,rd_keeps h1 hk (by simpa using n1),rd_keeps h2 hk (by simpa using n2)⟩
end
set_option maxHeartbeats 2000000 in
set_option maxRecDepth 100000 in
theorem trade_y (w : World) (t : Tb) (mp : Option Nat) (H : List Hd) (W : List Int) (h : TabAt w t mp H W) (lb : Nat) (s : MS) (hm : MetAt MT w mp lb s) (hl : Room mp s) (k : Nat) (x : Hd) (hx : H[k]? = some x) (f g : FuncId) (cf cg : Array Value) (y : Hd)
 (cF : ∀ args w',(callFunc f args).run Tryz.prog w' = .ok (.enter f args) w') (cG : ∀ args w',(callFunc g args).run Tryz.prog w' = .ok (.enter g args) w')
 (qF : ∀ w',Keeps [] w w' → Calls Tryz.prog f (#[.agg #[.int .i64 x.gen,.int .i64 x.state,.int .i64 x.stamp,.int .i64 x.thread,.bool x.doomed,.int .i64 x.who]] ++ cf) w' fun e w2 => e = .returned (.bool true) ∧ Keeps [] w' w2)
 (qG : ∀ w',Keeps [] w w' → Calls Tryz.prog g (#[.agg #[.int .i64 x.gen,.int .i64 x.state,.int .i64 x.stamp,.int .i64 x.thread,.bool x.doomed,.int .i64 x.who]] ++ cg) w' fun e w2 => e = .returned (.agg #[.int .i64 y.gen,.int .i64 y.state,.int .i64 y.stamp,.int .i64 y.thread,.bool y.doomed,.int .i64 y.who]) ∧ Keeps [] w' w2) :
 Calls Tryz.prog 97 #[.pointer (some ⟨t.q,0,none⟩),.int .i64 k,.func (.func f) #[] cf,.func (.func g) #[] cg] w fun e w' => e = .returned (.tuple #[.agg #[.int .i64 y.gen,.int .i64 y.state,.int .i64 y.stamp,.int .i64 y.thread,.bool y.doomed,.int .i64 y.who],.bool true]) ∧ TLeft t mp (H.set k y) W lb (s.note 3 k 3 true) w w' := by
 have k0 : Keeps [] w (w.alloc (.cells #[.int .i64 0,.int .i64 0,.int .i64 0,.int .i64 0,.bool false,.int .i64 0] 115)) := Sq.r.alloc _
 have r8 : rd (w.alloc (.cells #[.int .i64 0,.int .i64 0,.int .i64 0,.int .i64 0,.bool false,.int .i64 0] 115)) w.heap.size = some Hd.zero := rd_new w Hd.zero
 have c0 : (w.alloc (.cells #[.int .i64 0,.int .i64 0,.int .i64 0,.int .i64 0,.bool false,.int .i64 0] 115)).cell? ⟨t.q,0,none⟩ = some (.pointer (some ⟨t.r,0,none⟩)) := ((h.blk.keeps k0 (by simp)).cell 0).trans rfl
 have hk : k < H.length := (List.getElem?_eq_some_iff.1 hx).1
 have hki : (k : Int) < (H.length : Int) := by omega
 have QA := Lib.hid (heads_all _ t.r t.b 3 mp H (h.calm k0).heads h.n1)
 have h8 := h.n8
 have HT := Lib.hid h
 have HM := Lib.hid hm
 have HL := Lib.hid hl
 have HX := Lib.hid hx
 have K0 := Lib.hid k0
 have R8 := Lib.hid r8
 have QF := Lib.hid qF
 have QG := Lib.hid qG
 clear h hm hl hx k0 qF qG r8
 go_enter Tryz.func97,Tryz.ntmps97
 go_wp2_with fail
 refine QA.out.mono ?_
 rintro e w1 ⟨a,c,rfl,ha,hr,k1⟩
 have hr6 := hr k x HX.out
 have l0 : w1.cell? ⟨a,k * 6,none⟩ = some (.int .i64 x.gen) := hr6 0 _ rfl
 have l1 : w1.cell? ⟨a,k * 6 + 1,none⟩ = some (.int .i64 x.state) := hr6 1 _ rfl
 have l2 : w1.cell? ⟨a,k * 6 + 2,none⟩ = some (.int .i64 x.stamp) := hr6 2 _ rfl
 have l3 : w1.cell? ⟨a,k * 6 + 3,none⟩ = some (.int .i64 x.thread) := hr6 3 _ rfl
 have l4 : w1.cell? ⟨a,k * 6 + 4,none⟩ = some (.bool x.doomed) := hr6 4 _ rfl
 have l5 : w1.cell? ⟨a,k * 6 + 5,none⟩ = some (.int .i64 x.who) := hr6 5 _ rfl
 have K1 := Lib.hid (K0.out.trans k1 (by simp))
 have R8' := Lib.hid (rd_keeps R8.out k1 (by simp))
 clear hr hr6 k1 c0 QA R8
 go_wp2_with fail
 have kB : Keeps [] w1 ((w1.alloc (.cells #[.int .i64 x.gen,.int .i64 x.state,.int .i64 x.stamp,.int .i64 x.thread,.bool x.doomed,.int .i64 x.who] 115)).alloc (.cells #[.int .i64 x.gen,.int .i64 x.state,.int .i64 x.stamp,.int .i64 x.thread,.bool x.doomed,.int .i64 x.who] 115)) := (Sq.r.alloc _).alloc _
 have hzB : ((w1.alloc (.cells #[.int .i64 x.gen,.int .i64 x.state,.int .i64 x.stamp,.int .i64 x.thread,.bool x.doomed,.int .i64 x.who] 115)).alloc (.cells #[.int .i64 x.gen,.int .i64 x.state,.int .i64 x.stamp,.int .i64 x.thread,.bool x.doomed,.int .i64 x.who] 115)).heap.size = w1.heap.size + 1 + 1 := by simp
 have b10 : rd ((w1.alloc (.cells #[.int .i64 x.gen,.int .i64 x.state,.int .i64 x.stamp,.int .i64 x.thread,.bool x.doomed,.int .i64 x.who] 115)).alloc (.cells #[.int .i64 x.gen,.int .i64 x.state,.int .i64 x.stamp,.int .i64 x.thread,.bool x.doomed,.int .i64 x.who] 115)) w1.heap.size = some x := rd_keeps (rd_new w1 x) ((Keeps.refl [] _).alloc _) (by simp)
 have b11 : rd ((w1.alloc (.cells #[.int .i64 x.gen,.int .i64 x.state,.int .i64 x.stamp,.int .i64 x.thread,.bool x.doomed,.int .i64 x.who] 115)).alloc (.cells #[.int .i64 x.gen,.int .i64 x.state,.int .i64 x.stamp,.int .i64 x.thread,.bool x.doomed,.int .i64 x.who] 115)) (w1.heap.size + 1) = some x := rd_of (new_at _ _ _ (by simp))
 refine (QF.out _ (K1.out.trans kB (by simp))).mono ?_
 rintro e w3 ⟨rfl,k3⟩
 have r10 := rd_keeps b10 k3 (by simp)
 have r11 := rd_keeps b11 k3 (by simp)
 have R8 := Lib.hid (rd_keeps R8'.out (kB.trans k3 (by simp)) (by simp))
 have K3 := Lib.hid (K1.out.trans (kB.trans k3 (by simp)) (by simp))
 have hz3 : Hid (w.heap.size ≤ w1.heap.size ∧ w1.heap.size + 1 + 1 ≤ w3.heap.size) := ⟨K1.out.size,by have := k3.size; omega⟩
 clear kB b10 b11 k3 l0 l1 l2 l3 l4 l5 R8' hzB
 go_wp2_with fail
 refine (QG.out _ K3.out).mono ?_
 rintro e w5 ⟨rfl,k5⟩
 have e11 := Lib.hid (rd_keeps r11 k5 (by simp))
 have E8 := Lib.hid (rd_keeps R8.out k5 (by simp))
 have K5 := Lib.hid (K3.out.trans k5 (by simp))
 have hz6 : Hid (w3.heap.size ≤ w5.heap.size) := k5.size
 clear r10 r11 k5 K3 R8
 go_wp2_with fail
 have kC : Keeps [] w5 (w5.alloc (.cells #[.int .i64 y.gen,.int .i64 y.state,.int .i64 y.stamp,.int .i64 y.thread,.bool y.doomed,.int .i64 y.who] 115)) := Sq.r.alloc _
 have t11 := Lib.hid (rd_keeps e11.out kC (by simp))
 have t12 := Lib.hid (rd_new w5 y)
 have T8 := Lib.hid (rd_keeps E8.out kC (by simp))
 have K6 := Lib.hid (K5.out.trans kC (by simp))
 have hz7 : Hid (w.heap.size ≤ (w1.heap.size + 1) ∧ (w1.heap.size + 1) < w5.heap.size ∧ w.heap.size ≤ w5.heap.size ∧ w5.heap.size < (w5.alloc (.cells #[.int .i64 y.gen,.int .i64 y.state,.int .i64 y.stamp,.int .i64 y.thread,.bool y.doomed,.int .i64 y.who] 115)).heap.size ∧ w.heap.size < (w5.alloc (.cells #[.int .i64 y.gen,.int .i64 y.state,.int .i64 y.stamp,.int .i64 y.thread,.bool y.doomed,.int .i64 y.who] 115)).heap.size ∧ w.heap.size ≤ (w5.alloc (.cells #[.int .i64 y.gen,.int .i64 y.state,.int .i64 y.stamp,.int .i64 y.thread,.bool y.doomed,.int .i64 y.who] 115)).heap.size) := by
  have h1 := hz3.out
  have h2 := hz6.out
  unfold Hid
  simp only [World.size_alloc]
  omega
 have hzl : Hid (w.heap.size ≤ w1.heap.size) := hz3.out.1
 clear e11 E8 K5 kC hz3 hz6
 generalize hw6 : (w5.alloc (.cells #[.int .i64 y.gen,.int .i64 y.state,.int .i64 y.stamp,.int .i64 y.thread,.bool y.doomed,.int .i64 y.who] 115)) = w6 at *
 clear hw6
 have c0 : w6.cell? ⟨t.q,0,none⟩ = some (.pointer (some ⟨t.r,0,none⟩)) := ((HT.out.calm K6.out).blk.cell 0).trans rfl
 have QT := Lib.hid (fun w' (hk : Keeps [] w6 w') => RowH.trade_yes w' t.r t.b 3 mp H (HT.out.calm (K6.out.trans hk (by simp))).heads lb s (HM.out.keeps (K6.out.trans hk (by simp)) (by simp)) HL.out k x y HX.out)
 have HC := Lib.hid (show ∀ w',Keeps [] w6 w' → w'.cell? ⟨t.q,0,none⟩ = some (.pointer (some ⟨t.r,0,none⟩)) ∧ rd w' (w1.heap.size + 1) = some x ∧ rd w' w5.heap.size = some y from fun w' hk => ⟨((HT.out.calm (K6.out.trans hk (by simp))).blk.cell 0).trans rfl,rd_keeps t11.out hk (by simp),rd_keeps t12.out hk (by simp)⟩)
 have nq : t.q ≠ w6.heap.size := by have h1 := HT.out.lt; have h2 := hz7.out; omega
 have n11 : (w1.heap.size + 1) ≠ w6.heap.size := by have h2 := hz7.out; omega
 have n12 : w5.heap.size ≠ w6.heap.size := by have h2 := hz7.out; omega
 obtain ⟨i0,i1,i2⟩ := HC.out _ Sq.r
 go_region_held3 (fun w' => w'.cell? ⟨t.q,0,none⟩ = some (.pointer (some ⟨t.r,0,none⟩)) ∧ rd w' (w1.heap.size + 1) = some x ∧ rd w' w5.heap.size = some y) (first | with_reducible exact ⟨hq,h11,h12⟩ | with_reducible exact HD.out _ (by (repeat (first | with_reducible exact Keeps.refl _ _ | with_reducible refine Keeps.drew ?_ | with_reducible refine Keeps.alloc ?_ _ | with_reducible refine Keeps.setCell ?_ (.inl (by simp)) _ | with_reducible refine Keeps.setCell ?_ (.inr (Nat.le_refl _)) _))) | with_reducible exact HC.out _ (by first | with_reducible exact Sq.r.drew | with_reducible exact Sq.r.drew.alloc _ | with_reducible exact (Sq.r.alloc _).drew | with_reducible exact (Sq.r.drew.alloc _).drew | with_reducible exact Sq.r.alloc _)) ((go_at_call 140; refine (QT.out _ (by first | with_reducible exact Sq.r.drew | with_reducible exact Sq.r.drew.alloc _ | with_reducible exact (Sq.r.alloc _).drew | with_reducible exact (Sq.r.drew.alloc _).drew | with_reducible exact Sq.r.alloc _)).mono ?_; rintro e w7 ⟨rfl,hl⟩; have kA := of_left (w6 := w6) hl (by first | with_reducible exact Sq.r.drew | with_reducible exact Sq.r.drew.alloc _ | with_reducible exact (Sq.r.alloc _).drew | with_reducible exact (Sq.r.drew.alloc _).drew | with_reducible exact Sq.r.alloc _); have hqb := q_left HT.out HM.out (K6.out.trans kA (by simp)) hl (by simp); have hq : w7.cell? ⟨t.q,0,none⟩ = some (.pointer (some ⟨t.r,0,none⟩)) := (hqb.cell 0).trans rfl; have h11 := rd_left HT.out HM.out hl hz7.out.1 (HC.out _ kA).2.1; have h12 := rd_left HT.out HM.out hl hz7.out.2.2.1 (HC.out _ kA).2.2; have h8 := Lib.hid (rd_left HT.out HM.out hl (Nat.le_refl _) (rd_keeps T8.out kA (by simp))); have HD := Lib.hid (s_keeps hqb h11 h12 nq n11 n12); (first | (have h13 := t13 HT.out HM.out hl hz7.out.2.2.2.2.2 (n13a w6); obtain ⟨h13,hs13⟩ := h13) | (have h13 := t13 HT.out HM.out hl hz7.out.2.2.2.2.2 (n13b w6); obtain ⟨h13,hs13⟩ := h13) | (have h13 := t13 HT.out HM.out hl hz7.out.2.2.2.2.2 (n13c w6); obtain ⟨h13,hs13⟩ := h13) | have h77 : w6.heap.size ≤ w7.heap.size := le_left kA hl); have HL7 := Lib.hid hl; have KA := Lib.hid (K6.out.trans kA (by simp)); clear hqb hl kA))
 ·
  have k8 : Keeps [] w7 (w7.alloc (.cells #[.int .i64 x.gen,.int .i64 x.state,.int .i64 x.stamp,.int .i64 x.thread,.bool x.doomed,.int .i64 x.who] 115)) := ((Keeps.refl [] w7).alloc (.cells #[.int .i64 x.gen,.int .i64 x.state,.int .i64 x.stamp,.int .i64 x.thread,.bool x.doomed,.int .i64 x.who] 115))
  have q8 := rd_keeps h8.out k8 (by simp)
  have q11 := rd_keeps h11 k8 (by simp)
  have q12 := rd_keeps h12 k8 (by simp)
  have q13 : rd (w7.alloc (.cells #[.int .i64 x.gen,.int .i64 x.state,.int .i64 x.stamp,.int .i64 x.thread,.bool x.doomed,.int .i64 x.who] 115)) w7.heap.size = some x := rd_new w7 x
  have ne1 : (w1.heap.size + 1) ≠ w.heap.size := by have h1 := hz7.out; have h2 := hzl.out; omega
  have ne2 : w7.heap.size ≠ w.heap.size := by have h1 := hz7.out; omega
  have ne3 := ne1.symm
  have ne4 := ne2.symm
  show Exit.then _ _ Exit.normal _ (w7.alloc (.cells #[.int .i64 x.gen,.int .i64 x.state,.int .i64 x.stamp,.int .i64 x.thread,.bool x.doomed,.int .i64 x.who] 115))
  have he : ∀ w,(Op.equalIn 10000 115 (.agg #[.int .i64 x.gen,.int .i64 x.state,.int .i64 x.stamp,.int .i64 x.thread,.bool x.doomed,.int .i64 x.who]) (.agg #[.int .i64 x.gen,.int .i64 x.state,.int .i64 x.stamp,.int .i64 x.thread,.bool x.doomed,.int .i64 x.who])).run Tryz.prog w = .ok true w := fun w => by rw [RowH.eq_run,decide_eq_true rfl]
  have K8 := Lib.hid k8
  clear k8 h11 h12 i0 i1 i2 c0 hq
  generalize hw8 : (w7.alloc (.cells #[.int .i64 x.gen,.int .i64 x.state,.int .i64 x.stamp,.int .i64 x.thread,.bool x.doomed,.int .i64 x.who] 115)) = w8 at *
  clear hw8
  go_wp2
  go_region
  go_wp2
  show bodyPost _ _ _ _ _ ((put6 w8 w.heap.size y).drew)
  have v8 := rd_keeps (rd_put6 w8 w.heap.size y _ q8) ((Keeps.refl [] _).drew) (by simp)
  have hk8 : Keeps [w.heap.size] w7 ((put6 w8 w.heap.size y).drew) := ((K8.out.mono (T := [w.heap.size]) (by simp)).trans (put6_keeps _ _ _) (fun z hz => .inl (by simp at hz; simp [hz]))).drew
  generalize hw9 : (put6 w8 w.heap.size y).drew = w9 at *
  clear hw9
  refine bodyPost_ret (v := .tuple #[.agg #[.int .i64 y.gen,.int .i64 y.state,.int .i64 y.stamp,.int .i64 y.thread,.bool y.doomed,.int .i64 y.who],.bool true]) (by simp [results,Tryz.results97,go_sem,v8]) rfl ⟨rfl,?_⟩
  exact HT.out.headed HM.out KA.out HL7.out (by simp) (S := [w.heap.size]) (fun z hz => by simp only [List.mem_cons,List.not_mem_nil,or_false] at hz; subst hz; exact ⟨Nat.le_refl _,.inl (by simp only [World.size_drew]; exact hz7.out.2.2.2.2.1)⟩) hk8
 ·
  have k8 : Keeps [w6.heap.size] w7 (put6 w7 w6.heap.size x) := (put6_keeps w7 w6.heap.size x)
  have q8 := rd_keeps h8.out k8 (by have := hz7.out; simp; omega)
  have q11 := rd_keeps h11 k8 (by simpa using n11)
  have q12 := rd_keeps h12 k8 (by simpa using n12)
  have q13 : rd (put6 w7 w6.heap.size x) w6.heap.size = some x := rd_put6 w7 w6.heap.size x _ h13
  have ne1 : (w1.heap.size + 1) ≠ w.heap.size := by have h1 := hz7.out; have h2 := hzl.out; omega
  have ne2 : w6.heap.size ≠ w.heap.size := by have h1 := hz7.out; omega
  have ne3 := ne1.symm
  have ne4 := ne2.symm
  show Exit.then _ _ Exit.normal _ (put6 w7 w6.heap.size x)
  have he : ∀ w,(Op.equalIn 10000 115 (.agg #[.int .i64 x.gen,.int .i64 x.state,.int .i64 x.stamp,.int .i64 x.thread,.bool x.doomed,.int .i64 x.who]) (.agg #[.int .i64 x.gen,.int .i64 x.state,.int .i64 x.stamp,.int .i64 x.thread,.bool x.doomed,.int .i64 x.who])).run Tryz.prog w = .ok true w := fun w => by rw [RowH.eq_run,decide_eq_true rfl]
  have K8 := Lib.hid k8
  clear k8 h11 h12 h13 i0 i1 i2 c0 hq
  generalize hw8 : (put6 w7 w6.heap.size x) = w8 at *
  clear hw8
  go_wp2
  go_region
  go_wp2
  show bodyPost _ _ _ _ _ ((put6 w8 w.heap.size y).drew)
  have v8 := rd_keeps (rd_put6 w8 w.heap.size y _ q8) ((Keeps.refl [] _).drew) (by simp)
  have hk8 : Keeps [w6.heap.size,w.heap.size] w7 ((put6 w8 w.heap.size y).drew) := ((K8.out.mono (T := [w6.heap.size,w.heap.size]) (by simp)).trans (put6_keeps _ _ _) (fun z hz => .inl (by simp at hz; simp [hz]))).drew
  generalize hw9 : (put6 w8 w.heap.size y).drew = w9 at *
  clear hw9
  refine bodyPost_ret (v := .tuple #[.agg #[.int .i64 y.gen,.int .i64 y.state,.int .i64 y.stamp,.int .i64 y.thread,.bool y.doomed,.int .i64 y.who],.bool true]) (by simp [results,Tryz.results97,go_sem,v8]) rfl ⟨rfl,?_⟩
  exact HT.out.headed HM.out KA.out HL7.out (by simp) (S := [w6.heap.size,w.heap.size]) (fun z hz => by simp only [List.mem_cons,List.not_mem_nil,or_false] at hz; rcases hz with rfl | rfl; exact ⟨hz7.out.2.2.2.2.2,.inl hs13⟩; exact ⟨Nat.le_refl _,.inl (Nat.lt_trans hz7.out.2.2.2.2.1 hs13)⟩) hk8
set_option maxHeartbeats 2000000 in
set_option maxRecDepth 100000 in
theorem trade_n (w : World) (t : Tb) (mp : Option Nat) (H : List Hd) (W : List Int) (h : TabAt w t mp H W) (lb : Nat) (s : MS) (hm : MetAt MT w mp lb s) (hl : Room mp s) (k : Nat) (x : Hd) (hx : H[k]? = some x) (hne : x ≠ Hd.never) (f g : FuncId) (cf cg : Array Value) (y : Hd)
 (cF : ∀ args w',(callFunc f args).run Tryz.prog w' = .ok (.enter f args) w') (cG : ∀ args w',(callFunc g args).run Tryz.prog w' = .ok (.enter g args) w')
 (qF : ∀ w',Keeps [] w w' → Calls Tryz.prog f (#[.agg #[.int .i64 x.gen,.int .i64 x.state,.int .i64 x.stamp,.int .i64 x.thread,.bool x.doomed,.int .i64 x.who]] ++ cf) w' fun e w2 => e = .returned (.bool false) ∧ Keeps [] w' w2)
 (qG : ∀ w',Keeps [] w w' → Calls Tryz.prog g (#[.agg #[.int .i64 x.gen,.int .i64 x.state,.int .i64 x.stamp,.int .i64 x.thread,.bool x.doomed,.int .i64 x.who]] ++ cg) w' fun e w2 => e = .returned (.agg #[.int .i64 y.gen,.int .i64 y.state,.int .i64 y.stamp,.int .i64 y.thread,.bool y.doomed,.int .i64 y.who]) ∧ Keeps [] w' w2) :
 Calls Tryz.prog 97 #[.pointer (some ⟨t.q,0,none⟩),.int .i64 k,.func (.func f) #[] cf,.func (.func g) #[] cg] w fun e w' => e = .returned (.tuple #[.agg #[.int .i64 y.gen,.int .i64 y.state,.int .i64 y.stamp,.int .i64 y.thread,.bool y.doomed,.int .i64 y.who],.bool false]) ∧ TLeft t mp (H) W lb (s.note 3 k 3 false) w w' := by
 have k0 : Keeps [] w (w.alloc (.cells #[.int .i64 0,.int .i64 0,.int .i64 0,.int .i64 0,.bool false,.int .i64 0] 115)) := Sq.r.alloc _
 have r8 : rd (w.alloc (.cells #[.int .i64 0,.int .i64 0,.int .i64 0,.int .i64 0,.bool false,.int .i64 0] 115)) w.heap.size = some Hd.zero := rd_new w Hd.zero
 have c0 : (w.alloc (.cells #[.int .i64 0,.int .i64 0,.int .i64 0,.int .i64 0,.bool false,.int .i64 0] 115)).cell? ⟨t.q,0,none⟩ = some (.pointer (some ⟨t.r,0,none⟩)) := ((h.blk.keeps k0 (by simp)).cell 0).trans rfl
 have hk : k < H.length := (List.getElem?_eq_some_iff.1 hx).1
 have hki : (k : Int) < (H.length : Int) := by omega
 have QA := Lib.hid (heads_all _ t.r t.b 3 mp H (h.calm k0).heads h.n1)
 have h8 := h.n8
 have HT := Lib.hid h
 have HM := Lib.hid hm
 have HL := Lib.hid hl
 have HX := Lib.hid hx
 have K0 := Lib.hid k0
 have R8 := Lib.hid r8
 have QF := Lib.hid qF
 have QG := Lib.hid qG
 have HNE := Lib.hid hne; clear hne h hm hl hx k0 qF qG r8
 go_enter Tryz.func97,Tryz.ntmps97
 go_wp2_with fail
 refine QA.out.mono ?_
 rintro e w1 ⟨a,c,rfl,ha,hr,k1⟩
 have hr6 := hr k x HX.out
 have l0 : w1.cell? ⟨a,k * 6,none⟩ = some (.int .i64 x.gen) := hr6 0 _ rfl
 have l1 : w1.cell? ⟨a,k * 6 + 1,none⟩ = some (.int .i64 x.state) := hr6 1 _ rfl
 have l2 : w1.cell? ⟨a,k * 6 + 2,none⟩ = some (.int .i64 x.stamp) := hr6 2 _ rfl
 have l3 : w1.cell? ⟨a,k * 6 + 3,none⟩ = some (.int .i64 x.thread) := hr6 3 _ rfl
 have l4 : w1.cell? ⟨a,k * 6 + 4,none⟩ = some (.bool x.doomed) := hr6 4 _ rfl
 have l5 : w1.cell? ⟨a,k * 6 + 5,none⟩ = some (.int .i64 x.who) := hr6 5 _ rfl
 have K1 := Lib.hid (K0.out.trans k1 (by simp))
 have R8' := Lib.hid (rd_keeps R8.out k1 (by simp))
 clear hr hr6 k1 c0 QA R8
 go_wp2_with fail
 have kB : Keeps [] w1 ((w1.alloc (.cells #[.int .i64 x.gen,.int .i64 x.state,.int .i64 x.stamp,.int .i64 x.thread,.bool x.doomed,.int .i64 x.who] 115)).alloc (.cells #[.int .i64 x.gen,.int .i64 x.state,.int .i64 x.stamp,.int .i64 x.thread,.bool x.doomed,.int .i64 x.who] 115)) := (Sq.r.alloc _).alloc _
 have hzB : ((w1.alloc (.cells #[.int .i64 x.gen,.int .i64 x.state,.int .i64 x.stamp,.int .i64 x.thread,.bool x.doomed,.int .i64 x.who] 115)).alloc (.cells #[.int .i64 x.gen,.int .i64 x.state,.int .i64 x.stamp,.int .i64 x.thread,.bool x.doomed,.int .i64 x.who] 115)).heap.size = w1.heap.size + 1 + 1 := by simp
 have b10 : rd ((w1.alloc (.cells #[.int .i64 x.gen,.int .i64 x.state,.int .i64 x.stamp,.int .i64 x.thread,.bool x.doomed,.int .i64 x.who] 115)).alloc (.cells #[.int .i64 x.gen,.int .i64 x.state,.int .i64 x.stamp,.int .i64 x.thread,.bool x.doomed,.int .i64 x.who] 115)) w1.heap.size = some x := rd_keeps (rd_new w1 x) ((Keeps.refl [] _).alloc _) (by simp)
 have b11 : rd ((w1.alloc (.cells #[.int .i64 x.gen,.int .i64 x.state,.int .i64 x.stamp,.int .i64 x.thread,.bool x.doomed,.int .i64 x.who] 115)).alloc (.cells #[.int .i64 x.gen,.int .i64 x.state,.int .i64 x.stamp,.int .i64 x.thread,.bool x.doomed,.int .i64 x.who] 115)) (w1.heap.size + 1) = some x := rd_of (new_at _ _ _ (by simp))
 refine (QF.out _ (K1.out.trans kB (by simp))).mono ?_
 rintro e w3 ⟨rfl,k3⟩
 have r10 := rd_keeps b10 k3 (by simp)
 have r11 := rd_keeps b11 k3 (by simp)
 have R8 := Lib.hid (rd_keeps R8'.out (kB.trans k3 (by simp)) (by simp))
 have K3 := Lib.hid (K1.out.trans (kB.trans k3 (by simp)) (by simp))
 have hz3 : Hid (w.heap.size ≤ w1.heap.size ∧ w1.heap.size + 1 + 1 ≤ w3.heap.size) := ⟨K1.out.size,by have := k3.size; omega⟩
 clear kB b10 b11 k3 l0 l1 l2 l3 l4 l5 R8' hzB
 go_wp2_with fail
 refine (slots_never _).mono ?_
 rintro e w4 ⟨rfl,k4⟩
 have hz4 : Hid (w3.heap.size ≤ w4.heap.size) := k4.size
 have s10 := rd_keeps r10 k4 (by simp)
 have s11 := rd_keeps r11 k4 (by simp)
 have S8 := Lib.hid (rd_keeps R8.out k4 (by simp))
 have hk5 : Keeps [(w1.heap.size + 1)] w4 (put6 w4 (w1.heap.size + 1) Hd.never) := put6_keeps _ _ _
 have v10 := rd_keeps s10 hk5 (by simp)
 have v11 := Lib.hid (rd_put6 w4 (w1.heap.size + 1) Hd.never _ s11)
 have V8 := Lib.hid (rd_keeps S8.out hk5 (by have := hz3.out.1; simp; omega))
 have K4 := Lib.hid ((K3.out.trans k4 (by simp)).trans hk5 (fun z hz => .inr (by simp at hz; subst hz; have := hz3.out.1; omega)))
 have hz5 : Hid (w4.heap.size = (put6 w4 (w1.heap.size + 1) Hd.never).heap.size) := by unfold Hid put6; simp [World.setCell]
 go_wp2_with fail
 show Calls Tryz.prog g _ (put6 w4 (w1.heap.size + 1) Hd.never) _
 refine (QG.out _ K4.out).mono ?_
 rintro e w5 ⟨rfl,k5⟩
 have e11 := Lib.hid (rd_keeps v11.out k5 (by simp))
 have E8 := Lib.hid (rd_keeps V8.out k5 (by simp))
 have K5 := Lib.hid (K4.out.trans k5 (by simp))
 have hz6 : Hid (w3.heap.size ≤ w5.heap.size) := by have h1 := hz4.out; have h2 := hz5.out; have h3 := k5.size; unfold Hid; omega
 clear r10 r11 k5 K3 R8 k4 s10 s11 S8 hk5 v10 v11 V8 K4 hz4 hz5
 go_wp2_with fail
 generalize hnv : Hd.never = nv at *
 have kC : Keeps [] w5 (w5.alloc (.cells #[.int .i64 y.gen,.int .i64 y.state,.int .i64 y.stamp,.int .i64 y.thread,.bool y.doomed,.int .i64 y.who] 115)) := Sq.r.alloc _
 have t11 := Lib.hid (rd_keeps e11.out kC (by simp))
 have t12 := Lib.hid (rd_new w5 y)
 have T8 := Lib.hid (rd_keeps E8.out kC (by simp))
 have K6 := Lib.hid (K5.out.trans kC (by simp))
 have hz7 : Hid (w.heap.size ≤ (w1.heap.size + 1) ∧ (w1.heap.size + 1) < w5.heap.size ∧ w.heap.size ≤ w5.heap.size ∧ w5.heap.size < (w5.alloc (.cells #[.int .i64 y.gen,.int .i64 y.state,.int .i64 y.stamp,.int .i64 y.thread,.bool y.doomed,.int .i64 y.who] 115)).heap.size ∧ w.heap.size < (w5.alloc (.cells #[.int .i64 y.gen,.int .i64 y.state,.int .i64 y.stamp,.int .i64 y.thread,.bool y.doomed,.int .i64 y.who] 115)).heap.size ∧ w.heap.size ≤ (w5.alloc (.cells #[.int .i64 y.gen,.int .i64 y.state,.int .i64 y.stamp,.int .i64 y.thread,.bool y.doomed,.int .i64 y.who] 115)).heap.size) := by
  have h1 := hz3.out
  have h2 := hz6.out
  unfold Hid
  simp only [World.size_alloc]
  omega
 have hzl : Hid (w.heap.size ≤ w1.heap.size) := hz3.out.1
 clear e11 E8 K5 kC hz3 hz6
 generalize hw6 : (w5.alloc (.cells #[.int .i64 y.gen,.int .i64 y.state,.int .i64 y.stamp,.int .i64 y.thread,.bool y.doomed,.int .i64 y.who] 115)) = w6 at *
 clear hw6
 have c0 : w6.cell? ⟨t.q,0,none⟩ = some (.pointer (some ⟨t.r,0,none⟩)) := ((HT.out.calm K6.out).blk.cell 0).trans rfl
 have QT := Lib.hid (fun w' (hk : Keeps [] w6 w') => RowH.trade_not w' t.r t.b 3 mp H (HT.out.calm (K6.out.trans hk (by simp))).heads lb s (HM.out.keeps (K6.out.trans hk (by simp)) (by simp)) HL.out k x nv y HX.out HNE.out)
 have HC := Lib.hid (show ∀ w',Keeps [] w6 w' → w'.cell? ⟨t.q,0,none⟩ = some (.pointer (some ⟨t.r,0,none⟩)) ∧ rd w' (w1.heap.size + 1) = some nv ∧ rd w' w5.heap.size = some y from fun w' hk => ⟨((HT.out.calm (K6.out.trans hk (by simp))).blk.cell 0).trans rfl,rd_keeps t11.out hk (by simp),rd_keeps t12.out hk (by simp)⟩)
 have nq : t.q ≠ w6.heap.size := by have h1 := HT.out.lt; have h2 := hz7.out; omega
 have n11 : (w1.heap.size + 1) ≠ w6.heap.size := by have h2 := hz7.out; omega
 have n12 : w5.heap.size ≠ w6.heap.size := by have h2 := hz7.out; omega
 obtain ⟨i0,i1,i2⟩ := HC.out _ Sq.r
 go_region_held3 (fun w' => w'.cell? ⟨t.q,0,none⟩ = some (.pointer (some ⟨t.r,0,none⟩)) ∧ rd w' (w1.heap.size + 1) = some nv ∧ rd w' w5.heap.size = some y) (first | with_reducible exact ⟨hq,h11,h12⟩ | with_reducible exact HD.out _ (by (repeat (first | with_reducible exact Keeps.refl _ _ | with_reducible refine Keeps.drew ?_ | with_reducible refine Keeps.alloc ?_ _ | with_reducible refine Keeps.setCell ?_ (.inl (by simp)) _ | with_reducible refine Keeps.setCell ?_ (.inr (Nat.le_refl _)) _))) | with_reducible exact HC.out _ (by first | with_reducible exact Sq.r.drew | with_reducible exact Sq.r.drew.alloc _ | with_reducible exact (Sq.r.alloc _).drew | with_reducible exact (Sq.r.drew.alloc _).drew | with_reducible exact Sq.r.alloc _)) ((go_at_call 140; refine (QT.out _ (by first | with_reducible exact Sq.r.drew | with_reducible exact Sq.r.drew.alloc _ | with_reducible exact (Sq.r.alloc _).drew | with_reducible exact (Sq.r.drew.alloc _).drew | with_reducible exact Sq.r.alloc _)).mono ?_; rintro e w7 ⟨rfl,hl⟩; have kA := of_left (w6 := w6) hl (by first | with_reducible exact Sq.r.drew | with_reducible exact Sq.r.drew.alloc _ | with_reducible exact (Sq.r.alloc _).drew | with_reducible exact (Sq.r.drew.alloc _).drew | with_reducible exact Sq.r.alloc _); have hqb := q_left HT.out HM.out (K6.out.trans kA (by simp)) hl (by simp); have hq : w7.cell? ⟨t.q,0,none⟩ = some (.pointer (some ⟨t.r,0,none⟩)) := (hqb.cell 0).trans rfl; have h11 := rd_left HT.out HM.out hl hz7.out.1 (HC.out _ kA).2.1; have h12 := rd_left HT.out HM.out hl hz7.out.2.2.1 (HC.out _ kA).2.2; have h8 := Lib.hid (rd_left HT.out HM.out hl (Nat.le_refl _) (rd_keeps T8.out kA (by simp))); have HD := Lib.hid (s_keeps hqb h11 h12 nq n11 n12); (first | (have h13 := t13 HT.out HM.out hl hz7.out.2.2.2.2.2 (n13a w6); obtain ⟨h13,hs13⟩ := h13) | (have h13 := t13 HT.out HM.out hl hz7.out.2.2.2.2.2 (n13b w6); obtain ⟨h13,hs13⟩ := h13) | (have h13 := t13 HT.out HM.out hl hz7.out.2.2.2.2.2 (n13c w6); obtain ⟨h13,hs13⟩ := h13) | have h77 : w6.heap.size ≤ w7.heap.size := le_left kA hl); have HL7 := Lib.hid hl; have KA := Lib.hid (K6.out.trans kA (by simp)); clear hqb hl kA))
 ·
  have k8 : Keeps [] w7 (w7.alloc (.cells #[.int .i64 x.gen,.int .i64 x.state,.int .i64 x.stamp,.int .i64 x.thread,.bool x.doomed,.int .i64 x.who] 115)) := ((Keeps.refl [] w7).alloc (.cells #[.int .i64 x.gen,.int .i64 x.state,.int .i64 x.stamp,.int .i64 x.thread,.bool x.doomed,.int .i64 x.who] 115))
  have q8 := rd_keeps h8.out k8 (by simp)
  have q11 := rd_keeps h11 k8 (by simp)
  have q12 := rd_keeps h12 k8 (by simp)
  have q13 : rd (w7.alloc (.cells #[.int .i64 x.gen,.int .i64 x.state,.int .i64 x.stamp,.int .i64 x.thread,.bool x.doomed,.int .i64 x.who] 115)) w7.heap.size = some x := rd_new w7 x
  have ne1 : (w1.heap.size + 1) ≠ w.heap.size := by have h1 := hz7.out; have h2 := hzl.out; omega
  have ne2 : w7.heap.size ≠ w.heap.size := by have h1 := hz7.out; omega
  have ne3 := ne1.symm
  have ne4 := ne2.symm
  show Exit.then _ _ Exit.normal _ (w7.alloc (.cells #[.int .i64 x.gen,.int .i64 x.state,.int .i64 x.stamp,.int .i64 x.thread,.bool x.doomed,.int .i64 x.who] 115))
  have he : ∀ w,(Op.equalIn 10000 115 (.agg #[.int .i64 x.gen,.int .i64 x.state,.int .i64 x.stamp,.int .i64 x.thread,.bool x.doomed,.int .i64 x.who]) (.agg #[.int .i64 nv.gen,.int .i64 nv.state,.int .i64 nv.stamp,.int .i64 nv.thread,.bool nv.doomed,.int .i64 nv.who])).run Tryz.prog w = .ok false w := fun w => by rw [RowH.eq_run,decide_eq_false HNE.out]
  have K8 := Lib.hid k8
  clear k8 h11 h12 i0 i1 i2 c0 hq
  generalize hw8 : (w7.alloc (.cells #[.int .i64 x.gen,.int .i64 x.state,.int .i64 x.stamp,.int .i64 x.thread,.bool x.doomed,.int .i64 x.who] 115)) = w8 at *
  clear hw8
  go_wp2
  go_region
  go_wp2
  show bodyPost _ _ _ _ _ ((put6 w8 w.heap.size y).drew)
  have v8 := rd_keeps (rd_put6 w8 w.heap.size y _ q8) ((Keeps.refl [] _).drew) (by simp)
  have hk8 : Keeps [w.heap.size] w7 ((put6 w8 w.heap.size y).drew) := ((K8.out.mono (T := [w.heap.size]) (by simp)).trans (put6_keeps _ _ _) (fun z hz => .inl (by simp at hz; simp [hz]))).drew
  generalize hw9 : (put6 w8 w.heap.size y).drew = w9 at *
  clear hw9
  refine bodyPost_ret (v := .tuple #[.agg #[.int .i64 y.gen,.int .i64 y.state,.int .i64 y.stamp,.int .i64 y.thread,.bool y.doomed,.int .i64 y.who],.bool false]) (by simp [results,Tryz.results97,go_sem,v8]) rfl ⟨rfl,?_⟩
  exact HT.out.headed HM.out KA.out HL7.out (by simp) (S := [w.heap.size]) (fun z hz => by simp only [List.mem_cons,List.not_mem_nil,or_false] at hz; subst hz; exact ⟨Nat.le_refl _,.inl (by simp only [World.size_drew]; exact hz7.out.2.2.2.2.1)⟩) hk8
 ·
  have k8 : Keeps [w6.heap.size] w7 (put6 w7 w6.heap.size x) := (put6_keeps w7 w6.heap.size x)
  have q8 := rd_keeps h8.out k8 (by have := hz7.out; simp; omega)
  have q11 := rd_keeps h11 k8 (by simpa using n11)
  have q12 := rd_keeps h12 k8 (by simpa using n12)
  have q13 : rd (put6 w7 w6.heap.size x) w6.heap.size = some x := rd_put6 w7 w6.heap.size x _ h13
  have ne1 : (w1.heap.size + 1) ≠ w.heap.size := by have h1 := hz7.out; have h2 := hzl.out; omega
  have ne2 : w6.heap.size ≠ w.heap.size := by have h1 := hz7.out; omega
  have ne3 := ne1.symm
  have ne4 := ne2.symm
  show Exit.then _ _ Exit.normal _ (put6 w7 w6.heap.size x)
  have he : ∀ w,(Op.equalIn 10000 115 (.agg #[.int .i64 x.gen,.int .i64 x.state,.int .i64 x.stamp,.int .i64 x.thread,.bool x.doomed,.int .i64 x.who]) (.agg #[.int .i64 nv.gen,.int .i64 nv.state,.int .i64 nv.stamp,.int .i64 nv.thread,.bool nv.doomed,.int .i64 nv.who])).run Tryz.prog w = .ok false w := fun w => by rw [RowH.eq_run,decide_eq_false HNE.out]
  have K8 := Lib.hid k8
  clear k8 h11 h12 h13 i0 i1 i2 c0 hq
  generalize hw8 : (put6 w7 w6.heap.size x) = w8 at *
  clear hw8
  go_wp2
  go_region
  go_wp2
  show bodyPost _ _ _ _ _ ((put6 w8 w.heap.size y).drew)
  have v8 := rd_keeps (rd_put6 w8 w.heap.size y _ q8) ((Keeps.refl [] _).drew) (by simp)
  have hk8 : Keeps [w6.heap.size,w.heap.size] w7 ((put6 w8 w.heap.size y).drew) := ((K8.out.mono (T := [w6.heap.size,w.heap.size]) (by simp)).trans (put6_keeps _ _ _) (fun z hz => .inl (by simp at hz; simp [hz]))).drew
  generalize hw9 : (put6 w8 w.heap.size y).drew = w9 at *
  clear hw9
  refine bodyPost_ret (v := .tuple #[.agg #[.int .i64 y.gen,.int .i64 y.state,.int .i64 y.stamp,.int .i64 y.thread,.bool y.doomed,.int .i64 y.who],.bool false]) (by simp [results,Tryz.results97,go_sem,v8]) rfl ⟨rfl,?_⟩
  exact HT.out.headed HM.out KA.out HL7.out (by simp) (S := [w6.heap.size,w.heap.size]) (fun z hz => by simp only [List.mem_cons,List.not_mem_nil,or_false] at hz; rcases hz with rfl | rfl; exact ⟨hz7.out.2.2.2.2.2,.inl hs13⟩; exact ⟨Nat.le_refl _,.inl (Nat.lt_trans hz7.out.2.2.2.2.1 hs13)⟩) hk8
open Go.RowKit
theorem enter_claim1 : ∀ args w,(callFunc 98 args).run Tryz.prog w = .ok (.enter 98 args) w := fun _ _ => by simp [callFunc,go_sem,Tryz.func98]; rfl
theorem enter_claim2 : ∀ args w,(callFunc 99 args).run Tryz.prog w = .ok (.enter 99 args) w := fun _ _ => by simp [callFunc,go_sem,Tryz.func99]; rfl
theorem enter_ready1 : ∀ args w,(callFunc 104 args).run Tryz.prog w = .ok (.enter 104 args) w := fun _ _ => by simp [callFunc,go_sem,Tryz.func104]; rfl
theorem enter_ready2 : ∀ args w,(callFunc 105 args).run Tryz.prog w = .ok (.enter 105 args) w := fun _ _ => by simp [callFunc,go_sem,Tryz.func105]; rfl
theorem enter_doom1 : ∀ args w,(callFunc 136 args).run Tryz.prog w = .ok (.enter 136 args) w := fun _ _ => by simp [callFunc,go_sem,Tryz.func136]; rfl
theorem enter_doom2 : ∀ args w,(callFunc 137 args).run Tryz.prog w = .ok (.enter 137 args) w := fun _ _ => by simp [callFunc,go_sem,Tryz.func137]; rfl
theorem enter_free1 : ∀ args w,(callFunc 100 args).run Tryz.prog w = .ok (.enter 100 args) w := fun _ _ => by simp [callFunc,go_sem,Tryz.func100]; rfl
theorem enter_free2 : ∀ args w,(callFunc 101 args).run Tryz.prog w = .ok (.enter 101 args) w := fun _ _ => by simp [callFunc,go_sem,Tryz.func101]; rfl
theorem TLeft.wide {t : Tb} {mp : Option Nat} {H : List Hd} {W : List Int} {lb : Nat} {s : MS} {w wB w2 w3 : World} (hT : TLeft t mp H W lb s wB w2) (hk : Keeps [] w wB) (hk2 : Keeps [] w2 w3) : TLeft t mp H W lb s w w3 := by
 obtain ⟨h1,lb',h2,h3,h4⟩ := hT
 have hz := hk.size
 exact ⟨h1.calm hk2,lb',h2.keeps hk2 (by simp),((hk.mono (T := t.b :: t.c :: foot mp lb) (by simp)).trans h3 (fun x hx => .inl hx)).trans hk2 (by simp),by omega⟩
set_option maxRecDepth 100000 in
theorem claim_ok (w : World) (t : Tb) (mp : Option Nat) (H : List Hd) (W : List Int) (h : TabAt w t mp H W) (lb : Nat) (s : MS) (hm : MetAt MT w mp lb s) (hl : Room mp s) (k : Nat) (x : Hd) (hx : H[k]? = some x) (th : Int) (t1 : 1 ≤ th) (t2 : th ≤ 8) (h0 : x.state = 0) :
 Calls Tryz.prog 26 #[.pointer (some ⟨t.q,0,none⟩),.int .i64 k,.int .i64 th] w fun e w' => e = .returned (.tuple #[.int .i64 (wrap64 (x.gen + 1)),.int .i64 0]) ∧ TLeft t mp (H.set k ⟨wrap64 (x.gen + 1),1,0,th,false,0⟩) W lb (s.note 3 k 3 true) w w' := by
 have hk : k < H.length := (List.getElem?_eq_some_iff.1 hx).1
 have kB : Keeps [] w (w.alloc (.cells #[.int .i64 th] 3)) := Sq.r.alloc _
 have B0 := Lib.hid (show Blk (w.alloc (.cells #[.int .i64 th] 3)) (w.heap.size) 3 #[.int .i64 th] from Blk.new _ _ _)
 have QT := Lib.hid (there_yes (w.alloc (.cells #[.int .i64 th] 3)) t mp H W (h.calm kB) k (by omega) (by omega))
 have QX := Lib.hid (trade_y (w.alloc (.cells #[.int .i64 th] 3)) t mp H W (h.calm kB) lb s (hm.keeps kB (by simp)) hl k x hx 98 99 #[] #[.pointer (some ⟨w.heap.size,0,none⟩)] ⟨wrap64 (x.gen + 1),1,0,th,false,0⟩ enter_claim1 enter_claim2
  (fun w' hk' => by simpa using claim1_yes w' x h0) (fun w' hk' => by simpa using claim2 w' x _ th (((B0.out.keeps hk' (by simp)).cell 0).trans rfl)))
 have KB := Lib.hid kB
 clear h hm hl hx kB
 go_enter Tryz.func26,Tryz.ntmps26
 go_wp2_with fail
 refine (sThread_yes _ th t1 t2).mono ?_
 rintro e wa ⟨rfl,rfl⟩
 go_wp2_with fail
 refine QT.out.mono ?_
 rintro e wb ⟨rfl,rfl⟩
 go_wp2_with fail
 refine QX.out.mono ?_
 rintro e w2 ⟨rfl,hT⟩
 have HT := Lib.hid hT
 clear hT QX QT
 go_wp2_with fail
 go_ret2
 exact ⟨rfl,HT.out.wide KB.out (Sq.r.alloc _)⟩
set_option maxRecDepth 100000 in
theorem claim_held (w : World) (t : Tb) (mp : Option Nat) (H : List Hd) (W : List Int) (h : TabAt w t mp H W) (lb : Nat) (s : MS) (hm : MetAt MT w mp lb s) (hl : Room mp s) (k : Nat) (x : Hd) (hx : H[k]? = some x) (th : Int) (t1 : 1 ≤ th) (t2 : th ≤ 8) (hnv : x.gen ≠ -1) (h0 : ¬ x.state = 0) :
 Calls Tryz.prog 26 #[.pointer (some ⟨t.q,0,none⟩),.int .i64 k,.int .i64 th] w fun e w' => e = .returned (.tuple #[.int .i64 0,.int .i64 5]) ∧ TLeft t mp (H) W lb (s.note 3 k 3 false) w w' := by
 have hk : k < H.length := (List.getElem?_eq_some_iff.1 hx).1
 have kB : Keeps [] w (w.alloc (.cells #[.int .i64 th] 3)) := Sq.r.alloc _
 have B0 := Lib.hid (show Blk (w.alloc (.cells #[.int .i64 th] 3)) (w.heap.size) 3 #[.int .i64 th] from Blk.new _ _ _)
 have QT := Lib.hid (there_yes (w.alloc (.cells #[.int .i64 th] 3)) t mp H W (h.calm kB) k (by omega) (by omega))
 have QX := Lib.hid (trade_n (w.alloc (.cells #[.int .i64 th] 3)) t mp H W (h.calm kB) lb s (hm.keeps kB (by simp)) hl k x hx (fun e => hnv (by rw [e]; rfl)) 98 99 #[] #[.pointer (some ⟨w.heap.size,0,none⟩)] ⟨wrap64 (x.gen + 1),1,0,th,false,0⟩ enter_claim1 enter_claim2
  (fun w' hk' => by simpa using claim1_no w' x h0) (fun w' hk' => by simpa using claim2 w' x _ th (((B0.out.keeps hk' (by simp)).cell 0).trans rfl)))
 have KB := Lib.hid kB
 clear h hm hl hx kB
 go_enter Tryz.func26,Tryz.ntmps26
 go_wp2_with fail
 refine (sThread_yes _ th t1 t2).mono ?_
 rintro e wa ⟨rfl,rfl⟩
 go_wp2_with fail
 refine QT.out.mono ?_
 rintro e wb ⟨rfl,rfl⟩
 go_wp2_with fail
 refine QX.out.mono ?_
 rintro e w2 ⟨rfl,hT⟩
 have HT := Lib.hid hT
 clear hT QX QT
 go_wp2_with fail
 go_ret2
 exact ⟨rfl,HT.out.wide KB.out (Sq.r.alloc _)⟩
theorem claim_bad (w : World) (q : Nat) (k : Int) (th : Int) (ht : th < 1 ∨ 8 < th) :
 Calls Tryz.prog 26 #[.pointer (some ⟨q,0,none⟩),.int .i64 k,.int .i64 th] w fun e w' => e = .returned (.tuple #[.int .i64 0,.int .i64 1]) ∧ Keeps [] w w' := by
 have kB : Keeps [] w (w.alloc (.cells #[.int .i64 th] 3)) := Sq.r.alloc _
 have B0 := Lib.hid (show Blk (w.alloc (.cells #[.int .i64 th] 3)) (w.heap.size) 3 #[.int .i64 th] from Blk.new _ _ _)
 clear B0
 have KB := Lib.hid kB
 clear kB
 have QT := Lib.hid (sThread_no (w.alloc (.cells #[.int .i64 th] 3)) th ht)
 clear ht
 go_enter Tryz.func26,Tryz.ntmps26
 go_wp2_with fail
 refine QT.out.mono ?_
 rintro e wa ⟨rfl,rfl⟩
 go_wp2_with fail
 go_ret2
 exact ⟨rfl,KB.out⟩
theorem claim_place (w : World) (t : Tb) (mp : Option Nat) (H : List Hd) (W : List Int) (h : TabAt w t mp H W) (k : Int) (hk : k < 0 ∨ (H.length : Int) ≤ k) (th : Int) (t1 : 1 ≤ th) (t2 : th ≤ 8) :
 Calls Tryz.prog 26 #[.pointer (some ⟨t.q,0,none⟩),.int .i64 k,.int .i64 th] w fun e w' => e = .returned (.tuple #[.int .i64 0,.int .i64 2]) ∧ Keeps [] w w' := by
 have kB : Keeps [] w (w.alloc (.cells #[.int .i64 th] 3)) := Sq.r.alloc _
 have B0 := Lib.hid (show Blk (w.alloc (.cells #[.int .i64 th] 3)) (w.heap.size) 3 #[.int .i64 th] from Blk.new _ _ _)
 clear B0
 have QT := Lib.hid (there_no (w.alloc (.cells #[.int .i64 th] 3)) t mp H W (h.calm kB) k hk)
 have KB := Lib.hid kB
 clear h kB hk
 go_enter Tryz.func26,Tryz.ntmps26
 go_wp2_with fail
 refine (sThread_yes _ th t1 t2).mono ?_
 rintro e wa ⟨rfl,rfl⟩
 go_wp2_with fail
 refine QT.out.mono ?_
 rintro e wb ⟨rfl,rfl⟩
 go_wp2_with fail
 go_ret2
 exact ⟨rfl,KB.out⟩
set_option maxRecDepth 100000 in
theorem ready_ok (w : World) (t : Tb) (mp : Option Nat) (H : List Hd) (W : List Int) (h : TabAt w t mp H W) (lb : Nat) (s : MS) (hm : MetAt MT w mp lb s) (hl : Room mp s) (k : Nat) (x : Hd) (hx : H[k]? = some x) (g st : Int) (t1 : 1 ≤ st) (h0 : x.state = 1) (h1 : x.gen = g) :
 Calls Tryz.prog 29 #[.pointer (some ⟨t.q,0,none⟩),.int .i64 k,.int .i64 g,.int .i64 st] w fun e w' => e = .returned (.int .i64 0) ∧ TLeft t mp (H.set k ⟨x.gen,2,st,x.thread,x.doomed,x.who⟩) W lb (s.note 3 k 3 true) w w' := by
 have hk : k < H.length := (List.getElem?_eq_some_iff.1 hx).1
 have kB : Keeps [] w ((w.alloc (.cells #[.int .i64 g] 3)).alloc (.cells #[.int .i64 st] 3)) := (Sq.r.alloc _).alloc _
 have B0 := Lib.hid (show Blk ((w.alloc (.cells #[.int .i64 g] 3)).alloc (.cells #[.int .i64 st] 3)) (w.heap.size) 3 #[.int .i64 g] from (Blk.new _ _ _).alloc _)
 have B1 := Lib.hid (show Blk ((w.alloc (.cells #[.int .i64 g] 3)).alloc (.cells #[.int .i64 st] 3)) (w.heap.size + 1) 3 #[.int .i64 st] from new_at _ _ _ (by simp))
 have QT := Lib.hid (there_yes ((w.alloc (.cells #[.int .i64 g] 3)).alloc (.cells #[.int .i64 st] 3)) t mp H W (h.calm kB) k (by omega) (by omega))
 have QX := Lib.hid (trade_y ((w.alloc (.cells #[.int .i64 g] 3)).alloc (.cells #[.int .i64 st] 3)) t mp H W (h.calm kB) lb s (hm.keeps kB (by simp)) hl k x hx 104 105 #[.pointer (some ⟨w.heap.size,0,none⟩)] #[.pointer (some ⟨w.heap.size + 1,0,none⟩)] ⟨x.gen,2,st,x.thread,x.doomed,x.who⟩ enter_ready1 enter_ready2
  (fun w' hk' => by simpa using ready1_yes w' x _ g (((B0.out.keeps hk' (by simp)).cell 0).trans rfl) h0 h1) (fun w' hk' => by simpa using ready2 w' x _ st (((B1.out.keeps hk' (by simp)).cell 0).trans rfl)))
 have KB := Lib.hid kB
 clear h hm hl hx kB
 go_enter Tryz.func29,Tryz.ntmps29
 go_wp2_with fail
 refine QT.out.mono ?_
 rintro e wb ⟨rfl,rfl⟩
 go_wp2_with fail
 refine QX.out.mono ?_
 rintro e w2 ⟨rfl,hT⟩
 have HT := Lib.hid hT
 clear hT QX QT
 go_wp2_with fail
 go_ret
 exact ⟨rfl,HT.out.wide KB.out (Sq.r.alloc _)⟩
set_option maxRecDepth 100000 in
theorem ready_no (w : World) (t : Tb) (mp : Option Nat) (H : List Hd) (W : List Int) (h : TabAt w t mp H W) (lb : Nat) (s : MS) (hm : MetAt MT w mp lb s) (hl : Room mp s) (k : Nat) (x : Hd) (hx : H[k]? = some x) (g st : Int) (t1 : 1 ≤ st) (hnv : x.gen ≠ -1) (h0 : x.state = 1) (h1 : ¬ x.gen = g) :
 Calls Tryz.prog 29 #[.pointer (some ⟨t.q,0,none⟩),.int .i64 k,.int .i64 g,.int .i64 st] w fun e w' => e = .returned (.int .i64 4) ∧ TLeft t mp (H) W lb (s.note 3 k 3 false) w w' := by
 have hk : k < H.length := (List.getElem?_eq_some_iff.1 hx).1
 have kB : Keeps [] w ((w.alloc (.cells #[.int .i64 g] 3)).alloc (.cells #[.int .i64 st] 3)) := (Sq.r.alloc _).alloc _
 have B0 := Lib.hid (show Blk ((w.alloc (.cells #[.int .i64 g] 3)).alloc (.cells #[.int .i64 st] 3)) (w.heap.size) 3 #[.int .i64 g] from (Blk.new _ _ _).alloc _)
 have B1 := Lib.hid (show Blk ((w.alloc (.cells #[.int .i64 g] 3)).alloc (.cells #[.int .i64 st] 3)) (w.heap.size + 1) 3 #[.int .i64 st] from new_at _ _ _ (by simp))
 have QT := Lib.hid (there_yes ((w.alloc (.cells #[.int .i64 g] 3)).alloc (.cells #[.int .i64 st] 3)) t mp H W (h.calm kB) k (by omega) (by omega))
 have QX := Lib.hid (trade_n ((w.alloc (.cells #[.int .i64 g] 3)).alloc (.cells #[.int .i64 st] 3)) t mp H W (h.calm kB) lb s (hm.keeps kB (by simp)) hl k x hx (fun e => hnv (by rw [e]; rfl)) 104 105 #[.pointer (some ⟨w.heap.size,0,none⟩)] #[.pointer (some ⟨w.heap.size + 1,0,none⟩)] ⟨x.gen,2,st,x.thread,x.doomed,x.who⟩ enter_ready1 enter_ready2
  (fun w' hk' => by simpa using ready1_no w' x _ g (((B0.out.keeps hk' (by simp)).cell 0).trans rfl) h0 h1) (fun w' hk' => by simpa using ready2 w' x _ st (((B1.out.keeps hk' (by simp)).cell 0).trans rfl)))
 have KB := Lib.hid kB
 clear h hm hl hx kB
 go_enter Tryz.func29,Tryz.ntmps29
 go_wp2_with fail
 refine QT.out.mono ?_
 rintro e wb ⟨rfl,rfl⟩
 go_wp2_with fail
 refine QX.out.mono ?_
 rintro e w2 ⟨rfl,hT⟩
 have HT := Lib.hid hT
 clear hT QX QT
 go_wp2_with fail
 go_ret
 exact ⟨rfl,HT.out.wide KB.out (Sq.r.alloc _)⟩
set_option maxRecDepth 100000 in
theorem ready_not (w : World) (t : Tb) (mp : Option Nat) (H : List Hd) (W : List Int) (h : TabAt w t mp H W) (lb : Nat) (s : MS) (hm : MetAt MT w mp lb s) (hl : Room mp s) (k : Nat) (x : Hd) (hx : H[k]? = some x) (g st : Int) (t1 : 1 ≤ st) (hnv : x.gen ≠ -1) (h0 : ¬ x.state = 1) :
 Calls Tryz.prog 29 #[.pointer (some ⟨t.q,0,none⟩),.int .i64 k,.int .i64 g,.int .i64 st] w fun e w' => e = .returned (.int .i64 4) ∧ TLeft t mp (H) W lb (s.note 3 k 3 false) w w' := by
 have hk : k < H.length := (List.getElem?_eq_some_iff.1 hx).1
 have kB : Keeps [] w ((w.alloc (.cells #[.int .i64 g] 3)).alloc (.cells #[.int .i64 st] 3)) := (Sq.r.alloc _).alloc _
 have B0 := Lib.hid (show Blk ((w.alloc (.cells #[.int .i64 g] 3)).alloc (.cells #[.int .i64 st] 3)) (w.heap.size) 3 #[.int .i64 g] from (Blk.new _ _ _).alloc _)
 have B1 := Lib.hid (show Blk ((w.alloc (.cells #[.int .i64 g] 3)).alloc (.cells #[.int .i64 st] 3)) (w.heap.size + 1) 3 #[.int .i64 st] from new_at _ _ _ (by simp))
 have QT := Lib.hid (there_yes ((w.alloc (.cells #[.int .i64 g] 3)).alloc (.cells #[.int .i64 st] 3)) t mp H W (h.calm kB) k (by omega) (by omega))
 have QX := Lib.hid (trade_n ((w.alloc (.cells #[.int .i64 g] 3)).alloc (.cells #[.int .i64 st] 3)) t mp H W (h.calm kB) lb s (hm.keeps kB (by simp)) hl k x hx (fun e => hnv (by rw [e]; rfl)) 104 105 #[.pointer (some ⟨w.heap.size,0,none⟩)] #[.pointer (some ⟨w.heap.size + 1,0,none⟩)] ⟨x.gen,2,st,x.thread,x.doomed,x.who⟩ enter_ready1 enter_ready2
  (fun w' hk' => by simpa using ready1_not w' x _ g (((B0.out.keeps hk' (by simp)).cell 0).trans rfl) h0) (fun w' hk' => by simpa using ready2 w' x _ st (((B1.out.keeps hk' (by simp)).cell 0).trans rfl)))
 have KB := Lib.hid kB
 clear h hm hl hx kB
 go_enter Tryz.func29,Tryz.ntmps29
 go_wp2_with fail
 refine QT.out.mono ?_
 rintro e wb ⟨rfl,rfl⟩
 go_wp2_with fail
 refine QX.out.mono ?_
 rintro e w2 ⟨rfl,hT⟩
 have HT := Lib.hid hT
 clear hT QX QT
 go_wp2_with fail
 go_ret
 exact ⟨rfl,HT.out.wide KB.out (Sq.r.alloc _)⟩
theorem ready_bad (w : World) (q : Nat) (k : Int) (g st : Int) (ht : st < 1) :
 Calls Tryz.prog 29 #[.pointer (some ⟨q,0,none⟩),.int .i64 k,.int .i64 g,.int .i64 st] w fun e w' => e = .returned (.int .i64 1) ∧ Keeps [] w w' := by
 have kB : Keeps [] w ((w.alloc (.cells #[.int .i64 g] 3)).alloc (.cells #[.int .i64 st] 3)) := (Sq.r.alloc _).alloc _
 have B0 := Lib.hid (show Blk ((w.alloc (.cells #[.int .i64 g] 3)).alloc (.cells #[.int .i64 st] 3)) (w.heap.size) 3 #[.int .i64 g] from (Blk.new _ _ _).alloc _)
 have B1 := Lib.hid (show Blk ((w.alloc (.cells #[.int .i64 g] 3)).alloc (.cells #[.int .i64 st] 3)) (w.heap.size + 1) 3 #[.int .i64 st] from new_at _ _ _ (by simp))
 clear B0 B1
 have KB := Lib.hid kB
 clear kB
 go_enter Tryz.func29,Tryz.ntmps29
 go_wp2_with fail
 go_ret
 exact ⟨rfl,KB.out⟩
theorem ready_place (w : World) (t : Tb) (mp : Option Nat) (H : List Hd) (W : List Int) (h : TabAt w t mp H W) (k : Int) (hk : k < 0 ∨ (H.length : Int) ≤ k) (g st : Int) (t1 : 1 ≤ st) :
 Calls Tryz.prog 29 #[.pointer (some ⟨t.q,0,none⟩),.int .i64 k,.int .i64 g,.int .i64 st] w fun e w' => e = .returned (.int .i64 2) ∧ Keeps [] w w' := by
 have kB : Keeps [] w ((w.alloc (.cells #[.int .i64 g] 3)).alloc (.cells #[.int .i64 st] 3)) := (Sq.r.alloc _).alloc _
 have B0 := Lib.hid (show Blk ((w.alloc (.cells #[.int .i64 g] 3)).alloc (.cells #[.int .i64 st] 3)) (w.heap.size) 3 #[.int .i64 g] from (Blk.new _ _ _).alloc _)
 have B1 := Lib.hid (show Blk ((w.alloc (.cells #[.int .i64 g] 3)).alloc (.cells #[.int .i64 st] 3)) (w.heap.size + 1) 3 #[.int .i64 st] from new_at _ _ _ (by simp))
 clear B0 B1
 have QT := Lib.hid (there_no ((w.alloc (.cells #[.int .i64 g] 3)).alloc (.cells #[.int .i64 st] 3)) t mp H W (h.calm kB) k hk)
 have KB := Lib.hid kB
 clear h kB hk
 go_enter Tryz.func29,Tryz.ntmps29
 go_wp2_with fail
 refine QT.out.mono ?_
 rintro e wb ⟨rfl,rfl⟩
 go_wp2_with fail
 go_ret
 exact ⟨rfl,KB.out⟩
set_option maxRecDepth 100000 in
theorem doom_new (w : World) (t : Tb) (mp : Option Nat) (H : List Hd) (W : List Int) (h : TabAt w t mp H W) (lb : Nat) (s : MS) (hm : MetAt MT w mp lb s) (hl : Room mp s) (k : Nat) (x : Hd) (hx : H[k]? = some x) (g by_ : Int) (t1 : 1 ≤ by_) (t2 : by_ ≤ 8) (h0 : x.state = 2) (h1 : x.gen = g) (hd : x.doomed = false) :
 Calls Tryz.prog 88 #[.pointer (some ⟨t.q,0,none⟩),.int .i64 k,.int .i64 g,.int .i64 by_] w fun e w' => e = .returned (.int .i64 0) ∧ TLeft t mp (H.set k ⟨x.gen,x.state,x.stamp,x.thread,true,by_⟩) W lb (s.note 3 k 3 true) w w' := by
 have hk : k < H.length := (List.getElem?_eq_some_iff.1 hx).1
 have kB : Keeps [] w ((w.alloc (.cells #[.int .i64 g] 3)).alloc (.cells #[.int .i64 by_] 3)) := (Sq.r.alloc _).alloc _
 have B0 := Lib.hid (show Blk ((w.alloc (.cells #[.int .i64 g] 3)).alloc (.cells #[.int .i64 by_] 3)) (w.heap.size) 3 #[.int .i64 g] from (Blk.new _ _ _).alloc _)
 have B1 := Lib.hid (show Blk ((w.alloc (.cells #[.int .i64 g] 3)).alloc (.cells #[.int .i64 by_] 3)) (w.heap.size + 1) 3 #[.int .i64 by_] from new_at _ _ _ (by simp))
 have QT := Lib.hid (there_yes ((w.alloc (.cells #[.int .i64 g] 3)).alloc (.cells #[.int .i64 by_] 3)) t mp H W (h.calm kB) k (by omega) (by omega))
 have QX := Lib.hid (trade_y ((w.alloc (.cells #[.int .i64 g] 3)).alloc (.cells #[.int .i64 by_] 3)) t mp H W (h.calm kB) lb s (hm.keeps kB (by simp)) hl k x hx 136 137 #[.pointer (some ⟨w.heap.size,0,none⟩)] #[.pointer (some ⟨w.heap.size + 1,0,none⟩)] ⟨x.gen,x.state,x.stamp,x.thread,true,by_⟩ enter_doom1 enter_doom2
  (fun w' hk' => by simpa using doom1_yes w' x _ g (((B0.out.keeps hk' (by simp)).cell 0).trans rfl) h0 h1) (fun w' hk' => by simpa using doom2_new w' x _ by_ (((B1.out.keeps hk' (by simp)).cell 0).trans rfl) hd))
 have KB := Lib.hid kB
 clear h hm hl hx kB
 go_enter Tryz.func88,Tryz.ntmps88
 go_wp2_with fail
 refine (sThread_yes _ by_ t1 t2).mono ?_
 rintro e wa ⟨rfl,rfl⟩
 go_wp2_with fail
 refine QT.out.mono ?_
 rintro e wb ⟨rfl,rfl⟩
 go_wp2_with fail
 refine QX.out.mono ?_
 rintro e w2 ⟨rfl,hT⟩
 have HT := Lib.hid hT
 clear hT QX QT
 go_wp2_with fail
 go_ret
 exact ⟨rfl,HT.out.wide KB.out (Sq.r.alloc _)⟩
set_option maxRecDepth 100000 in
theorem doom_old (w : World) (t : Tb) (mp : Option Nat) (H : List Hd) (W : List Int) (h : TabAt w t mp H W) (lb : Nat) (s : MS) (hm : MetAt MT w mp lb s) (hl : Room mp s) (k : Nat) (x : Hd) (hx : H[k]? = some x) (g by_ : Int) (t1 : 1 ≤ by_) (t2 : by_ ≤ 8) (h0 : x.state = 2) (h1 : x.gen = g) (hd : x.doomed = true) :
 Calls Tryz.prog 88 #[.pointer (some ⟨t.q,0,none⟩),.int .i64 k,.int .i64 g,.int .i64 by_] w fun e w' => e = .returned (.int .i64 0) ∧ TLeft t mp (H.set k x) W lb (s.note 3 k 3 true) w w' := by
 have hk : k < H.length := (List.getElem?_eq_some_iff.1 hx).1
 have kB : Keeps [] w ((w.alloc (.cells #[.int .i64 g] 3)).alloc (.cells #[.int .i64 by_] 3)) := (Sq.r.alloc _).alloc _
 have B0 := Lib.hid (show Blk ((w.alloc (.cells #[.int .i64 g] 3)).alloc (.cells #[.int .i64 by_] 3)) (w.heap.size) 3 #[.int .i64 g] from (Blk.new _ _ _).alloc _)
 have B1 := Lib.hid (show Blk ((w.alloc (.cells #[.int .i64 g] 3)).alloc (.cells #[.int .i64 by_] 3)) (w.heap.size + 1) 3 #[.int .i64 by_] from new_at _ _ _ (by simp))
 have QT := Lib.hid (there_yes ((w.alloc (.cells #[.int .i64 g] 3)).alloc (.cells #[.int .i64 by_] 3)) t mp H W (h.calm kB) k (by omega) (by omega))
 have QX := Lib.hid (trade_y ((w.alloc (.cells #[.int .i64 g] 3)).alloc (.cells #[.int .i64 by_] 3)) t mp H W (h.calm kB) lb s (hm.keeps kB (by simp)) hl k x hx 136 137 #[.pointer (some ⟨w.heap.size,0,none⟩)] #[.pointer (some ⟨w.heap.size + 1,0,none⟩)] x enter_doom1 enter_doom2
  (fun w' hk' => by simpa using doom1_yes w' x _ g (((B0.out.keeps hk' (by simp)).cell 0).trans rfl) h0 h1) (fun w' hk' => by simpa using doom2_old w' x _ by_ (((B1.out.keeps hk' (by simp)).cell 0).trans rfl) hd))
 have KB := Lib.hid kB
 clear h hm hl hx kB
 go_enter Tryz.func88,Tryz.ntmps88
 go_wp2_with fail
 refine (sThread_yes _ by_ t1 t2).mono ?_
 rintro e wa ⟨rfl,rfl⟩
 go_wp2_with fail
 refine QT.out.mono ?_
 rintro e wb ⟨rfl,rfl⟩
 go_wp2_with fail
 refine QX.out.mono ?_
 rintro e w2 ⟨rfl,hT⟩
 have HT := Lib.hid hT
 clear hT QX QT
 go_wp2_with fail
 go_ret
 exact ⟨rfl,HT.out.wide KB.out (Sq.r.alloc _)⟩
set_option maxRecDepth 100000 in
theorem doom_no0 (w : World) (t : Tb) (mp : Option Nat) (H : List Hd) (W : List Int) (h : TabAt w t mp H W) (lb : Nat) (s : MS) (hm : MetAt MT w mp lb s) (hl : Room mp s) (k : Nat) (x : Hd) (hx : H[k]? = some x) (g by_ : Int) (t1 : 1 ≤ by_) (t2 : by_ ≤ 8) (hnv : x.gen ≠ -1) (h0 : x.state = 2) (h1 : ¬ x.gen = g) (hd : x.doomed = false) :
 Calls Tryz.prog 88 #[.pointer (some ⟨t.q,0,none⟩),.int .i64 k,.int .i64 g,.int .i64 by_] w fun e w' => e = .returned (.int .i64 4) ∧ TLeft t mp (H) W lb (s.note 3 k 3 false) w w' := by
 have hk : k < H.length := (List.getElem?_eq_some_iff.1 hx).1
 have kB : Keeps [] w ((w.alloc (.cells #[.int .i64 g] 3)).alloc (.cells #[.int .i64 by_] 3)) := (Sq.r.alloc _).alloc _
 have B0 := Lib.hid (show Blk ((w.alloc (.cells #[.int .i64 g] 3)).alloc (.cells #[.int .i64 by_] 3)) (w.heap.size) 3 #[.int .i64 g] from (Blk.new _ _ _).alloc _)
 have B1 := Lib.hid (show Blk ((w.alloc (.cells #[.int .i64 g] 3)).alloc (.cells #[.int .i64 by_] 3)) (w.heap.size + 1) 3 #[.int .i64 by_] from new_at _ _ _ (by simp))
 have QT := Lib.hid (there_yes ((w.alloc (.cells #[.int .i64 g] 3)).alloc (.cells #[.int .i64 by_] 3)) t mp H W (h.calm kB) k (by omega) (by omega))
 have QX := Lib.hid (trade_n ((w.alloc (.cells #[.int .i64 g] 3)).alloc (.cells #[.int .i64 by_] 3)) t mp H W (h.calm kB) lb s (hm.keeps kB (by simp)) hl k x hx (fun e => hnv (by rw [e]; rfl)) 136 137 #[.pointer (some ⟨w.heap.size,0,none⟩)] #[.pointer (some ⟨w.heap.size + 1,0,none⟩)] ⟨x.gen,x.state,x.stamp,x.thread,true,by_⟩ enter_doom1 enter_doom2
  (fun w' hk' => by simpa using doom1_no w' x _ g (((B0.out.keeps hk' (by simp)).cell 0).trans rfl) h0 h1) (fun w' hk' => by simpa using doom2_new w' x _ by_ (((B1.out.keeps hk' (by simp)).cell 0).trans rfl) hd))
 have KB := Lib.hid kB
 clear h hm hl hx kB
 go_enter Tryz.func88,Tryz.ntmps88
 go_wp2_with fail
 refine (sThread_yes _ by_ t1 t2).mono ?_
 rintro e wa ⟨rfl,rfl⟩
 go_wp2_with fail
 refine QT.out.mono ?_
 rintro e wb ⟨rfl,rfl⟩
 go_wp2_with fail
 refine QX.out.mono ?_
 rintro e w2 ⟨rfl,hT⟩
 have HT := Lib.hid hT
 clear hT QX QT
 go_wp2_with fail
 go_ret
 exact ⟨rfl,HT.out.wide KB.out (Sq.r.alloc _)⟩
set_option maxRecDepth 100000 in
theorem doom_not0 (w : World) (t : Tb) (mp : Option Nat) (H : List Hd) (W : List Int) (h : TabAt w t mp H W) (lb : Nat) (s : MS) (hm : MetAt MT w mp lb s) (hl : Room mp s) (k : Nat) (x : Hd) (hx : H[k]? = some x) (g by_ : Int) (t1 : 1 ≤ by_) (t2 : by_ ≤ 8) (hnv : x.gen ≠ -1) (h0 : ¬ x.state = 2) (hd : x.doomed = false) :
 Calls Tryz.prog 88 #[.pointer (some ⟨t.q,0,none⟩),.int .i64 k,.int .i64 g,.int .i64 by_] w fun e w' => e = .returned (.int .i64 4) ∧ TLeft t mp (H) W lb (s.note 3 k 3 false) w w' := by
 have hk : k < H.length := (List.getElem?_eq_some_iff.1 hx).1
 have kB : Keeps [] w ((w.alloc (.cells #[.int .i64 g] 3)).alloc (.cells #[.int .i64 by_] 3)) := (Sq.r.alloc _).alloc _
 have B0 := Lib.hid (show Blk ((w.alloc (.cells #[.int .i64 g] 3)).alloc (.cells #[.int .i64 by_] 3)) (w.heap.size) 3 #[.int .i64 g] from (Blk.new _ _ _).alloc _)
 have B1 := Lib.hid (show Blk ((w.alloc (.cells #[.int .i64 g] 3)).alloc (.cells #[.int .i64 by_] 3)) (w.heap.size + 1) 3 #[.int .i64 by_] from new_at _ _ _ (by simp))
 have QT := Lib.hid (there_yes ((w.alloc (.cells #[.int .i64 g] 3)).alloc (.cells #[.int .i64 by_] 3)) t mp H W (h.calm kB) k (by omega) (by omega))
 have QX := Lib.hid (trade_n ((w.alloc (.cells #[.int .i64 g] 3)).alloc (.cells #[.int .i64 by_] 3)) t mp H W (h.calm kB) lb s (hm.keeps kB (by simp)) hl k x hx (fun e => hnv (by rw [e]; rfl)) 136 137 #[.pointer (some ⟨w.heap.size,0,none⟩)] #[.pointer (some ⟨w.heap.size + 1,0,none⟩)] ⟨x.gen,x.state,x.stamp,x.thread,true,by_⟩ enter_doom1 enter_doom2
  (fun w' hk' => by simpa using doom1_not w' x _ g (((B0.out.keeps hk' (by simp)).cell 0).trans rfl) h0) (fun w' hk' => by simpa using doom2_new w' x _ by_ (((B1.out.keeps hk' (by simp)).cell 0).trans rfl) hd))
 have KB := Lib.hid kB
 clear h hm hl hx kB
 go_enter Tryz.func88,Tryz.ntmps88
 go_wp2_with fail
 refine (sThread_yes _ by_ t1 t2).mono ?_
 rintro e wa ⟨rfl,rfl⟩
 go_wp2_with fail
 refine QT.out.mono ?_
 rintro e wb ⟨rfl,rfl⟩
 go_wp2_with fail
 refine QX.out.mono ?_
 rintro e w2 ⟨rfl,hT⟩
 have HT := Lib.hid hT
 clear hT QX QT
 go_wp2_with fail
 go_ret
 exact ⟨rfl,HT.out.wide KB.out (Sq.r.alloc _)⟩
set_option maxRecDepth 100000 in
theorem doom_no1 (w : World) (t : Tb) (mp : Option Nat) (H : List Hd) (W : List Int) (h : TabAt w t mp H W) (lb : Nat) (s : MS) (hm : MetAt MT w mp lb s) (hl : Room mp s) (k : Nat) (x : Hd) (hx : H[k]? = some x) (g by_ : Int) (t1 : 1 ≤ by_) (t2 : by_ ≤ 8) (hnv : x.gen ≠ -1) (h0 : x.state = 2) (h1 : ¬ x.gen = g) (hd : x.doomed = true) :
 Calls Tryz.prog 88 #[.pointer (some ⟨t.q,0,none⟩),.int .i64 k,.int .i64 g,.int .i64 by_] w fun e w' => e = .returned (.int .i64 4) ∧ TLeft t mp (H) W lb (s.note 3 k 3 false) w w' := by
 have hk : k < H.length := (List.getElem?_eq_some_iff.1 hx).1
 have kB : Keeps [] w ((w.alloc (.cells #[.int .i64 g] 3)).alloc (.cells #[.int .i64 by_] 3)) := (Sq.r.alloc _).alloc _
 have B0 := Lib.hid (show Blk ((w.alloc (.cells #[.int .i64 g] 3)).alloc (.cells #[.int .i64 by_] 3)) (w.heap.size) 3 #[.int .i64 g] from (Blk.new _ _ _).alloc _)
 have B1 := Lib.hid (show Blk ((w.alloc (.cells #[.int .i64 g] 3)).alloc (.cells #[.int .i64 by_] 3)) (w.heap.size + 1) 3 #[.int .i64 by_] from new_at _ _ _ (by simp))
 have QT := Lib.hid (there_yes ((w.alloc (.cells #[.int .i64 g] 3)).alloc (.cells #[.int .i64 by_] 3)) t mp H W (h.calm kB) k (by omega) (by omega))
 have QX := Lib.hid (trade_n ((w.alloc (.cells #[.int .i64 g] 3)).alloc (.cells #[.int .i64 by_] 3)) t mp H W (h.calm kB) lb s (hm.keeps kB (by simp)) hl k x hx (fun e => hnv (by rw [e]; rfl)) 136 137 #[.pointer (some ⟨w.heap.size,0,none⟩)] #[.pointer (some ⟨w.heap.size + 1,0,none⟩)] x enter_doom1 enter_doom2
  (fun w' hk' => by simpa using doom1_no w' x _ g (((B0.out.keeps hk' (by simp)).cell 0).trans rfl) h0 h1) (fun w' hk' => by simpa using doom2_old w' x _ by_ (((B1.out.keeps hk' (by simp)).cell 0).trans rfl) hd))
 have KB := Lib.hid kB
 clear h hm hl hx kB
 go_enter Tryz.func88,Tryz.ntmps88
 go_wp2_with fail
 refine (sThread_yes _ by_ t1 t2).mono ?_
 rintro e wa ⟨rfl,rfl⟩
 go_wp2_with fail
 refine QT.out.mono ?_
 rintro e wb ⟨rfl,rfl⟩
 go_wp2_with fail
 refine QX.out.mono ?_
 rintro e w2 ⟨rfl,hT⟩
 have HT := Lib.hid hT
 clear hT QX QT
 go_wp2_with fail
 go_ret
 exact ⟨rfl,HT.out.wide KB.out (Sq.r.alloc _)⟩
set_option maxRecDepth 100000 in
theorem doom_not1 (w : World) (t : Tb) (mp : Option Nat) (H : List Hd) (W : List Int) (h : TabAt w t mp H W) (lb : Nat) (s : MS) (hm : MetAt MT w mp lb s) (hl : Room mp s) (k : Nat) (x : Hd) (hx : H[k]? = some x) (g by_ : Int) (t1 : 1 ≤ by_) (t2 : by_ ≤ 8) (hnv : x.gen ≠ -1) (h0 : ¬ x.state = 2) (hd : x.doomed = true) :
 Calls Tryz.prog 88 #[.pointer (some ⟨t.q,0,none⟩),.int .i64 k,.int .i64 g,.int .i64 by_] w fun e w' => e = .returned (.int .i64 4) ∧ TLeft t mp (H) W lb (s.note 3 k 3 false) w w' := by
 have hk : k < H.length := (List.getElem?_eq_some_iff.1 hx).1
 have kB : Keeps [] w ((w.alloc (.cells #[.int .i64 g] 3)).alloc (.cells #[.int .i64 by_] 3)) := (Sq.r.alloc _).alloc _
 have B0 := Lib.hid (show Blk ((w.alloc (.cells #[.int .i64 g] 3)).alloc (.cells #[.int .i64 by_] 3)) (w.heap.size) 3 #[.int .i64 g] from (Blk.new _ _ _).alloc _)
 have B1 := Lib.hid (show Blk ((w.alloc (.cells #[.int .i64 g] 3)).alloc (.cells #[.int .i64 by_] 3)) (w.heap.size + 1) 3 #[.int .i64 by_] from new_at _ _ _ (by simp))
 have QT := Lib.hid (there_yes ((w.alloc (.cells #[.int .i64 g] 3)).alloc (.cells #[.int .i64 by_] 3)) t mp H W (h.calm kB) k (by omega) (by omega))
 have QX := Lib.hid (trade_n ((w.alloc (.cells #[.int .i64 g] 3)).alloc (.cells #[.int .i64 by_] 3)) t mp H W (h.calm kB) lb s (hm.keeps kB (by simp)) hl k x hx (fun e => hnv (by rw [e]; rfl)) 136 137 #[.pointer (some ⟨w.heap.size,0,none⟩)] #[.pointer (some ⟨w.heap.size + 1,0,none⟩)] x enter_doom1 enter_doom2
  (fun w' hk' => by simpa using doom1_not w' x _ g (((B0.out.keeps hk' (by simp)).cell 0).trans rfl) h0) (fun w' hk' => by simpa using doom2_old w' x _ by_ (((B1.out.keeps hk' (by simp)).cell 0).trans rfl) hd))
 have KB := Lib.hid kB
 clear h hm hl hx kB
 go_enter Tryz.func88,Tryz.ntmps88
 go_wp2_with fail
 refine (sThread_yes _ by_ t1 t2).mono ?_
 rintro e wa ⟨rfl,rfl⟩
 go_wp2_with fail
 refine QT.out.mono ?_
 rintro e wb ⟨rfl,rfl⟩
 go_wp2_with fail
 refine QX.out.mono ?_
 rintro e w2 ⟨rfl,hT⟩
 have HT := Lib.hid hT
 clear hT QX QT
 go_wp2_with fail
 go_ret
 exact ⟨rfl,HT.out.wide KB.out (Sq.r.alloc _)⟩
theorem doom_bad (w : World) (q : Nat) (k : Int) (g by_ : Int) (ht : by_ < 1 ∨ 8 < by_) :
 Calls Tryz.prog 88 #[.pointer (some ⟨q,0,none⟩),.int .i64 k,.int .i64 g,.int .i64 by_] w fun e w' => e = .returned (.int .i64 1) ∧ Keeps [] w w' := by
 have kB : Keeps [] w ((w.alloc (.cells #[.int .i64 g] 3)).alloc (.cells #[.int .i64 by_] 3)) := (Sq.r.alloc _).alloc _
 have B0 := Lib.hid (show Blk ((w.alloc (.cells #[.int .i64 g] 3)).alloc (.cells #[.int .i64 by_] 3)) (w.heap.size) 3 #[.int .i64 g] from (Blk.new _ _ _).alloc _)
 have B1 := Lib.hid (show Blk ((w.alloc (.cells #[.int .i64 g] 3)).alloc (.cells #[.int .i64 by_] 3)) (w.heap.size + 1) 3 #[.int .i64 by_] from new_at _ _ _ (by simp))
 clear B0 B1
 have KB := Lib.hid kB
 clear kB
 have QT := Lib.hid (sThread_no ((w.alloc (.cells #[.int .i64 g] 3)).alloc (.cells #[.int .i64 by_] 3)) by_ ht)
 clear ht
 go_enter Tryz.func88,Tryz.ntmps88
 go_wp2_with fail
 refine QT.out.mono ?_
 rintro e wa ⟨rfl,rfl⟩
 go_wp2_with fail
 go_ret
 exact ⟨rfl,KB.out⟩
theorem doom_place (w : World) (t : Tb) (mp : Option Nat) (H : List Hd) (W : List Int) (h : TabAt w t mp H W) (k : Int) (hk : k < 0 ∨ (H.length : Int) ≤ k) (g by_ : Int) (t1 : 1 ≤ by_) (t2 : by_ ≤ 8) :
 Calls Tryz.prog 88 #[.pointer (some ⟨t.q,0,none⟩),.int .i64 k,.int .i64 g,.int .i64 by_] w fun e w' => e = .returned (.int .i64 2) ∧ Keeps [] w w' := by
 have kB : Keeps [] w ((w.alloc (.cells #[.int .i64 g] 3)).alloc (.cells #[.int .i64 by_] 3)) := (Sq.r.alloc _).alloc _
 have B0 := Lib.hid (show Blk ((w.alloc (.cells #[.int .i64 g] 3)).alloc (.cells #[.int .i64 by_] 3)) (w.heap.size) 3 #[.int .i64 g] from (Blk.new _ _ _).alloc _)
 have B1 := Lib.hid (show Blk ((w.alloc (.cells #[.int .i64 g] 3)).alloc (.cells #[.int .i64 by_] 3)) (w.heap.size + 1) 3 #[.int .i64 by_] from new_at _ _ _ (by simp))
 clear B0 B1
 have QT := Lib.hid (there_no ((w.alloc (.cells #[.int .i64 g] 3)).alloc (.cells #[.int .i64 by_] 3)) t mp H W (h.calm kB) k hk)
 have KB := Lib.hid kB
 clear h kB hk
 go_enter Tryz.func88,Tryz.ntmps88
 go_wp2_with fail
 refine (sThread_yes _ by_ t1 t2).mono ?_
 rintro e wa ⟨rfl,rfl⟩
 go_wp2_with fail
 refine QT.out.mono ?_
 rintro e wb ⟨rfl,rfl⟩
 go_wp2_with fail
 go_ret
 exact ⟨rfl,KB.out⟩
set_option maxRecDepth 100000 in
theorem free_ok (w : World) (t : Tb) (mp : Option Nat) (H : List Hd) (W : List Int) (h : TabAt w t mp H W) (lb : Nat) (s : MS) (hm : MetAt MT w mp lb s) (hl : Room mp s) (k : Nat) (x : Hd) (hx : H[k]? = some x) (g : Int)  (h0 : ¬ x.state = 0) (h1 : x.gen = g) :
 Calls Tryz.prog 27 #[.pointer (some ⟨t.q,0,none⟩),.int .i64 k,.int .i64 g] w fun e w' => e = .returned (.int .i64 0) ∧ TLeft t mp (H.set k ⟨x.gen,0,0,0,false,0⟩) W lb (s.note 3 k 3 true) w w' := by
 have hk : k < H.length := (List.getElem?_eq_some_iff.1 hx).1
 have kB : Keeps [] w (w.alloc (.cells #[.int .i64 g] 3)) := Sq.r.alloc _
 have B0 := Lib.hid (show Blk (w.alloc (.cells #[.int .i64 g] 3)) (w.heap.size) 3 #[.int .i64 g] from Blk.new _ _ _)
 have QT := Lib.hid (there_yes (w.alloc (.cells #[.int .i64 g] 3)) t mp H W (h.calm kB) k (by omega) (by omega))
 have QX := Lib.hid (trade_y (w.alloc (.cells #[.int .i64 g] 3)) t mp H W (h.calm kB) lb s (hm.keeps kB (by simp)) hl k x hx 100 101 #[.pointer (some ⟨w.heap.size,0,none⟩)] #[] ⟨x.gen,0,0,0,false,0⟩ enter_free1 enter_free2
  (fun w' hk' => by simpa using free1_yes w' x _ g (((B0.out.keeps hk' (by simp)).cell 0).trans rfl) h0 h1) (fun w' hk' => by simpa using free2 w' x))
 have KB := Lib.hid kB
 clear h hm hl hx kB
 go_enter Tryz.func27,Tryz.ntmps27
 go_wp2_with fail
 refine QT.out.mono ?_
 rintro e wb ⟨rfl,rfl⟩
 go_wp2_with fail
 refine QX.out.mono ?_
 rintro e w2 ⟨rfl,hT⟩
 have HT := Lib.hid hT
 clear hT QX QT
 go_wp2_with fail
 go_ret
 exact ⟨rfl,HT.out.wide KB.out (Sq.r.alloc _)⟩
set_option maxRecDepth 100000 in
theorem free_no (w : World) (t : Tb) (mp : Option Nat) (H : List Hd) (W : List Int) (h : TabAt w t mp H W) (lb : Nat) (s : MS) (hm : MetAt MT w mp lb s) (hl : Room mp s) (k : Nat) (x : Hd) (hx : H[k]? = some x) (g : Int)  (hnv : x.gen ≠ -1) (h0 : ¬ x.state = 0) (h1 : ¬ x.gen = g) :
 Calls Tryz.prog 27 #[.pointer (some ⟨t.q,0,none⟩),.int .i64 k,.int .i64 g] w fun e w' => e = .returned (.int .i64 4) ∧ TLeft t mp (H) W lb (s.note 3 k 3 false) w w' := by
 have hk : k < H.length := (List.getElem?_eq_some_iff.1 hx).1
 have kB : Keeps [] w (w.alloc (.cells #[.int .i64 g] 3)) := Sq.r.alloc _
 have B0 := Lib.hid (show Blk (w.alloc (.cells #[.int .i64 g] 3)) (w.heap.size) 3 #[.int .i64 g] from Blk.new _ _ _)
 have QT := Lib.hid (there_yes (w.alloc (.cells #[.int .i64 g] 3)) t mp H W (h.calm kB) k (by omega) (by omega))
 have QX := Lib.hid (trade_n (w.alloc (.cells #[.int .i64 g] 3)) t mp H W (h.calm kB) lb s (hm.keeps kB (by simp)) hl k x hx (fun e => hnv (by rw [e]; rfl)) 100 101 #[.pointer (some ⟨w.heap.size,0,none⟩)] #[] ⟨x.gen,0,0,0,false,0⟩ enter_free1 enter_free2
  (fun w' hk' => by simpa using free1_no w' x _ g (((B0.out.keeps hk' (by simp)).cell 0).trans rfl) h0 h1) (fun w' hk' => by simpa using free2 w' x))
 have KB := Lib.hid kB
 clear h hm hl hx kB
 go_enter Tryz.func27,Tryz.ntmps27
 go_wp2_with fail
 refine QT.out.mono ?_
 rintro e wb ⟨rfl,rfl⟩
 go_wp2_with fail
 refine QX.out.mono ?_
 rintro e w2 ⟨rfl,hT⟩
 have HT := Lib.hid hT
 clear hT QX QT
 go_wp2_with fail
 go_ret
 exact ⟨rfl,HT.out.wide KB.out (Sq.r.alloc _)⟩
set_option maxRecDepth 100000 in
theorem free_not (w : World) (t : Tb) (mp : Option Nat) (H : List Hd) (W : List Int) (h : TabAt w t mp H W) (lb : Nat) (s : MS) (hm : MetAt MT w mp lb s) (hl : Room mp s) (k : Nat) (x : Hd) (hx : H[k]? = some x) (g : Int)  (hnv : x.gen ≠ -1) (h0 : x.state = 0) :
 Calls Tryz.prog 27 #[.pointer (some ⟨t.q,0,none⟩),.int .i64 k,.int .i64 g] w fun e w' => e = .returned (.int .i64 4) ∧ TLeft t mp (H) W lb (s.note 3 k 3 false) w w' := by
 have hk : k < H.length := (List.getElem?_eq_some_iff.1 hx).1
 have kB : Keeps [] w (w.alloc (.cells #[.int .i64 g] 3)) := Sq.r.alloc _
 have B0 := Lib.hid (show Blk (w.alloc (.cells #[.int .i64 g] 3)) (w.heap.size) 3 #[.int .i64 g] from Blk.new _ _ _)
 have QT := Lib.hid (there_yes (w.alloc (.cells #[.int .i64 g] 3)) t mp H W (h.calm kB) k (by omega) (by omega))
 have QX := Lib.hid (trade_n (w.alloc (.cells #[.int .i64 g] 3)) t mp H W (h.calm kB) lb s (hm.keeps kB (by simp)) hl k x hx (fun e => hnv (by rw [e]; rfl)) 100 101 #[.pointer (some ⟨w.heap.size,0,none⟩)] #[] ⟨x.gen,0,0,0,false,0⟩ enter_free1 enter_free2
  (fun w' hk' => by simpa using free1_not w' x _ g (((B0.out.keeps hk' (by simp)).cell 0).trans rfl) h0) (fun w' hk' => by simpa using free2 w' x))
 have KB := Lib.hid kB
 clear h hm hl hx kB
 go_enter Tryz.func27,Tryz.ntmps27
 go_wp2_with fail
 refine QT.out.mono ?_
 rintro e wb ⟨rfl,rfl⟩
 go_wp2_with fail
 refine QX.out.mono ?_
 rintro e w2 ⟨rfl,hT⟩
 have HT := Lib.hid hT
 clear hT QX QT
 go_wp2_with fail
 go_ret
 exact ⟨rfl,HT.out.wide KB.out (Sq.r.alloc _)⟩
theorem free_place (w : World) (t : Tb) (mp : Option Nat) (H : List Hd) (W : List Int) (h : TabAt w t mp H W) (k : Int) (hk : k < 0 ∨ (H.length : Int) ≤ k) (g : Int)  :
 Calls Tryz.prog 27 #[.pointer (some ⟨t.q,0,none⟩),.int .i64 k,.int .i64 g] w fun e w' => e = .returned (.int .i64 2) ∧ Keeps [] w w' := by
 have kB : Keeps [] w (w.alloc (.cells #[.int .i64 g] 3)) := Sq.r.alloc _
 have B0 := Lib.hid (show Blk (w.alloc (.cells #[.int .i64 g] 3)) (w.heap.size) 3 #[.int .i64 g] from Blk.new _ _ _)
 clear B0
 have QT := Lib.hid (there_no (w.alloc (.cells #[.int .i64 g] 3)) t mp H W (h.calm kB) k hk)
 have KB := Lib.hid kB
 clear h kB hk
 go_enter Tryz.func27,Tryz.ntmps27
 go_wp2_with fail
 refine QT.out.mono ?_
 rintro e wb ⟨rfl,rfl⟩
 go_wp2_with fail
 go_ret
 exact ⟨rfl,KB.out⟩
end Go.Proofs.YtmlnedilbneekaaGreat