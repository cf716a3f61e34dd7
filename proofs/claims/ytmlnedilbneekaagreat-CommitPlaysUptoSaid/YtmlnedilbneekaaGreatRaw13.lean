/- quashlaw13.raw: a raw step over a space and the document's: the same answers, the same ends. -/
import Derived.Test.YtmlnedilbneekaaGreatRawF
import Derived.Deep.RegionHeld3
import Derived.Deep.QuietTactic
import Derived.BigQuiet
import Derived.Test.YtmlnedilbneekaaGreatMake
set_option linter.unusedVariables false
set_option linter.unusedSimpArgs false
namespace Go.Proofs.YtmlnedilbneekaaGreat
open Go.RowKit
namespace Raw13
section
variable {w0 w w' : World} {z : Sb} {F : List Nat} {y : Rb} {G : List Nat} {S : Sp} {k : Nat}
set_option maxRecDepth 100000 in
set_option maxHeartbeats 4000000 in
theorem store_any (h : Two w0 w z F y G S S) (hf : Fit k S) (hk : k ≤ 1099511627776) (m i n x : Int) (q0 q1 q2 q3 : Int) (q4 : Value) :
 Calls Tryz.prog 21 #[PT z.p,PT y.p,.agg #[.int .i64 3,.int .i64 m,.int .i64 i,.int .i64 n,.int .i64 x,.int .i64 q0,.int .i64 q1,.int .i64 q2,.int .i64 q3,q4]] w fun e w' => e = .returned (.bool true) ∧ TwoWent w0 w w' z F y G (S.store i x).2 := by
 have kB : Keeps [] w (w.alloc (.cells #[.int .i64 3,.int .i64 m,.int .i64 i,.int .i64 n,.int .i64 x,.int .i64 q0,.int .i64 q1,.int .i64 q2,.int .i64 q3,q4] 71)) := Sq.r.alloc _
 have hB := h.calm kB
 have bb := Blk.new w 71 #[.int .i64 3,.int .i64 m,.int .i64 i,.int .i64 n,.int .i64 x,.int .i64 q0,.int .i64 q1,.int .i64 q2,.int .i64 q3,q4]
 obtain ⟨wB,hwB⟩ : ∃ v,w.alloc (.cells #[.int .i64 3,.int .i64 m,.int .i64 i,.int .i64 n,.int .i64 x,.int .i64 q0,.int .i64 q1,.int .i64 q2,.int .i64 q3,q4] 71) = v := ⟨_,rfl⟩
 rw [hwB] at kB hB bb
 have hp := fun w' (hk' : Keeps [] wB w') => sp_store (hB.sp.calm hk') hf hk i x
 have hd := fun (w2 : World) (F' : List Nat) (S' : Sp) (h2 : Two w0 w2 z F' y G S' S) w' (hk' : Keeps [] w2 w') => rp_store (h2.rp.calm hk') hf hk i x
 obtain ⟨re,hre⟩ : ∃ v,(S.store i x).1 = v := ⟨_,rfl⟩
 obtain ⟨S',hS'⟩ : ∃ v,(S.store i x).2 = v := ⟨_,rfl⟩
 simp only [hre,hS'] at hp hd ⊢
 clear hre hS'
 have QP : Hid (∀ w' vv,Keeps [] wB w' → vv = #[PT z.p,.int .i64 i,.int .i64 x] → Calls Tryz.prog 80 vv w' fun e w'' => e = .returned (.int .i64 re) ∧ Went w0 wB w'' z F S') := fun w' vv hk' hv => hv ▸ (hp w' hk').mono fun e w'' ⟨he,hw⟩ => ⟨he,hw.pre hk'⟩
 have QD : Hid (∀ (w2 : World) (F' : List Nat),Two w0 w2 z F' y G S' S → ∀ w' vv,Keeps [] w2 w' → vv = #[PT y.r,.int .i64 i,.int .i64 x] → Calls Tryz.prog 81 vv w' fun e w'' => e = .returned (.int .i64 re) ∧ RWent w0 w2 w'' y G S') := fun w2 F' h2 w' vv hk' hv => hv ▸ (hd w2 F' S' h2 w' hk').mono fun e w'' ⟨he,hw⟩ => ⟨he,RWent.pre hk' hw⟩
 have HC := Lib.hid (show ∀ w',Keeps [] wB w' → w'.cell? ⟨w.heap.size,2,none⟩ = some (.int .i64 i) ∧ w'.cell? ⟨w.heap.size,4,none⟩ = some (.int .i64 x) from fun w' hk => ⟨((bb.keeps hk (by simp)).cell 2).trans rfl,((bb.keeps hk (by simp)).cell 4).trans rfl⟩)
 have hoff : w.heap.size ∉ F := fun hx => by have := h.sp.lt _ hx; omega
 have hoffG : w.heap.size ∉ G := fun hx => by have := h.rp.lt _ hx; omega
 have hkB : Keeps [] wB wB := Keeps.refl _ _
 have b0 : wB.cell? ⟨w.heap.size,0,none⟩ = some (.int .i64 3) := (bb.cell 0).trans rfl
 have b2 : wB.cell? ⟨w.heap.size,2,none⟩ = some (.int .i64 i) := (bb.cell 2).trans rfl
 have b4 : wB.cell? ⟨w.heap.size,4,none⟩ = some (.int .i64 x) := (bb.cell 4).trans rfl
 have HB := Lib.hid (And.intro hB (And.intro kB (And.intro bb (And.intro hoff hoffG))))
 clear h hf hk hp hd hB kB bb hoff hoffG
 go_enter Tryz.func21,Tryz.ntmps21
 go_wp2_with fail
 try rw [hwB]
 clear hwB
 refine (QP.out _ _ Sq.r rfl).mono ?_
 rintro e wd ⟨rfl,hW⟩
 have HW := Lib.hid hW
 clear hW
 all_goals
  obtain ⟨F',hT,hk1,hn1⟩ := HB.out.1.left HW.out
  have bd := HB.out.2.2.1.keeps hk1 HB.out.2.2.2.1
  have HBD := Lib.hid bd
  have HT := Lib.hid hT
  have HK := Lib.hid (And.intro hk1 hn1)
  have HD := Lib.hid (show ∀ w',Keeps [] wd w' → w'.cell? ⟨y.p,7,none⟩ = some (PT y.r) ∧ w'.cell? ⟨w.heap.size,2,none⟩ = some (.int .i64 i) ∧ w'.cell? ⟨w.heap.size,4,none⟩ = some (.int .i64 x) from fun w' hk => ⟨(hT.rp.calm hk).cells.2.2.2.2.1,((bd.keeps hk (by simp)).cell 2).trans rfl,((bd.keeps hk (by simp)).cell 4).trans rfl⟩)
  have hkD : Keeps [] wd wd := Keeps.refl _ _
  clear hT hk1 hn1 bd hkB
  go_wp2_with fail
  go_region_held3 (fun w' => w'.cell? ⟨y.p,7,none⟩ = some (PT y.r) ∧ w'.cell? ⟨w.heap.size,2,none⟩ = some (.int .i64 i) ∧ w'.cell? ⟨w.heap.size,4,none⟩ = some (.int .i64 x)) (first | with_reducible exact HD.out _ Sq.kp | with_reducible exact HDF | go_keep) (((go_at_call 81; (with_reducible refine (QD.out _ _ HT.out _ _ Sq.kp (by first | with_reducible rfl | rfl)).mono ?_); rintro e wf ⟨rfl,hR⟩; obtain ⟨_,hR1,hkq,_⟩ := id hR; have be := HBD.out.keeps hkq HB.out.2.2.2.2; have HDF : wf.cell? ⟨y.p,7,none⟩ = some (PT y.r) ∧ wf.cell? ⟨w.heap.size,2,none⟩ = some (.int .i64 i) ∧ wf.cell? ⟨w.heap.size,4,none⟩ = some (.int .i64 x) := ⟨hR1.cells.2.2.2.2.1,(be.cell 2).trans rfl,(be.cell 4).trans rfl⟩; clear hR1 hkq be; have HR := Lib.hid hR; clear hR)))
  all_goals
   go_wp2_with fail
   go_ret
   exact ⟨rfl,Two.both HB.out.2.1 HK.out.1 HK.out.2 HT.out HR.out⟩
set_option maxRecDepth 100000 in
set_option maxHeartbeats 4000000 in
theorem take_any (h : Two w0 w z F y G S S) (hf : Fit k S) (hk : k ≤ 1099511627776) (m i n x : Int) (q0 q1 q2 q3 : Int) (q4 : Value) :
 Calls Tryz.prog 21 #[PT z.p,PT y.p,.agg #[.int .i64 5,.int .i64 m,.int .i64 i,.int .i64 n,.int .i64 x,.int .i64 q0,.int .i64 q1,.int .i64 q2,.int .i64 q3,q4]] w fun e w' => e = .returned (.bool true) ∧ TwoWent w0 w w' z F y G (S.take i).2 := by
 have kB : Keeps [] w (w.alloc (.cells #[.int .i64 5,.int .i64 m,.int .i64 i,.int .i64 n,.int .i64 x,.int .i64 q0,.int .i64 q1,.int .i64 q2,.int .i64 q3,q4] 71)) := Sq.r.alloc _
 have hB := h.calm kB
 have bb := Blk.new w 71 #[.int .i64 5,.int .i64 m,.int .i64 i,.int .i64 n,.int .i64 x,.int .i64 q0,.int .i64 q1,.int .i64 q2,.int .i64 q3,q4]
 obtain ⟨wB,hwB⟩ : ∃ v,w.alloc (.cells #[.int .i64 5,.int .i64 m,.int .i64 i,.int .i64 n,.int .i64 x,.int .i64 q0,.int .i64 q1,.int .i64 q2,.int .i64 q3,q4] 71) = v := ⟨_,rfl⟩
 rw [hwB] at kB hB bb
 have hp := fun w' (hk' : Keeps [] wB w') => sp_take (hB.sp.calm hk') hf hk i
 have hd := fun (w2 : World) (F' : List Nat) (S' : Sp) (h2 : Two w0 w2 z F' y G S' S) w' (hk' : Keeps [] w2 w') => rp_take (h2.rp.calm hk') hf hk i
 obtain ⟨ra,hra⟩ : ∃ v,(S.take i).1.1 = v := ⟨_,rfl⟩
 obtain ⟨re,hre⟩ : ∃ v,(S.take i).1.2 = v := ⟨_,rfl⟩
 obtain ⟨S',hS'⟩ : ∃ v,(S.take i).2 = v := ⟨_,rfl⟩
 simp only [hra,hre,hS'] at hp hd ⊢
 clear hra hre hS'
 have QP : Hid (∀ w' vv,Keeps [] wB w' → vv = #[PT z.q,.int .i64 i] → Calls Tryz.prog 83 vv w' fun e w'' => e = .returned (.tuple #[.int .i64 ra,.int .i64 re]) ∧ Went w0 wB w'' z F S') := fun w' vv hk' hv => hv ▸ (hp w' hk').mono fun e w'' ⟨he,hw⟩ => ⟨he,hw.pre hk'⟩
 have QD : Hid (∀ (w2 : World) (F' : List Nat),Two w0 w2 z F' y G S' S → ∀ w' vv,Keeps [] w2 w' → vv = #[PT y.g,.int .i64 i] → Calls Tryz.prog 84 vv w' fun e w'' => e = .returned (.tuple #[.int .i64 ra,.int .i64 re]) ∧ RWent w0 w2 w'' y G S') := fun w2 F' h2 w' vv hk' hv => hv ▸ (hd w2 F' S' h2 w' hk').mono fun e w'' ⟨he,hw⟩ => ⟨he,RWent.pre hk' hw⟩
 have QA := Lib.hid (fun w' (hk : Keeps [] wB w') => gate_held hB.sp hk)
 have HC := Lib.hid (show ∀ w',Keeps [] wB w' → w'.cell? ⟨w.heap.size,2,none⟩ = some (.int .i64 i) from fun w' hk => ((bb.keeps hk (by simp)).cell 2).trans rfl)
 have hoff : w.heap.size ∉ F := fun hx => by have := h.sp.lt _ hx; omega
 have hoffG : w.heap.size ∉ G := fun hx => by have := h.rp.lt _ hx; omega
 have hkB : Keeps [] wB wB := Keeps.refl _ _
 have b0 : wB.cell? ⟨w.heap.size,0,none⟩ = some (.int .i64 5) := (bb.cell 0).trans rfl
 have b2 : wB.cell? ⟨w.heap.size,2,none⟩ = some (.int .i64 i) := (bb.cell 2).trans rfl
 have b4 : wB.cell? ⟨w.heap.size,4,none⟩ = some (.int .i64 x) := (bb.cell 4).trans rfl
 have HB := Lib.hid (And.intro hB (And.intro kB (And.intro bb (And.intro hoff hoffG))))
 clear h hf hk hp hd hB kB bb hoff hoffG
 go_enter Tryz.func21,Tryz.ntmps21
 go_wp2_with fail
 try rw [hwB]
 clear hwB
 go_region_held3 (fun w' => w'.cell? ⟨w.heap.size,2,none⟩ = some (.int .i64 i)) (first | with_reducible exact HC.out _ Sq.kp | with_reducible exact HDC | go_keep) ((first
  | (go_at_call 82; (with_reducible refine (QA.out _ Sq.kp).mono ?_); rintro e wc ⟨rfl,hkc⟩)
  | (go_at_call 83; (with_reducible refine (QP.out _ _ Sq.kp (by first | with_reducible rfl | rfl)).mono ?_); rintro e wd ⟨rfl,hW⟩; obtain ⟨_,_,hkq,_⟩ := id hW; have bd := HB.out.2.2.1.keeps hkq HB.out.2.2.2.1; have HDC : wd.cell? ⟨w.heap.size,2,none⟩ = some (.int .i64 i) := (bd.cell 2).trans rfl; clear hkq bd; have HW := Lib.hid hW; clear hW)))
 all_goals
  obtain ⟨F',hT,hk1,hn1⟩ := HB.out.1.left HW.out
  have bd := HB.out.2.2.1.keeps hk1 HB.out.2.2.2.1
  have HBD := Lib.hid bd
  have HT := Lib.hid hT
  have HK := Lib.hid (And.intro hk1 hn1)
  have HD := Lib.hid (show ∀ w',Keeps [] wd w' → w'.cell? ⟨y.p,8,none⟩ = some (PT y.g) ∧ w'.cell? ⟨w.heap.size,2,none⟩ = some (.int .i64 i) from fun w' hk => ⟨(hT.rp.calm hk).cells.2.2.2.2.2.1,((bd.keeps hk (by simp)).cell 2).trans rfl⟩)
  have hkD : Keeps [] wd wd := Keeps.refl _ _
  clear hT hk1 hn1 bd hkB
  go_wp2_with fail
  go_region_held3 (fun w' => w'.cell? ⟨y.p,8,none⟩ = some (PT y.g) ∧ w'.cell? ⟨w.heap.size,2,none⟩ = some (.int .i64 i)) (first | with_reducible exact HD.out _ Sq.kp | with_reducible exact HDF | go_keep) (((go_at_call 84; (with_reducible refine (QD.out _ _ HT.out _ _ Sq.kp (by first | with_reducible rfl | rfl)).mono ?_); rintro e wf ⟨rfl,hR⟩; obtain ⟨_,hR1,hkq,_⟩ := id hR; have be := HBD.out.keeps hkq HB.out.2.2.2.2; have HDF : wf.cell? ⟨y.p,8,none⟩ = some (PT y.g) ∧ wf.cell? ⟨w.heap.size,2,none⟩ = some (.int .i64 i) := ⟨hR1.cells.2.2.2.2.2.1,(be.cell 2).trans rfl⟩; clear hR1 hkq be; have HR := Lib.hid hR; clear hR)))
  all_goals
   go_wp2_with fail
   go_ret
   exact ⟨rfl,Two.both HB.out.2.1 HK.out.1 HK.out.2 HT.out HR.out⟩
set_option maxRecDepth 100000 in
set_option maxHeartbeats 4000000 in
theorem give_any (h : Two w0 w z F y G S S) (hf : Fit k S) (hk : k ≤ 1099511627776) (m i n x : Int) (q0 q1 q2 q3 : Int) (q4 : Value) :
 Calls Tryz.prog 21 #[PT z.p,PT y.p,.agg #[.int .i64 6,.int .i64 m,.int .i64 i,.int .i64 n,.int .i64 x,.int .i64 q0,.int .i64 q1,.int .i64 q2,.int .i64 q3,q4]] w fun e w' => e = .returned (.bool true) ∧ TwoWent w0 w w' z F y G (S.give i).2 := by
 have kB : Keeps [] w (w.alloc (.cells #[.int .i64 6,.int .i64 m,.int .i64 i,.int .i64 n,.int .i64 x,.int .i64 q0,.int .i64 q1,.int .i64 q2,.int .i64 q3,q4] 71)) := Sq.r.alloc _
 have hB := h.calm kB
 have bb := Blk.new w 71 #[.int .i64 6,.int .i64 m,.int .i64 i,.int .i64 n,.int .i64 x,.int .i64 q0,.int .i64 q1,.int .i64 q2,.int .i64 q3,q4]
 obtain ⟨wB,hwB⟩ : ∃ v,w.alloc (.cells #[.int .i64 6,.int .i64 m,.int .i64 i,.int .i64 n,.int .i64 x,.int .i64 q0,.int .i64 q1,.int .i64 q2,.int .i64 q3,q4] 71) = v := ⟨_,rfl⟩
 rw [hwB] at kB hB bb
 have hp := fun w' (hk' : Keeps [] wB w') => sp_give (hB.sp.calm hk') hf hk i
 have hd := fun (w2 : World) (F' : List Nat) (S' : Sp) (h2 : Two w0 w2 z F' y G S' S) w' (hk' : Keeps [] w2 w') => rp_give (h2.rp.calm hk') hf hk i
 obtain ⟨re,hre⟩ : ∃ v,(S.give i).1 = v := ⟨_,rfl⟩
 obtain ⟨S',hS'⟩ : ∃ v,(S.give i).2 = v := ⟨_,rfl⟩
 simp only [hre,hS'] at hp hd ⊢
 clear hre hS'
 have QP : Hid (∀ w' vv,Keeps [] wB w' → vv = #[PT z.q,.int .i64 i] → Calls Tryz.prog 85 vv w' fun e w'' => e = .returned (.int .i64 re) ∧ Went w0 wB w'' z F S') := fun w' vv hk' hv => hv ▸ (hp w' hk').mono fun e w'' ⟨he,hw⟩ => ⟨he,hw.pre hk'⟩
 have QD : Hid (∀ (w2 : World) (F' : List Nat),Two w0 w2 z F' y G S' S → ∀ w' vv,Keeps [] w2 w' → vv = #[PT y.g,.int .i64 i] → Calls Tryz.prog 77 vv w' fun e w'' => e = .returned (.int .i64 re) ∧ RWent w0 w2 w'' y G S') := fun w2 F' h2 w' vv hk' hv => hv ▸ (hd w2 F' S' h2 w' hk').mono fun e w'' ⟨he,hw⟩ => ⟨he,RWent.pre hk' hw⟩
 have QA := Lib.hid (fun w' (hk : Keeps [] wB w') => gate_held hB.sp hk)
 have HC := Lib.hid (show ∀ w',Keeps [] wB w' → w'.cell? ⟨w.heap.size,2,none⟩ = some (.int .i64 i) from fun w' hk => ((bb.keeps hk (by simp)).cell 2).trans rfl)
 have hoff : w.heap.size ∉ F := fun hx => by have := h.sp.lt _ hx; omega
 have hoffG : w.heap.size ∉ G := fun hx => by have := h.rp.lt _ hx; omega
 have hkB : Keeps [] wB wB := Keeps.refl _ _
 have b0 : wB.cell? ⟨w.heap.size,0,none⟩ = some (.int .i64 6) := (bb.cell 0).trans rfl
 have b2 : wB.cell? ⟨w.heap.size,2,none⟩ = some (.int .i64 i) := (bb.cell 2).trans rfl
 have b4 : wB.cell? ⟨w.heap.size,4,none⟩ = some (.int .i64 x) := (bb.cell 4).trans rfl
 have HB := Lib.hid (And.intro hB (And.intro kB (And.intro bb (And.intro hoff hoffG))))
 clear h hf hk hp hd hB kB bb hoff hoffG
 go_enter Tryz.func21,Tryz.ntmps21
 go_wp2_with fail
 try rw [hwB]
 clear hwB
 go_region_held3 (fun w' => w'.cell? ⟨w.heap.size,2,none⟩ = some (.int .i64 i)) (first | with_reducible exact HC.out _ Sq.kp | with_reducible exact HDC | go_keep) ((first
  | (go_at_call 82; (with_reducible refine (QA.out _ Sq.kp).mono ?_); rintro e wc ⟨rfl,hkc⟩)
  | (go_at_call 85; (with_reducible refine (QP.out _ _ Sq.kp (by first | with_reducible rfl | rfl)).mono ?_); rintro e wd ⟨rfl,hW⟩; obtain ⟨_,_,hkq,_⟩ := id hW; have bd := HB.out.2.2.1.keeps hkq HB.out.2.2.2.1; have HDC : wd.cell? ⟨w.heap.size,2,none⟩ = some (.int .i64 i) := (bd.cell 2).trans rfl; clear hkq bd; have HW := Lib.hid hW; clear hW)))
 all_goals
  obtain ⟨F',hT,hk1,hn1⟩ := HB.out.1.left HW.out
  have bd := HB.out.2.2.1.keeps hk1 HB.out.2.2.2.1
  have HBD := Lib.hid bd
  have HT := Lib.hid hT
  have HK := Lib.hid (And.intro hk1 hn1)
  have HD := Lib.hid (show ∀ w',Keeps [] wd w' → w'.cell? ⟨y.p,8,none⟩ = some (PT y.g) ∧ w'.cell? ⟨w.heap.size,2,none⟩ = some (.int .i64 i) from fun w' hk => ⟨(hT.rp.calm hk).cells.2.2.2.2.2.1,((bd.keeps hk (by simp)).cell 2).trans rfl⟩)
  have hkD : Keeps [] wd wd := Keeps.refl _ _
  clear hT hk1 hn1 bd hkB
  go_wp2_with fail
  go_region_held3 (fun w' => w'.cell? ⟨y.p,8,none⟩ = some (PT y.g) ∧ w'.cell? ⟨w.heap.size,2,none⟩ = some (.int .i64 i)) (first | with_reducible exact HD.out _ Sq.kp | with_reducible exact HDF | go_keep) (((go_at_call 77; (with_reducible refine (QD.out _ _ HT.out _ _ Sq.kp (by first | with_reducible rfl | rfl)).mono ?_); rintro e wf ⟨rfl,hR⟩; obtain ⟨_,hR1,hkq,_⟩ := id hR; have be := HBD.out.keeps hkq HB.out.2.2.2.2; have HDF : wf.cell? ⟨y.p,8,none⟩ = some (PT y.g) ∧ wf.cell? ⟨w.heap.size,2,none⟩ = some (.int .i64 i) := ⟨hR1.cells.2.2.2.2.2.1,(be.cell 2).trans rfl⟩; clear hR1 hkq be; have HR := Lib.hid hR; clear hR)))
  all_goals
   go_wp2_with fail
   go_ret
   exact ⟨rfl,Two.both HB.out.2.1 HK.out.1 HK.out.2 HT.out HR.out⟩
set_option maxRecDepth 100000 in
set_option maxHeartbeats 4000000 in
theorem claim_any (h : Two w0 w z F y G S S) (hf : Fit k S) (hk : k ≤ 1099511627776) (m i n x : Int) (q0 q1 q2 q3 : Int) (q4 : Value) :
 Calls Tryz.prog 21 #[PT z.p,PT y.p,.agg #[.int .i64 7,.int .i64 m,.int .i64 i,.int .i64 n,.int .i64 x,.int .i64 q0,.int .i64 q1,.int .i64 q2,.int .i64 q3,q4]] w fun e w' => e = .returned (.bool true) ∧ TwoWent w0 w w' z F y G (S.claim i n).2 := by
 have kB : Keeps [] w (w.alloc (.cells #[.int .i64 7,.int .i64 m,.int .i64 i,.int .i64 n,.int .i64 x,.int .i64 q0,.int .i64 q1,.int .i64 q2,.int .i64 q3,q4] 71)) := Sq.r.alloc _
 have hB := h.calm kB
 have bb := Blk.new w 71 #[.int .i64 7,.int .i64 m,.int .i64 i,.int .i64 n,.int .i64 x,.int .i64 q0,.int .i64 q1,.int .i64 q2,.int .i64 q3,q4]
 obtain ⟨wB,hwB⟩ : ∃ v,w.alloc (.cells #[.int .i64 7,.int .i64 m,.int .i64 i,.int .i64 n,.int .i64 x,.int .i64 q0,.int .i64 q1,.int .i64 q2,.int .i64 q3,q4] 71) = v := ⟨_,rfl⟩
 rw [hwB] at kB hB bb
 have hp := fun w' (hk' : Keeps [] wB w') => sp_claim (hB.sp.calm hk') hf hk i n
 have hd := fun (w2 : World) (F' : List Nat) (S' : Sp) (h2 : Two w0 w2 z F' y G S' S) w' (hk' : Keeps [] w2 w') => rp_claim (h2.rp.calm hk') hf hk i n
 obtain ⟨ra,hra⟩ : ∃ v,(S.claim i n).1.1 = v := ⟨_,rfl⟩
 obtain ⟨re,hre⟩ : ∃ v,(S.claim i n).1.2 = v := ⟨_,rfl⟩
 obtain ⟨S',hS'⟩ : ∃ v,(S.claim i n).2 = v := ⟨_,rfl⟩
 simp only [hra,hre,hS'] at hp hd ⊢
 clear hra hre hS'
 have QP : Hid (∀ w' vv,Keeps [] wB w' → vv = #[PT z.t.q,.int .i64 i,.int .i64 n] → Calls Tryz.prog 26 vv w' fun e w'' => e = .returned (.tuple #[.int .i64 ra,.int .i64 re]) ∧ Went w0 wB w'' z F S') := fun w' vv hk' hv => hv ▸ (hp w' hk').mono fun e w'' ⟨he,hw⟩ => ⟨he,hw.pre hk'⟩
 have QD : Hid (∀ (w2 : World) (F' : List Nat),Two w0 w2 z F' y G S' S → ∀ w' vv,Keeps [] w2 w' → vv = #[PT y.t,.int .i64 i,.int .i64 n] → Calls Tryz.prog 86 vv w' fun e w'' => e = .returned (.tuple #[.int .i64 ra,.int .i64 re]) ∧ RWent w0 w2 w'' y G S') := fun w2 F' h2 w' vv hk' hv => hv ▸ (hd w2 F' S' h2 w' hk').mono fun e w'' ⟨he,hw⟩ => ⟨he,RWent.pre hk' hw⟩
 have QA := Lib.hid (fun w' (hk : Keeps [] wB w') => slots_held hB.sp hk)
 have HC := Lib.hid (show ∀ w',Keeps [] wB w' → w'.cell? ⟨w.heap.size,2,none⟩ = some (.int .i64 i) ∧ w'.cell? ⟨w.heap.size,3,none⟩ = some (.int .i64 n) from fun w' hk => ⟨((bb.keeps hk (by simp)).cell 2).trans rfl,((bb.keeps hk (by simp)).cell 3).trans rfl⟩)
 have hoff : w.heap.size ∉ F := fun hx => by have := h.sp.lt _ hx; omega
 have hoffG : w.heap.size ∉ G := fun hx => by have := h.rp.lt _ hx; omega
 have hkB : Keeps [] wB wB := Keeps.refl _ _
 have b0 : wB.cell? ⟨w.heap.size,0,none⟩ = some (.int .i64 7) := (bb.cell 0).trans rfl
 have b2 : wB.cell? ⟨w.heap.size,2,none⟩ = some (.int .i64 i) := (bb.cell 2).trans rfl
 have b4 : wB.cell? ⟨w.heap.size,4,none⟩ = some (.int .i64 x) := (bb.cell 4).trans rfl
 have HB := Lib.hid (And.intro hB (And.intro kB (And.intro bb (And.intro hoff hoffG))))
 clear h hf hk hp hd hB kB bb hoff hoffG
 go_enter Tryz.func21,Tryz.ntmps21
 go_wp2_with fail
 try rw [hwB]
 clear hwB
 go_region_held3 (fun w' => w'.cell? ⟨w.heap.size,2,none⟩ = some (.int .i64 i) ∧ w'.cell? ⟨w.heap.size,3,none⟩ = some (.int .i64 n)) (first | with_reducible exact HC.out _ Sq.kp | with_reducible exact HDC | go_keep) ((first
  | (go_at_call 25; (with_reducible refine (QA.out _ Sq.kp).mono ?_); rintro e wc ⟨rfl,hkc⟩)
  | (go_at_call 26; (with_reducible refine (QP.out _ _ Sq.kp (by first | with_reducible rfl | rfl)).mono ?_); rintro e wd ⟨rfl,hW⟩; obtain ⟨_,_,hkq,_⟩ := id hW; have bd := HB.out.2.2.1.keeps hkq HB.out.2.2.2.1; have HDC : wd.cell? ⟨w.heap.size,2,none⟩ = some (.int .i64 i) ∧ wd.cell? ⟨w.heap.size,3,none⟩ = some (.int .i64 n) := ⟨(bd.cell 2).trans rfl,(bd.cell 3).trans rfl⟩; clear hkq bd; have HW := Lib.hid hW; clear hW)))
 all_goals
  obtain ⟨F',hT,hk1,hn1⟩ := HB.out.1.left HW.out
  have bd := HB.out.2.2.1.keeps hk1 HB.out.2.2.2.1
  have HBD := Lib.hid bd
  have HT := Lib.hid hT
  have HK := Lib.hid (And.intro hk1 hn1)
  have HD := Lib.hid (show ∀ w',Keeps [] wd w' → w'.cell? ⟨y.p,9,none⟩ = some (PT y.t) ∧ w'.cell? ⟨w.heap.size,2,none⟩ = some (.int .i64 i) ∧ w'.cell? ⟨w.heap.size,3,none⟩ = some (.int .i64 n) from fun w' hk => ⟨(hT.rp.calm hk).cells.2.2.2.2.2.2,((bd.keeps hk (by simp)).cell 2).trans rfl,((bd.keeps hk (by simp)).cell 3).trans rfl⟩)
  have hkD : Keeps [] wd wd := Keeps.refl _ _
  clear hT hk1 hn1 bd hkB
  go_wp2_with fail
  go_region_held3 (fun w' => w'.cell? ⟨y.p,9,none⟩ = some (PT y.t) ∧ w'.cell? ⟨w.heap.size,2,none⟩ = some (.int .i64 i) ∧ w'.cell? ⟨w.heap.size,3,none⟩ = some (.int .i64 n)) (first | with_reducible exact HD.out _ Sq.kp | with_reducible exact HDF | go_keep) (((go_at_call 86; (with_reducible refine (QD.out _ _ HT.out _ _ Sq.kp (by first | with_reducible rfl | rfl)).mono ?_); rintro e wf ⟨rfl,hR⟩; obtain ⟨_,hR1,hkq,_⟩ := id hR; have be := HBD.out.keeps hkq HB.out.2.2.2.2; have HDF : wf.cell? ⟨y.p,9,none⟩ = some (PT y.t) ∧ wf.cell? ⟨w.heap.size,2,none⟩ = some (.int .i64 i) ∧ wf.cell? ⟨w.heap.size,3,none⟩ = some (.int .i64 n) := ⟨hR1.cells.2.2.2.2.2.2,(be.cell 2).trans rfl,(be.cell 3).trans rfl⟩; clear hR1 hkq be; have HR := Lib.hid hR; clear hR)))
  all_goals
   go_wp2_with fail
   go_ret
   exact ⟨rfl,Two.both HB.out.2.1 HK.out.1 HK.out.2 HT.out HR.out⟩
set_option maxRecDepth 100000 in
set_option maxHeartbeats 4000000 in
theorem ready_any (h : Two w0 w z F y G S S) (hf : Fit k S) (hk : k ≤ 1099511627776) (m i n x : Int) (q0 q1 q2 q3 : Int) (q4 : Value) :
 Calls Tryz.prog 21 #[PT z.p,PT y.p,.agg #[.int .i64 8,.int .i64 m,.int .i64 i,.int .i64 n,.int .i64 x,.int .i64 q0,.int .i64 q1,.int .i64 q2,.int .i64 q3,q4]] w fun e w' => e = .returned (.bool true) ∧ TwoWent w0 w w' z F y G (S.ready i n x).2 := by
 have kB : Keeps [] w (w.alloc (.cells #[.int .i64 8,.int .i64 m,.int .i64 i,.int .i64 n,.int .i64 x,.int .i64 q0,.int .i64 q1,.int .i64 q2,.int .i64 q3,q4] 71)) := Sq.r.alloc _
 have hB := h.calm kB
 have bb := Blk.new w 71 #[.int .i64 8,.int .i64 m,.int .i64 i,.int .i64 n,.int .i64 x,.int .i64 q0,.int .i64 q1,.int .i64 q2,.int .i64 q3,q4]
 obtain ⟨wB,hwB⟩ : ∃ v,w.alloc (.cells #[.int .i64 8,.int .i64 m,.int .i64 i,.int .i64 n,.int .i64 x,.int .i64 q0,.int .i64 q1,.int .i64 q2,.int .i64 q3,q4] 71) = v := ⟨_,rfl⟩
 rw [hwB] at kB hB bb
 have hp := fun w' (hk' : Keeps [] wB w') => sp_ready (hB.sp.calm hk') hf hk i n x
 have hd := fun (w2 : World) (F' : List Nat) (S' : Sp) (h2 : Two w0 w2 z F' y G S' S) w' (hk' : Keeps [] w2 w') => rp_ready (h2.rp.calm hk') hf hk i n x
 obtain ⟨re,hre⟩ : ∃ v,(S.ready i n x).1 = v := ⟨_,rfl⟩
 obtain ⟨S',hS'⟩ : ∃ v,(S.ready i n x).2 = v := ⟨_,rfl⟩
 simp only [hre,hS'] at hp hd ⊢
 clear hre hS'
 have QP : Hid (∀ w' vv,Keeps [] wB w' → vv = #[PT z.t.q,.int .i64 i,.int .i64 n,.int .i64 x] → Calls Tryz.prog 29 vv w' fun e w'' => e = .returned (.int .i64 re) ∧ Went w0 wB w'' z F S') := fun w' vv hk' hv => hv ▸ (hp w' hk').mono fun e w'' ⟨he,hw⟩ => ⟨he,hw.pre hk'⟩
 have QD : Hid (∀ (w2 : World) (F' : List Nat),Two w0 w2 z F' y G S' S → ∀ w' vv,Keeps [] w2 w' → vv = #[PT y.t,.int .i64 i,.int .i64 n,.int .i64 x] → Calls Tryz.prog 87 vv w' fun e w'' => e = .returned (.int .i64 re) ∧ RWent w0 w2 w'' y G S') := fun w2 F' h2 w' vv hk' hv => hv ▸ (hd w2 F' S' h2 w' hk').mono fun e w'' ⟨he,hw⟩ => ⟨he,RWent.pre hk' hw⟩
 have QA := Lib.hid (fun w' (hk : Keeps [] wB w') => slots_held hB.sp hk)
 have HC := Lib.hid (show ∀ w',Keeps [] wB w' → w'.cell? ⟨w.heap.size,2,none⟩ = some (.int .i64 i) ∧ w'.cell? ⟨w.heap.size,3,none⟩ = some (.int .i64 n) ∧ w'.cell? ⟨w.heap.size,4,none⟩ = some (.int .i64 x) from fun w' hk => ⟨((bb.keeps hk (by simp)).cell 2).trans rfl,((bb.keeps hk (by simp)).cell 3).trans rfl,((bb.keeps hk (by simp)).cell 4).trans rfl⟩)
 have hoff : w.heap.size ∉ F := fun hx => by have := h.sp.lt _ hx; omega
 have hoffG : w.heap.size ∉ G := fun hx => by have := h.rp.lt _ hx; omega
 have hkB : Keeps [] wB wB := Keeps.refl _ _
 have b0 : wB.cell? ⟨w.heap.size,0,none⟩ = some (.int .i64 8) := (bb.cell 0).trans rfl
 have b2 : wB.cell? ⟨w.heap.size,2,none⟩ = some (.int .i64 i) := (bb.cell 2).trans rfl
 have b4 : wB.cell? ⟨w.heap.size,4,none⟩ = some (.int .i64 x) := (bb.cell 4).trans rfl
 have HB := Lib.hid (And.intro hB (And.intro kB (And.intro bb (And.intro hoff hoffG))))
 clear h hf hk hp hd hB kB bb hoff hoffG
 go_enter Tryz.func21,Tryz.ntmps21
 go_wp2_with fail
 try rw [hwB]
 clear hwB
 go_region_held3 (fun w' => w'.cell? ⟨w.heap.size,2,none⟩ = some (.int .i64 i) ∧ w'.cell? ⟨w.heap.size,3,none⟩ = some (.int .i64 n) ∧ w'.cell? ⟨w.heap.size,4,none⟩ = some (.int .i64 x)) (first | with_reducible exact HC.out _ Sq.kp | with_reducible exact HDC | go_keep) ((first
  | (go_at_call 25; (with_reducible refine (QA.out _ Sq.kp).mono ?_); rintro e wc ⟨rfl,hkc⟩)
  | (go_at_call 29; (with_reducible refine (QP.out _ _ Sq.kp (by first | with_reducible rfl | rfl)).mono ?_); rintro e wd ⟨rfl,hW⟩; obtain ⟨_,_,hkq,_⟩ := id hW; have bd := HB.out.2.2.1.keeps hkq HB.out.2.2.2.1; have HDC : wd.cell? ⟨w.heap.size,2,none⟩ = some (.int .i64 i) ∧ wd.cell? ⟨w.heap.size,3,none⟩ = some (.int .i64 n) ∧ wd.cell? ⟨w.heap.size,4,none⟩ = some (.int .i64 x) := ⟨(bd.cell 2).trans rfl,(bd.cell 3).trans rfl,(bd.cell 4).trans rfl⟩; clear hkq bd; have HW := Lib.hid hW; clear hW)))
 all_goals
  obtain ⟨F',hT,hk1,hn1⟩ := HB.out.1.left HW.out
  have bd := HB.out.2.2.1.keeps hk1 HB.out.2.2.2.1
  have HBD := Lib.hid bd
  have HT := Lib.hid hT
  have HK := Lib.hid (And.intro hk1 hn1)
  have HD := Lib.hid (show ∀ w',Keeps [] wd w' → w'.cell? ⟨y.p,9,none⟩ = some (PT y.t) ∧ w'.cell? ⟨w.heap.size,2,none⟩ = some (.int .i64 i) ∧ w'.cell? ⟨w.heap.size,3,none⟩ = some (.int .i64 n) ∧ w'.cell? ⟨w.heap.size,4,none⟩ = some (.int .i64 x) from fun w' hk => ⟨(hT.rp.calm hk).cells.2.2.2.2.2.2,((bd.keeps hk (by simp)).cell 2).trans rfl,((bd.keeps hk (by simp)).cell 3).trans rfl,((bd.keeps hk (by simp)).cell 4).trans rfl⟩)
  have hkD : Keeps [] wd wd := Keeps.refl _ _
  clear hT hk1 hn1 bd hkB
  go_wp2_with fail
  go_region_held3 (fun w' => w'.cell? ⟨y.p,9,none⟩ = some (PT y.t) ∧ w'.cell? ⟨w.heap.size,2,none⟩ = some (.int .i64 i) ∧ w'.cell? ⟨w.heap.size,3,none⟩ = some (.int .i64 n) ∧ w'.cell? ⟨w.heap.size,4,none⟩ = some (.int .i64 x)) (first | with_reducible exact HD.out _ Sq.kp | with_reducible exact HDF | go_keep) (((go_at_call 87; (with_reducible refine (QD.out _ _ HT.out _ _ Sq.kp (by first | with_reducible rfl | rfl)).mono ?_); rintro e wf ⟨rfl,hR⟩; obtain ⟨_,hR1,hkq,_⟩ := id hR; have be := HBD.out.keeps hkq HB.out.2.2.2.2; have HDF : wf.cell? ⟨y.p,9,none⟩ = some (PT y.t) ∧ wf.cell? ⟨w.heap.size,2,none⟩ = some (.int .i64 i) ∧ wf.cell? ⟨w.heap.size,3,none⟩ = some (.int .i64 n) ∧ wf.cell? ⟨w.heap.size,4,none⟩ = some (.int .i64 x) := ⟨hR1.cells.2.2.2.2.2.2,(be.cell 2).trans rfl,(be.cell 3).trans rfl,(be.cell 4).trans rfl⟩; clear hR1 hkq be; have HR := Lib.hid hR; clear hR)))
  all_goals
   go_wp2_with fail
   go_ret
   exact ⟨rfl,Two.both HB.out.2.1 HK.out.1 HK.out.2 HT.out HR.out⟩
set_option maxRecDepth 100000 in
set_option maxHeartbeats 4000000 in
theorem doom_any (h : Two w0 w z F y G S S) (hf : Fit k S) (hk : k ≤ 1099511627776) (m i n x : Int) (q0 q1 q2 q3 : Int) (q4 : Value) :
 Calls Tryz.prog 21 #[PT z.p,PT y.p,.agg #[.int .i64 9,.int .i64 m,.int .i64 i,.int .i64 n,.int .i64 x,.int .i64 q0,.int .i64 q1,.int .i64 q2,.int .i64 q3,q4]] w fun e w' => e = .returned (.bool true) ∧ TwoWent w0 w w' z F y G (S.doom i n x).2 := by
 have kB : Keeps [] w (w.alloc (.cells #[.int .i64 9,.int .i64 m,.int .i64 i,.int .i64 n,.int .i64 x,.int .i64 q0,.int .i64 q1,.int .i64 q2,.int .i64 q3,q4] 71)) := Sq.r.alloc _
 have hB := h.calm kB
 have bb := Blk.new w 71 #[.int .i64 9,.int .i64 m,.int .i64 i,.int .i64 n,.int .i64 x,.int .i64 q0,.int .i64 q1,.int .i64 q2,.int .i64 q3,q4]
 obtain ⟨wB,hwB⟩ : ∃ v,w.alloc (.cells #[.int .i64 9,.int .i64 m,.int .i64 i,.int .i64 n,.int .i64 x,.int .i64 q0,.int .i64 q1,.int .i64 q2,.int .i64 q3,q4] 71) = v := ⟨_,rfl⟩
 rw [hwB] at kB hB bb
 have hp := fun w' (hk' : Keeps [] wB w') => sp_doom (hB.sp.calm hk') hf hk i n x
 have hd := fun (w2 : World) (F' : List Nat) (S' : Sp) (h2 : Two w0 w2 z F' y G S' S) w' (hk' : Keeps [] w2 w') => rp_doom (h2.rp.calm hk') hf hk i n x
 obtain ⟨re,hre⟩ : ∃ v,(S.doom i n x).1 = v := ⟨_,rfl⟩
 obtain ⟨S',hS'⟩ : ∃ v,(S.doom i n x).2 = v := ⟨_,rfl⟩
 simp only [hre,hS'] at hp hd ⊢
 clear hre hS'
 have QP : Hid (∀ w' vv,Keeps [] wB w' → vv = #[PT z.t.q,.int .i64 i,.int .i64 n,.int .i64 x] → Calls Tryz.prog 88 vv w' fun e w'' => e = .returned (.int .i64 re) ∧ Went w0 wB w'' z F S') := fun w' vv hk' hv => hv ▸ (hp w' hk').mono fun e w'' ⟨he,hw⟩ => ⟨he,hw.pre hk'⟩
 have QD : Hid (∀ (w2 : World) (F' : List Nat),Two w0 w2 z F' y G S' S → ∀ w' vv,Keeps [] w2 w' → vv = #[PT y.t,.int .i64 i,.int .i64 n,.int .i64 x] → Calls Tryz.prog 89 vv w' fun e w'' => e = .returned (.int .i64 re) ∧ RWent w0 w2 w'' y G S') := fun w2 F' h2 w' vv hk' hv => hv ▸ (hd w2 F' S' h2 w' hk').mono fun e w'' ⟨he,hw⟩ => ⟨he,RWent.pre hk' hw⟩
 have QA := Lib.hid (fun w' (hk : Keeps [] wB w') => slots_held hB.sp hk)
 have HC := Lib.hid (show ∀ w',Keeps [] wB w' → w'.cell? ⟨w.heap.size,2,none⟩ = some (.int .i64 i) ∧ w'.cell? ⟨w.heap.size,3,none⟩ = some (.int .i64 n) ∧ w'.cell? ⟨w.heap.size,4,none⟩ = some (.int .i64 x) from fun w' hk => ⟨((bb.keeps hk (by simp)).cell 2).trans rfl,((bb.keeps hk (by simp)).cell 3).trans rfl,((bb.keeps hk (by simp)).cell 4).trans rfl⟩)
 have hoff : w.heap.size ∉ F := fun hx => by have := h.sp.lt _ hx; omega
 have hoffG : w.heap.size ∉ G := fun hx => by have := h.rp.lt _ hx; omega
 have hkB : Keeps [] wB wB := Keeps.refl _ _
 have b0 : wB.cell? ⟨w.heap.size,0,none⟩ = some (.int .i64 9) := (bb.cell 0).trans rfl
 have b2 : wB.cell? ⟨w.heap.size,2,none⟩ = some (.int .i64 i) := (bb.cell 2).trans rfl
 have b4 : wB.cell? ⟨w.heap.size,4,none⟩ = some (.int .i64 x) := (bb.cell 4).trans rfl
 have HB := Lib.hid (And.intro hB (And.intro kB (And.intro bb (And.intro hoff hoffG))))
 clear h hf hk hp hd hB kB bb hoff hoffG
 go_enter Tryz.func21,Tryz.ntmps21
 go_wp2_with fail
 try rw [hwB]
 clear hwB
 go_region_held3 (fun w' => w'.cell? ⟨w.heap.size,2,none⟩ = some (.int .i64 i) ∧ w'.cell? ⟨w.heap.size,3,none⟩ = some (.int .i64 n) ∧ w'.cell? ⟨w.heap.size,4,none⟩ = some (.int .i64 x)) (first | with_reducible exact HC.out _ Sq.kp | with_reducible exact HDC | go_keep) ((first
  | (go_at_call 25; (with_reducible refine (QA.out _ Sq.kp).mono ?_); rintro e wc ⟨rfl,hkc⟩)
  | (go_at_call 88; (with_reducible refine (QP.out _ _ Sq.kp (by first | with_reducible rfl | rfl)).mono ?_); rintro e wd ⟨rfl,hW⟩; obtain ⟨_,_,hkq,_⟩ := id hW; have bd := HB.out.2.2.1.keeps hkq HB.out.2.2.2.1; have HDC : wd.cell? ⟨w.heap.size,2,none⟩ = some (.int .i64 i) ∧ wd.cell? ⟨w.heap.size,3,none⟩ = some (.int .i64 n) ∧ wd.cell? ⟨w.heap.size,4,none⟩ = some (.int .i64 x) := ⟨(bd.cell 2).trans rfl,(bd.cell 3).trans rfl,(bd.cell 4).trans rfl⟩; clear hkq bd; have HW := Lib.hid hW; clear hW)))
 all_goals
  obtain ⟨F',hT,hk1,hn1⟩ := HB.out.1.left HW.out
  have bd := HB.out.2.2.1.keeps hk1 HB.out.2.2.2.1
  have HBD := Lib.hid bd
  have HT := Lib.hid hT
  have HK := Lib.hid (And.intro hk1 hn1)
  have HD := Lib.hid (show ∀ w',Keeps [] wd w' → w'.cell? ⟨y.p,9,none⟩ = some (PT y.t) ∧ w'.cell? ⟨w.heap.size,2,none⟩ = some (.int .i64 i) ∧ w'.cell? ⟨w.heap.size,3,none⟩ = some (.int .i64 n) ∧ w'.cell? ⟨w.heap.size,4,none⟩ = some (.int .i64 x) from fun w' hk => ⟨(hT.rp.calm hk).cells.2.2.2.2.2.2,((bd.keeps hk (by simp)).cell 2).trans rfl,((bd.keeps hk (by simp)).cell 3).trans rfl,((bd.keeps hk (by simp)).cell 4).trans rfl⟩)
  have hkD : Keeps [] wd wd := Keeps.refl _ _
  clear hT hk1 hn1 bd hkB
  go_wp2_with fail
  go_region_held3 (fun w' => w'.cell? ⟨y.p,9,none⟩ = some (PT y.t) ∧ w'.cell? ⟨w.heap.size,2,none⟩ = some (.int .i64 i) ∧ w'.cell? ⟨w.heap.size,3,none⟩ = some (.int .i64 n) ∧ w'.cell? ⟨w.heap.size,4,none⟩ = some (.int .i64 x)) (first | with_reducible exact HD.out _ Sq.kp | with_reducible exact HDF | go_keep) (((go_at_call 89; (with_reducible refine (QD.out _ _ HT.out _ _ Sq.kp (by first | with_reducible rfl | rfl)).mono ?_); rintro e wf ⟨rfl,hR⟩; obtain ⟨_,hR1,hkq,_⟩ := id hR; have be := HBD.out.keeps hkq HB.out.2.2.2.2; have HDF : wf.cell? ⟨y.p,9,none⟩ = some (PT y.t) ∧ wf.cell? ⟨w.heap.size,2,none⟩ = some (.int .i64 i) ∧ wf.cell? ⟨w.heap.size,3,none⟩ = some (.int .i64 n) ∧ wf.cell? ⟨w.heap.size,4,none⟩ = some (.int .i64 x) := ⟨hR1.cells.2.2.2.2.2.2,(be.cell 2).trans rfl,(be.cell 3).trans rfl,(be.cell 4).trans rfl⟩; clear hR1 hkq be; have HR := Lib.hid hR; clear hR)))
  all_goals
   go_wp2_with fail
   go_ret
   exact ⟨rfl,Two.both HB.out.2.1 HK.out.1 HK.out.2 HT.out HR.out⟩
set_option maxRecDepth 100000 in
set_option maxHeartbeats 4000000 in
theorem free_any (h : Two w0 w z F y G S S) (hf : Fit k S) (hk : k ≤ 1099511627776) (m i n x : Int) (q0 q1 q2 q3 : Int) (q4 : Value) :
 Calls Tryz.prog 21 #[PT z.p,PT y.p,.agg #[.int .i64 10,.int .i64 m,.int .i64 i,.int .i64 n,.int .i64 x,.int .i64 q0,.int .i64 q1,.int .i64 q2,.int .i64 q3,q4]] w fun e w' => e = .returned (.bool true) ∧ TwoWent w0 w w' z F y G (S.free i n).2 := by
 have kB : Keeps [] w (w.alloc (.cells #[.int .i64 10,.int .i64 m,.int .i64 i,.int .i64 n,.int .i64 x,.int .i64 q0,.int .i64 q1,.int .i64 q2,.int .i64 q3,q4] 71)) := Sq.r.alloc _
 have hB := h.calm kB
 have bb := Blk.new w 71 #[.int .i64 10,.int .i64 m,.int .i64 i,.int .i64 n,.int .i64 x,.int .i64 q0,.int .i64 q1,.int .i64 q2,.int .i64 q3,q4]
 obtain ⟨wB,hwB⟩ : ∃ v,w.alloc (.cells #[.int .i64 10,.int .i64 m,.int .i64 i,.int .i64 n,.int .i64 x,.int .i64 q0,.int .i64 q1,.int .i64 q2,.int .i64 q3,q4] 71) = v := ⟨_,rfl⟩
 rw [hwB] at kB hB bb
 have hp := fun w' (hk' : Keeps [] wB w') => sp_free (hB.sp.calm hk') hf hk i n
 have hd := fun (w2 : World) (F' : List Nat) (S' : Sp) (h2 : Two w0 w2 z F' y G S' S) w' (hk' : Keeps [] w2 w') => rp_free (h2.rp.calm hk') hf hk i n
 obtain ⟨re,hre⟩ : ∃ v,(S.free i n).1 = v := ⟨_,rfl⟩
 obtain ⟨S',hS'⟩ : ∃ v,(S.free i n).2 = v := ⟨_,rfl⟩
 simp only [hre,hS'] at hp hd ⊢
 clear hre hS'
 have QP : Hid (∀ w' vv,Keeps [] wB w' → vv = #[PT z.t.q,.int .i64 i,.int .i64 n] → Calls Tryz.prog 27 vv w' fun e w'' => e = .returned (.int .i64 re) ∧ Went w0 wB w'' z F S') := fun w' vv hk' hv => hv ▸ (hp w' hk').mono fun e w'' ⟨he,hw⟩ => ⟨he,hw.pre hk'⟩
 have QD : Hid (∀ (w2 : World) (F' : List Nat),Two w0 w2 z F' y G S' S → ∀ w' vv,Keeps [] w2 w' → vv = #[PT y.t,.int .i64 i,.int .i64 n] → Calls Tryz.prog 79 vv w' fun e w'' => e = .returned (.int .i64 re) ∧ RWent w0 w2 w'' y G S') := fun w2 F' h2 w' vv hk' hv => hv ▸ (hd w2 F' S' h2 w' hk').mono fun e w'' ⟨he,hw⟩ => ⟨he,RWent.pre hk' hw⟩
 have QA := Lib.hid (fun w' (hk : Keeps [] wB w') => slots_held hB.sp hk)
 have HC := Lib.hid (show ∀ w',Keeps [] wB w' → w'.cell? ⟨w.heap.size,2,none⟩ = some (.int .i64 i) ∧ w'.cell? ⟨w.heap.size,3,none⟩ = some (.int .i64 n) from fun w' hk => ⟨((bb.keeps hk (by simp)).cell 2).trans rfl,((bb.keeps hk (by simp)).cell 3).trans rfl⟩)
 have hoff : w.heap.size ∉ F := fun hx => by have := h.sp.lt _ hx; omega
 have hoffG : w.heap.size ∉ G := fun hx => by have := h.rp.lt _ hx; omega
 have hkB : Keeps [] wB wB := Keeps.refl _ _
 have b0 : wB.cell? ⟨w.heap.size,0,none⟩ = some (.int .i64 10) := (bb.cell 0).trans rfl
 have b2 : wB.cell? ⟨w.heap.size,2,none⟩ = some (.int .i64 i) := (bb.cell 2).trans rfl
 have b4 : wB.cell? ⟨w.heap.size,4,none⟩ = some (.int .i64 x) := (bb.cell 4).trans rfl
 have HB := Lib.hid (And.intro hB (And.intro kB (And.intro bb (And.intro hoff hoffG))))
 clear h hf hk hp hd hB kB bb hoff hoffG
 go_enter Tryz.func21,Tryz.ntmps21
 go_wp2_with fail
 try rw [hwB]
 clear hwB
 go_region_held3 (fun w' => w'.cell? ⟨w.heap.size,2,none⟩ = some (.int .i64 i) ∧ w'.cell? ⟨w.heap.size,3,none⟩ = some (.int .i64 n)) (first | with_reducible exact HC.out _ Sq.kp | with_reducible exact HDC | go_keep) ((first
  | (go_at_call 25; (with_reducible refine (QA.out _ Sq.kp).mono ?_); rintro e wc ⟨rfl,hkc⟩)
  | (go_at_call 27; (with_reducible refine (QP.out _ _ Sq.kp (by first | with_reducible rfl | rfl)).mono ?_); rintro e wd ⟨rfl,hW⟩; obtain ⟨_,_,hkq,_⟩ := id hW; have bd := HB.out.2.2.1.keeps hkq HB.out.2.2.2.1; have HDC : wd.cell? ⟨w.heap.size,2,none⟩ = some (.int .i64 i) ∧ wd.cell? ⟨w.heap.size,3,none⟩ = some (.int .i64 n) := ⟨(bd.cell 2).trans rfl,(bd.cell 3).trans rfl⟩; clear hkq bd; have HW := Lib.hid hW; clear hW)))
 all_goals
  obtain ⟨F',hT,hk1,hn1⟩ := HB.out.1.left HW.out
  have bd := HB.out.2.2.1.keeps hk1 HB.out.2.2.2.1
  have HBD := Lib.hid bd
  have HT := Lib.hid hT
  have HK := Lib.hid (And.intro hk1 hn1)
  have HD := Lib.hid (show ∀ w',Keeps [] wd w' → w'.cell? ⟨y.p,9,none⟩ = some (PT y.t) ∧ w'.cell? ⟨w.heap.size,2,none⟩ = some (.int .i64 i) ∧ w'.cell? ⟨w.heap.size,3,none⟩ = some (.int .i64 n) from fun w' hk => ⟨(hT.rp.calm hk).cells.2.2.2.2.2.2,((bd.keeps hk (by simp)).cell 2).trans rfl,((bd.keeps hk (by simp)).cell 3).trans rfl⟩)
  have hkD : Keeps [] wd wd := Keeps.refl _ _
  clear hT hk1 hn1 bd hkB
  go_wp2_with fail
  go_region_held3 (fun w' => w'.cell? ⟨y.p,9,none⟩ = some (PT y.t) ∧ w'.cell? ⟨w.heap.size,2,none⟩ = some (.int .i64 i) ∧ w'.cell? ⟨w.heap.size,3,none⟩ = some (.int .i64 n)) (first | with_reducible exact HD.out _ Sq.kp | with_reducible exact HDF | go_keep) (((go_at_call 79; (with_reducible refine (QD.out _ _ HT.out _ _ Sq.kp (by first | with_reducible rfl | rfl)).mono ?_); rintro e wf ⟨rfl,hR⟩; obtain ⟨_,hR1,hkq,_⟩ := id hR; have be := HBD.out.keeps hkq HB.out.2.2.2.2; have HDF : wf.cell? ⟨y.p,9,none⟩ = some (PT y.t) ∧ wf.cell? ⟨w.heap.size,2,none⟩ = some (.int .i64 i) ∧ wf.cell? ⟨w.heap.size,3,none⟩ = some (.int .i64 n) := ⟨hR1.cells.2.2.2.2.2.2,(be.cell 2).trans rfl,(be.cell 3).trans rfl⟩; clear hR1 hkq be; have HR := Lib.hid hR; clear hR)))
  all_goals
   go_wp2_with fail
   go_ret
   exact ⟨rfl,Two.both HB.out.2.1 HK.out.1 HK.out.2 HT.out HR.out⟩
set_option maxRecDepth 100000 in
set_option maxHeartbeats 4000000 in
theorem put_any (h : Two w0 w z F y G S S) (hf : Fit k S) (hk : k ≤ 1099511627776) (m i n x : Int) (q0 q1 q2 q3 : Int) (q4 : Value) :
 Calls Tryz.prog 21 #[PT z.p,PT y.p,.agg #[.int .i64 12,.int .i64 m,.int .i64 i,.int .i64 n,.int .i64 x,.int .i64 q0,.int .i64 q1,.int .i64 q2,.int .i64 q3,q4]] w fun e w' => e = .returned (.bool true) ∧ TwoWent w0 w w' z F y G (S.put i n (asU x)).2 := by
 have kB : Keeps [] w (w.alloc (.cells #[.int .i64 12,.int .i64 m,.int .i64 i,.int .i64 n,.int .i64 x,.int .i64 q0,.int .i64 q1,.int .i64 q2,.int .i64 q3,q4] 71)) := Sq.r.alloc _
 have hB := h.calm kB
 have bb := Blk.new w 71 #[.int .i64 12,.int .i64 m,.int .i64 i,.int .i64 n,.int .i64 x,.int .i64 q0,.int .i64 q1,.int .i64 q2,.int .i64 q3,q4]
 obtain ⟨wB,hwB⟩ : ∃ v,w.alloc (.cells #[.int .i64 12,.int .i64 m,.int .i64 i,.int .i64 n,.int .i64 x,.int .i64 q0,.int .i64 q1,.int .i64 q2,.int .i64 q3,q4] 71) = v := ⟨_,rfl⟩
 rw [hwB] at kB hB bb
 have hp := fun w' (hk' : Keeps [] wB w') => sp_put (hB.sp.calm hk') hf hk i n (asU x)
 have hd := fun (w2 : World) (F' : List Nat) (S' : Sp) (h2 : Two w0 w2 z F' y G S' S) w' (hk' : Keeps [] w2 w') => rp_put (h2.rp.calm hk') hf hk i n (asU x)
 obtain ⟨re,hre⟩ : ∃ v,(S.put i n (asU x)).1 = v := ⟨_,rfl⟩
 obtain ⟨S',hS'⟩ : ∃ v,(S.put i n (asU x)).2 = v := ⟨_,rfl⟩
 simp only [hre,hS'] at hp hd ⊢
 clear hre hS'
 obtain ⟨ux,hux⟩ : ∃ v,asU x = v := ⟨_,rfl⟩
 have hconv : IntKind.u64.wrap x = ux := hux
 rw [hux] at hp hd
 clear hux
 have QP : Hid (∀ w' vv,Keeps [] wB w' → vv = #[PT z.t.q,.int .i64 i,.int .i64 n,.int .u64 ux] → Calls Tryz.prog 28 vv w' fun e w'' => e = .returned (.int .i64 re) ∧ Went w0 wB w'' z F S') := fun w' vv hk' hv => hv ▸ (hp w' hk').mono fun e w'' ⟨he,hw⟩ => ⟨he,hw.pre hk'⟩
 have QD : Hid (∀ (w2 : World) (F' : List Nat),Two w0 w2 z F' y G S' S → ∀ w' vv,Keeps [] w2 w' → vv = #[PT y.t,.int .i64 i,.int .i64 n,.int .u64 ux] → Calls Tryz.prog 90 vv w' fun e w'' => e = .returned (.int .i64 re) ∧ RWent w0 w2 w'' y G S') := fun w2 F' h2 w' vv hk' hv => hv ▸ (hd w2 F' S' h2 w' hk').mono fun e w'' ⟨he,hw⟩ => ⟨he,RWent.pre hk' hw⟩
 have QA := Lib.hid (fun w' (hk : Keeps [] wB w') => slots_held hB.sp hk)
 have HC := Lib.hid (show ∀ w',Keeps [] wB w' → w'.cell? ⟨w.heap.size,2,none⟩ = some (.int .i64 i) ∧ w'.cell? ⟨w.heap.size,3,none⟩ = some (.int .i64 n) ∧ w'.cell? ⟨w.heap.size,4,none⟩ = some (.int .i64 x) from fun w' hk => ⟨((bb.keeps hk (by simp)).cell 2).trans rfl,((bb.keeps hk (by simp)).cell 3).trans rfl,((bb.keeps hk (by simp)).cell 4).trans rfl⟩)
 have hoff : w.heap.size ∉ F := fun hx => by have := h.sp.lt _ hx; omega
 have hoffG : w.heap.size ∉ G := fun hx => by have := h.rp.lt _ hx; omega
 have hkB : Keeps [] wB wB := Keeps.refl _ _
 have b0 : wB.cell? ⟨w.heap.size,0,none⟩ = some (.int .i64 12) := (bb.cell 0).trans rfl
 have b2 : wB.cell? ⟨w.heap.size,2,none⟩ = some (.int .i64 i) := (bb.cell 2).trans rfl
 have b4 : wB.cell? ⟨w.heap.size,4,none⟩ = some (.int .i64 x) := (bb.cell 4).trans rfl
 have HB := Lib.hid (And.intro hB (And.intro kB (And.intro bb (And.intro hoff hoffG))))
 clear h hf hk hp hd hB kB bb hoff hoffG
 go_enter Tryz.func21,Tryz.ntmps21
 go_wp2_with fail
 try rw [hwB]
 clear hwB
 go_region_held3 (fun w' => w'.cell? ⟨w.heap.size,2,none⟩ = some (.int .i64 i) ∧ w'.cell? ⟨w.heap.size,3,none⟩ = some (.int .i64 n) ∧ w'.cell? ⟨w.heap.size,4,none⟩ = some (.int .i64 x)) (first | with_reducible exact HC.out _ Sq.kp | with_reducible exact HDC | go_keep) ((first
  | (go_at_call 25; (with_reducible refine (QA.out _ Sq.kp).mono ?_); rintro e wc ⟨rfl,hkc⟩)
  | (go_at_call 28; (with_reducible refine (QP.out _ _ Sq.kp (by first | with_reducible rfl | rfl)).mono ?_); rintro e wd ⟨rfl,hW⟩; obtain ⟨_,_,hkq,_⟩ := id hW; have bd := HB.out.2.2.1.keeps hkq HB.out.2.2.2.1; have HDC : wd.cell? ⟨w.heap.size,2,none⟩ = some (.int .i64 i) ∧ wd.cell? ⟨w.heap.size,3,none⟩ = some (.int .i64 n) ∧ wd.cell? ⟨w.heap.size,4,none⟩ = some (.int .i64 x) := ⟨(bd.cell 2).trans rfl,(bd.cell 3).trans rfl,(bd.cell 4).trans rfl⟩; clear hkq bd; have HW := Lib.hid hW; clear hW)))
 all_goals
  obtain ⟨F',hT,hk1,hn1⟩ := HB.out.1.left HW.out
  have bd := HB.out.2.2.1.keeps hk1 HB.out.2.2.2.1
  have HBD := Lib.hid bd
  have HT := Lib.hid hT
  have HK := Lib.hid (And.intro hk1 hn1)
  have HD := Lib.hid (show ∀ w',Keeps [] wd w' → w'.cell? ⟨y.p,9,none⟩ = some (PT y.t) ∧ w'.cell? ⟨w.heap.size,2,none⟩ = some (.int .i64 i) ∧ w'.cell? ⟨w.heap.size,3,none⟩ = some (.int .i64 n) ∧ w'.cell? ⟨w.heap.size,4,none⟩ = some (.int .i64 x) from fun w' hk => ⟨(hT.rp.calm hk).cells.2.2.2.2.2.2,((bd.keeps hk (by simp)).cell 2).trans rfl,((bd.keeps hk (by simp)).cell 3).trans rfl,((bd.keeps hk (by simp)).cell 4).trans rfl⟩)
  have hkD : Keeps [] wd wd := Keeps.refl _ _
  clear hT hk1 hn1 bd hkB
  go_wp2_with fail
  go_region_held3 (fun w' => w'.cell? ⟨y.p,9,none⟩ = some (PT y.t) ∧ w'.cell? ⟨w.heap.size,2,none⟩ = some (.int .i64 i) ∧ w'.cell? ⟨w.heap.size,3,none⟩ = some (.int .i64 n) ∧ w'.cell? ⟨w.heap.size,4,none⟩ = some (.int .i64 x)) (first | with_reducible exact HD.out _ Sq.kp | with_reducible exact HDF | go_keep) (((go_at_call 90; (with_reducible refine (QD.out _ _ HT.out _ _ Sq.kp (by first | with_reducible rfl | rfl)).mono ?_); rintro e wf ⟨rfl,hR⟩; obtain ⟨_,hR1,hkq,_⟩ := id hR; have be := HBD.out.keeps hkq HB.out.2.2.2.2; have HDF : wf.cell? ⟨y.p,9,none⟩ = some (PT y.t) ∧ wf.cell? ⟨w.heap.size,2,none⟩ = some (.int .i64 i) ∧ wf.cell? ⟨w.heap.size,3,none⟩ = some (.int .i64 n) ∧ wf.cell? ⟨w.heap.size,4,none⟩ = some (.int .i64 x) := ⟨hR1.cells.2.2.2.2.2.2,(be.cell 2).trans rfl,(be.cell 3).trans rfl,(be.cell 4).trans rfl⟩; clear hR1 hkq be; have HR := Lib.hid hR; clear hR)))
  all_goals
   go_wp2_with fail
   go_ret
   exact ⟨rfl,Two.both HB.out.2.1 HK.out.1 HK.out.2 HT.out HR.out⟩
set_option maxRecDepth 100000 in
set_option maxHeartbeats 4000000 in
theorem none_any (h : Two w0 w z F y G S S) (kd m i n x : Int) (q0 q1 q2 q3 : Int) (q4 : Value) (n3 : kd ≠ 3) (n5 : kd ≠ 5) (n6 : kd ≠ 6) (n7 : kd ≠ 7) (n8 : kd ≠ 8) (n9 : kd ≠ 9) (n10 : kd ≠ 10) (n12 : kd ≠ 12) :
 Calls Tryz.prog 21 #[PT z.p,PT y.p,.agg #[.int .i64 kd,.int .i64 m,.int .i64 i,.int .i64 n,.int .i64 x,.int .i64 q0,.int .i64 q1,.int .i64 q2,.int .i64 q3,q4]] w fun e w' => e = .returned (.bool true) ∧ TwoWent w0 w w' z F y G S := by
 have kB : Keeps [] w (w.alloc (.cells #[.int .i64 kd,.int .i64 m,.int .i64 i,.int .i64 n,.int .i64 x,.int .i64 q0,.int .i64 q1,.int .i64 q2,.int .i64 q3,q4] 71)) := Sq.r.alloc _
 have bb := Blk.new w 71 #[.int .i64 kd,.int .i64 m,.int .i64 i,.int .i64 n,.int .i64 x,.int .i64 q0,.int .i64 q1,.int .i64 q2,.int .i64 q3,q4]
 have HT := Lib.hid (And.intro h kB)
 have e3 : (kd == 3) = false := by simpa using n3
 have e5 : (kd == 5) = false := by simpa using n5
 have e6 : (kd == 6) = false := by simpa using n6
 have e7 : (kd == 7) = false := by simpa using n7
 have e8 : (kd == 8) = false := by simpa using n8
 have e9 : (kd == 9) = false := by simpa using n9
 have e10 : (kd == 10) = false := by simpa using n10
 have e12 : (kd == 12) = false := by simpa using n12
 clear h kB bb n3 n5 n6 n7 n8 n9 n10 n12
 go_enter Tryz.func21,Tryz.ntmps21
 go_wp2_with fail
 go_ret
 exact ⟨rfl,HT.out.1.still HT.out.2⟩
theorem any (h : Two w0 w z F y G S S) (hf : Fit k S) (hk : k ≤ 1099511627776) (kd m i n x : Int) (q0 q1 q2 q3 : Int) (q4 : Value) :
 Calls Tryz.prog 21 #[PT z.p,PT y.p,.agg #[.int .i64 kd,.int .i64 m,.int .i64 i,.int .i64 n,.int .i64 x,.int .i64 q0,.int .i64 q1,.int .i64 q2,.int .i64 q3,q4]] w fun e w' => e = .returned (.bool true) ∧ TwoWent w0 w w' z F y G (S.raw kd i n x) := by
 unfold Sp.raw
 split
 · rename_i e; subst e; exact store_any h hf hk m i n x q0 q1 q2 q3 q4
 split
 · rename_i e; subst e; exact take_any h hf hk m i n x q0 q1 q2 q3 q4
 split
 · rename_i e; subst e; exact give_any h hf hk m i n x q0 q1 q2 q3 q4
 split
 · rename_i e; subst e; exact claim_any h hf hk m i n x q0 q1 q2 q3 q4
 split
 · rename_i e; subst e; exact ready_any h hf hk m i n x q0 q1 q2 q3 q4
 split
 · rename_i e; subst e; exact doom_any h hf hk m i n x q0 q1 q2 q3 q4
 split
 · rename_i e; subst e; exact free_any h hf hk m i n x q0 q1 q2 q3 q4
 split
 · rename_i e; subst e; exact put_any h hf hk m i n x q0 q1 q2 q3 q4
 exact none_any h kd m i n x q0 q1 q2 q3 q4 ‹_› ‹_› ‹_› ‹_› ‹_› ‹_› ‹_› ‹_›
end
end Raw13
end Go.Proofs.YtmlnedilbneekaaGreat