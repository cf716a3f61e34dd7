/- Layer 13: a commit stores, dooms. -/
import Derived.Test.YtmlnedilbneekaaGreatCmAt
import Derived.Test.YtmlnedilbneekaaGreatRegT
import Derived.Test.YtmlnedilbneekaaGreatSlR
import Derived.Deep.RegionHeld3
import Derived.Deep.QuietTactic
import Derived.BigQuiet
import Derived.Test.YtmlnedilbneekaaGreatMake
set_option linter.unusedVariables false
set_option linter.unusedSimpArgs false
namespace Go.Proofs.YtmlnedilbneekaaGreat
open Go.RowKit Pol
section
variable {w0 w w' : World} {z : Sb} {F H : List Nat} {S S' : Sp} {k jb cb dp : Nat} {x x' : Cm} {nv : Value} {c : Cf} {d d' : Int}
set_option maxRecDepth 100000 in
set_option maxHeartbeats 4000000 in
theorem cm_take (h : CmTrio w0 w z F H jb cb dp nv S c d x) (hf : Fit k S) (hk : k ≤ 1099511627776) : Calls Tryz.prog 179 #[.agg #[],PT cb] w fun e w' => e = .returned (.tuple #[.int .i64 (x.take_ S).1,stgVal dp (x.take_ S).2.1.st]) ∧ WentC w0 w w' z F H jb cb dp nv (x.take_ S).2.2 c d (x.take_ S).2.1 := by
 obtain ⟨wB,hwB⟩ : ∃ q,w.alloc (.cells #[] 160) = q := ⟨_,rfl⟩
 have hkB : Keeps [] w wB := by rw [← hwB]; simp
 have HT := Lib.hid h
 have HC := Lib.hid (show ∀ w',Keeps [] w w' → w'.cell? ⟨cb,0,none⟩ = some (PT z.p) ∧ w'.cell? ⟨cb,4,none⟩ = some (.int .i64 x.thread) from fun w' hk' => let q := (h.calm hk').cm.fix; ⟨q.1,q.2.2.2.2.1⟩)
 have QG := Lib.hid (fun w' (hk' : Keeps [] w w') => sp_gate (h.calm hk').sp)
 have QS := Lib.hid (fun w' (hk' : Keeps [] w w') => sp_slots (h.calm hk').sp)
 have hcl := fun (w' : World) (hk' : Keeps [] w w') => sp_take (h.calm hk').sp hf hk x.thread
 unfold Cm.take_
 obtain ⟨nn,hnn⟩ : ∃ v,(S.take x.thread).1.1 = v := ⟨_,rfl⟩
 obtain ⟨er,her⟩ : ∃ v,(S.take x.thread).1.2 = v := ⟨_,rfl⟩
 obtain ⟨S',hS'⟩ : ∃ v,(S.take x.thread).2 = v := ⟨_,rfl⟩
 simp only [hnn,her,hS'] at hcl ⊢
 have QC := Lib.hid hcl
 clear hcl hnn her hS' hf hk h
 by_cases h0 : er = 0
 ·
  subst h0
  simp only [if_pos rfl]
  go_enter Tryz.func179,Tryz.ntmps179
  go_wp2_with fail
  try rw [hwB]
  refine wp_region_noPanic ?_
  refine wp_region_L 99 (fun w' => w'.cell? ⟨cb,0,none⟩ = some (PT z.p) ∧ w'.cell? ⟨cb,4,none⟩ = some (.int .i64 x.thread)) (by kernel_rfl) ?_
  have hHeld := HC.out _ (hkB.drew)
  refine Sq.kT (i := 0) (v := ?rva0) rfl ?rya0 hHeld ?rra0
  case rya0 => (intro w' hSw; (try dsimp only at hSw); go_simp; first | done | with_reducible rfl)
  try simp only [Act.put,Sq.t,Sq.z,Sq.s]
  refine Sq.kT (i := 1) (v := ?rva1) rfl ?rya1 hHeld ?rra1
  case rya1 => (intro w' hSw; (try dsimp only at hSw); go_simp; first | done | with_reducible rfl)
  try simp only [Act.put,Sq.t,Sq.z,Sq.s]
  refine Sq.kT (i := 2) (v := ?rva2) rfl ?rya2 hHeld ?rra2
  case rya2 => (intro w' hSw; (try dsimp only at hSw); go_simp; first | done | with_reducible rfl)
  try simp only [Act.put,Sq.t,Sq.z,Sq.s]
  refine Sq.kT (i := 3) (v := ?rva3) rfl ?rya3 hHeld ?rra3
  case rya3 => (intro w' hSw; (try dsimp only at hSw); go_simp; first | done | with_reducible rfl)
  try simp only [Act.put,Sq.t,Sq.z,Sq.s]
  refine Sq.kT (i := 5) (v := ?rva5) rfl ?rya5 hHeld ?rra5
  case rya5 => (intro w' hSw; (try dsimp only at hSw); go_simp; first | done | with_reducible rfl)
  try simp only [Act.put,Sq.t,Sq.z,Sq.s]
  refine Sq.kT (i := 6) (v := ?rva6) rfl ?rya6 hHeld ?rra6
  case rya6 => (intro w' hSw; (try dsimp only at hSw); go_simp; first | done | with_reducible rfl)
  try simp only [Act.put,Sq.t,Sq.z,Sq.s]
  refine Sq.kT (i := 7) (v := ?rva7) rfl ?rya7 hHeld ?rra7
  case rya7 => (intro w' hSw; (try dsimp only at hSw); go_simp; first | done | with_reducible rfl)
  try simp only [Act.put,Sq.t,Sq.z,Sq.s]
  refine Sq.kT (i := 8) (v := ?rva8) rfl ?rya8 hHeld ?rra8
  case rya8 => (intro w' hSw; (try dsimp only at hSw); go_simp; first | done | with_reducible rfl)
  try simp only [Act.put,Sq.t,Sq.z,Sq.s]
  refine Sq.kT (i := 9) (v := ?rva9) rfl ?rya9 hHeld ?rra9
  case rya9 => (intro w' hSw; (try dsimp only at hSw); go_simp; first | done | with_reducible rfl)
  try simp only [Act.put,Sq.t,Sq.z,Sq.s]
  refine Sq.oT (i := 4) rfl fun K hK => ?_
  go_simp
  go_at_call 82
  refine (QG.out _ hkB.drew).mono ?_
  rintro e wc ⟨rfl,rfl⟩
  go_simp
  refine hK.out _ _ (fun _ => hHeld) ?_
  clear hK K
  try simp only [Act.put,Sq.t,Sq.z,Sq.s]
  refine Sq.oT (i := 10) rfl fun K hK => ?_
  go_simp
  go_at_call 83
  refine (QC.out _ hkB.drew).mono ?_
  rintro e wd ⟨rfl,hW⟩
  obtain ⟨F1,ht1,hk1,hn1⟩ := (HT.out.calm (hkB.drew)).call hW
  have hkw : Keeps (jb :: (H ++ F)) w wd := ((hkB.drew).mono (by simp)).trans hk1 (fun q hq => .inl (by simp [hq]))
  have hnw : ∀ q,q ∈ F1 → q ∈ F ∨ w.heap.size ≤ q := fun q hq => (hn1 q hq).imp id (fun h => Nat.le_trans (hkB.drew).size h)
  have hW1 : WentC w0 w wd z F H jb cb dp nv S' c d x := WentC.of ht1 hkw hnw (fun q hq => .inl hq)
  have HW1 := Lib.hid hW1
  have hfx := ht1.cm.fix
  have hvx := ht1.cm.var
  obtain ⟨v7,v8,v10,v11⟩ := hvx
  have g8 := ht1.cm.frozen 8
  have g10 := ht1.cm.frozen 10
  have g11 := ht1.cm.frozen 11
  have hS1 : wd.cell? ⟨cb,0,none⟩ = some (PT z.p) ∧ wd.cell? ⟨cb,4,none⟩ = some (.int .i64 x.thread) := ⟨hfx.1,hfx.2.2.2.2.1⟩
  clear hW hW1 ht1 hk1 hn1 hkw hnw hfx
  go_simp
  refine hK.out _ _ (fun _ => hS1) ?_
  clear hK K
  try simp only [Act.put,Sq.t,Sq.z,Sq.s]
  replace hHeld := hS1
  refine Sq.kT (i := 11) (v := ?rva11) rfl ?rya11 hHeld ?rra11
  case rya11 => (intro w' hSw; (try dsimp only at hSw); go_simp; first | done | with_reducible rfl)
  try simp only [Act.put,Sq.t,Sq.z,Sq.s]
  refine Sq.kT (i := 12) (v := ?rva12) rfl ?rya12 hHeld ?rra12
  case rya12 => (intro w' hSw; (try dsimp only at hSw); go_simp; first | done | with_reducible rfl)
  try simp only [Act.put,Sq.t,Sq.z,Sq.s]
  refine Sq.kT (i := 13) (v := ?rva13) rfl ?rya13 hHeld ?rra13
  case rya13 => (intro w' hSw; (try dsimp only at hSw); go_simp; first | done | with_reducible rfl)
  try simp only [Act.put,Sq.t,Sq.z,Sq.s]
  refine Sq.kT (i := 14) (v := ?rva14) rfl ?rya14 hHeld ?rra14
  case rya14 => (intro w' hSw; (try dsimp only at hSw); go_simp; first | done | with_reducible rfl)
  try simp only [Act.put,Sq.t,Sq.z,Sq.s]
  refine Sq.kT (i := 15) (v := ?rva15) rfl ?rya15 hHeld ?rra15
  case rya15 => (intro w' hSw; (try dsimp only at hSw); go_simp; first | done | with_reducible rfl)
  try simp only [Act.put,Sq.t,Sq.z,Sq.s]
  refine wpAnyL_done (by kernel_rfl) ?_ _
  refine NoPanic.normal ?_
  go_wp2_with fail
  go_ret2
  exact ⟨rfl,(HW1.out.set 8 (.int .i64 nn) (x' := { x with number := nn,st := .own }) (fun _ _ => rfl) rfl rfl rfl (Blk.lt HT.out.j) HT.out.jH)⟩
 ·
  simp only [if_neg h0]
  have e0 : (er != 0) = true := by simp [h0]
  go_enter Tryz.func179,Tryz.ntmps179
  go_wp2_with fail
  try rw [hwB]
  refine wp_region_noPanic ?_
  refine wp_region_L 99 (fun w' => w'.cell? ⟨cb,0,none⟩ = some (PT z.p) ∧ w'.cell? ⟨cb,4,none⟩ = some (.int .i64 x.thread)) (by kernel_rfl) ?_
  have hHeld := HC.out _ (hkB.drew)
  refine Sq.kT (i := 0) (v := ?rvb0) rfl ?ryb0 hHeld ?rrb0
  case ryb0 => (intro w' hSw; (try dsimp only at hSw); go_simp; first | done | with_reducible rfl)
  try simp only [Act.put,Sq.t,Sq.z,Sq.s]
  refine Sq.kT (i := 1) (v := ?rvb1) rfl ?ryb1 hHeld ?rrb1
  case ryb1 => (intro w' hSw; (try dsimp only at hSw); go_simp; first | done | with_reducible rfl)
  try simp only [Act.put,Sq.t,Sq.z,Sq.s]
  refine Sq.kT (i := 2) (v := ?rvb2) rfl ?ryb2 hHeld ?rrb2
  case ryb2 => (intro w' hSw; (try dsimp only at hSw); go_simp; first | done | with_reducible rfl)
  try simp only [Act.put,Sq.t,Sq.z,Sq.s]
  refine Sq.kT (i := 3) (v := ?rvb3) rfl ?ryb3 hHeld ?rrb3
  case ryb3 => (intro w' hSw; (try dsimp only at hSw); go_simp; first | done | with_reducible rfl)
  try simp only [Act.put,Sq.t,Sq.z,Sq.s]
  refine Sq.kT (i := 5) (v := ?rvb5) rfl ?ryb5 hHeld ?rrb5
  case ryb5 => (intro w' hSw; (try dsimp only at hSw); go_simp; first | done | with_reducible rfl)
  try simp only [Act.put,Sq.t,Sq.z,Sq.s]
  refine Sq.kT (i := 6) (v := ?rvb6) rfl ?ryb6 hHeld ?rrb6
  case ryb6 => (intro w' hSw; (try dsimp only at hSw); go_simp; first | done | with_reducible rfl)
  try simp only [Act.put,Sq.t,Sq.z,Sq.s]
  refine Sq.kT (i := 7) (v := ?rvb7) rfl ?ryb7 hHeld ?rrb7
  case ryb7 => (intro w' hSw; (try dsimp only at hSw); go_simp; first | done | with_reducible rfl)
  try simp only [Act.put,Sq.t,Sq.z,Sq.s]
  refine Sq.kT (i := 8) (v := ?rvb8) rfl ?ryb8 hHeld ?rrb8
  case ryb8 => (intro w' hSw; (try dsimp only at hSw); go_simp; first | done | with_reducible rfl)
  try simp only [Act.put,Sq.t,Sq.z,Sq.s]
  refine Sq.kT (i := 9) (v := ?rvb9) rfl ?ryb9 hHeld ?rrb9
  case ryb9 => (intro w' hSw; (try dsimp only at hSw); go_simp; first | done | with_reducible rfl)
  try simp only [Act.put,Sq.t,Sq.z,Sq.s]
  refine Sq.oT (i := 4) rfl fun K hK => ?_
  go_simp
  go_at_call 82
  refine (QG.out _ hkB.drew).mono ?_
  rintro e wc ⟨rfl,rfl⟩
  go_simp
  refine hK.out _ _ (fun _ => hHeld) ?_
  clear hK K
  try simp only [Act.put,Sq.t,Sq.z,Sq.s]
  refine Sq.oT (i := 10) rfl fun K hK => ?_
  go_simp
  go_at_call 83
  refine (QC.out _ hkB.drew).mono ?_
  rintro e wd ⟨rfl,hW⟩
  obtain ⟨F1,ht1,hk1,hn1⟩ := (HT.out.calm (hkB.drew)).call hW
  have hkw : Keeps (jb :: (H ++ F)) w wd := ((hkB.drew).mono (by simp)).trans hk1 (fun q hq => .inl (by simp [hq]))
  have hnw : ∀ q,q ∈ F1 → q ∈ F ∨ w.heap.size ≤ q := fun q hq => (hn1 q hq).imp id (fun h => Nat.le_trans (hkB.drew).size h)
  have hW1 : WentC w0 w wd z F H jb cb dp nv S' c d x := WentC.of ht1 hkw hnw (fun q hq => .inl hq)
  have HW1 := Lib.hid hW1
  have hfx := ht1.cm.fix
  have hvx := ht1.cm.var
  obtain ⟨v7,v8,v10,v11⟩ := hvx
  have g8 := ht1.cm.frozen 8
  have g10 := ht1.cm.frozen 10
  have g11 := ht1.cm.frozen 11
  have hS1 : wd.cell? ⟨cb,0,none⟩ = some (PT z.p) ∧ wd.cell? ⟨cb,4,none⟩ = some (.int .i64 x.thread) := ⟨hfx.1,hfx.2.2.2.2.1⟩
  clear hW hW1 ht1 hk1 hn1 hkw hnw hfx
  go_simp
  refine hK.out _ _ (fun _ => hS1) ?_
  clear hK K
  try simp only [Act.put,Sq.t,Sq.z,Sq.s]
  replace hHeld := hS1
  refine Sq.kT (i := 11) (v := ?rvb11) rfl ?ryb11 hHeld ?rrb11
  case ryb11 => (intro w' hSw; (try dsimp only at hSw); go_simp; first | done | with_reducible rfl)
  try simp only [Act.put,Sq.t,Sq.z,Sq.s]
  refine Sq.kT (i := 12) (v := ?rvb12) rfl ?ryb12 hHeld ?rrb12
  case ryb12 => (intro w' hSw; (try dsimp only at hSw); go_simp; first | done | with_reducible rfl)
  try simp only [Act.put,Sq.t,Sq.z,Sq.s]
  refine Sq.kT (i := 13) (v := ?rvb13) rfl ?ryb13 hHeld ?rrb13
  case ryb13 => (intro w' hSw; (try dsimp only at hSw); go_simp; first | done | with_reducible rfl)
  try simp only [Act.put,Sq.t,Sq.z,Sq.s]
  refine Sq.kT (i := 14) (v := ?rvb14) rfl ?ryb14 hHeld ?rrb14
  case ryb14 => (intro w' hSw; (try dsimp only at hSw); go_simp; first | done | with_reducible rfl)
  try simp only [Act.put,Sq.t,Sq.z,Sq.s]
  refine Sq.kT (i := 15) (v := ?rvb15) rfl ?ryb15 hHeld ?rrb15
  case ryb15 => (intro w' hSw; (try dsimp only at hSw); go_simp; first | done | with_reducible rfl)
  try simp only [Act.put,Sq.t,Sq.z,Sq.s]
  refine wpAnyL_done (by kernel_rfl) ?_ _
  refine NoPanic.normal ?_
  go_wp2_with fail
  try go_quiet (fail)
  try go_wp2_with fail
  go_ret2
  first
   | exact ⟨rfl,HW1.out.st .take⟩
   | exact ⟨rfl,(HW1.out.calm ((Keeps.refl [] wd).drewN _)).st .take⟩
set_option maxRecDepth 100000 in
set_option maxHeartbeats 4000000 in
theorem cm_give (h : CmTrio w0 w z F H jb cb dp nv S c d x) (hf : Fit k S) (hk : k ≤ 1099511627776) : Calls Tryz.prog 204 #[.agg #[],PT cb] w fun e w' => e = .returned (.tuple #[.int .i64 1,stgVal dp .free]) ∧ WentC w0 w w' z F H jb cb dp nv (S.give x.thread).2 c d { x with won := true,st := .free } := by
 obtain ⟨wB,hwB⟩ : ∃ q,w.alloc (.cells #[] 289) = q := ⟨_,rfl⟩
 have hkB : Keeps [] w wB := by rw [← hwB]; simp
 have HT := Lib.hid h
 have HC := Lib.hid (show ∀ w',Keeps [] w w' → w'.cell? ⟨cb,0,none⟩ = some (PT z.p) ∧ w'.cell? ⟨cb,4,none⟩ = some (.int .i64 x.thread) from fun w' hk' => let q := (h.calm hk').cm.fix; ⟨q.1,q.2.2.2.2.1⟩)
 have QG := Lib.hid (fun w' (hk' : Keeps [] w w') => sp_gate (h.calm hk').sp)
 have QS := Lib.hid (fun w' (hk' : Keeps [] w w') => sp_slots (h.calm hk').sp)
 have hcl := fun (w' : World) (hk' : Keeps [] w w') => sp_give (h.calm hk').sp hf hk x.thread
 obtain ⟨er,her⟩ : ∃ v,(S.give x.thread).1 = v := ⟨_,rfl⟩
 obtain ⟨S',hS'⟩ : ∃ v,(S.give x.thread).2 = v := ⟨_,rfl⟩
 simp only [her,hS'] at hcl ⊢
 have QC := Lib.hid hcl
 clear hcl her hS' hf hk h
 go_enter Tryz.func204,Tryz.ntmps204
 go_wp2_with fail
 try rw [hwB]
 refine wp_region_noPanic ?_
 refine wp_region_L 99 (fun w' => w'.cell? ⟨cb,0,none⟩ = some (PT z.p) ∧ w'.cell? ⟨cb,4,none⟩ = some (.int .i64 x.thread)) (by kernel_rfl) ?_
 have hHeld := HC.out _ (hkB.drew)
 refine Sq.kT (i := 0) (v := ?rv0) rfl ?ry0 hHeld ?rr0
 case ry0 => (intro w' hSw; (try dsimp only at hSw); go_simp; first | done | with_reducible rfl)
 try simp only [Act.put,Sq.t,Sq.z,Sq.s]
 refine Sq.kT (i := 1) (v := ?rv1) rfl ?ry1 hHeld ?rr1
 case ry1 => (intro w' hSw; (try dsimp only at hSw); go_simp; first | done | with_reducible rfl)
 try simp only [Act.put,Sq.t,Sq.z,Sq.s]
 refine Sq.kT (i := 2) (v := ?rv2) rfl ?ry2 hHeld ?rr2
 case ry2 => (intro w' hSw; (try dsimp only at hSw); go_simp; first | done | with_reducible rfl)
 try simp only [Act.put,Sq.t,Sq.z,Sq.s]
 refine Sq.kT (i := 3) (v := ?rv3) rfl ?ry3 hHeld ?rr3
 case ry3 => (intro w' hSw; (try dsimp only at hSw); go_simp; first | done | with_reducible rfl)
 try simp only [Act.put,Sq.t,Sq.z,Sq.s]
 refine Sq.kT (i := 5) (v := ?rv5) rfl ?ry5 hHeld ?rr5
 case ry5 => (intro w' hSw; (try dsimp only at hSw); go_simp; first | done | with_reducible rfl)
 try simp only [Act.put,Sq.t,Sq.z,Sq.s]
 refine Sq.kT (i := 6) (v := ?rv6) rfl ?ry6 hHeld ?rr6
 case ry6 => (intro w' hSw; (try dsimp only at hSw); go_simp; first | done | with_reducible rfl)
 try simp only [Act.put,Sq.t,Sq.z,Sq.s]
 refine Sq.kT (i := 7) (v := ?rv7) rfl ?ry7 hHeld ?rr7
 case ry7 => (intro w' hSw; (try dsimp only at hSw); go_simp; first | done | with_reducible rfl)
 try simp only [Act.put,Sq.t,Sq.z,Sq.s]
 refine Sq.kT (i := 8) (v := ?rv8) rfl ?ry8 hHeld ?rr8
 case ry8 => (intro w' hSw; (try dsimp only at hSw); go_simp; first | done | with_reducible rfl)
 try simp only [Act.put,Sq.t,Sq.z,Sq.s]
 refine Sq.kT (i := 9) (v := ?rv9) rfl ?ry9 hHeld ?rr9
 case ry9 => (intro w' hSw; (try dsimp only at hSw); go_simp; first | done | with_reducible rfl)
 try simp only [Act.put,Sq.t,Sq.z,Sq.s]
 refine Sq.oT (i := 4) rfl fun K hK => ?_
 go_simp
 go_at_call 82
 refine (QG.out _ hkB.drew).mono ?_
 rintro e wc ⟨rfl,rfl⟩
 go_simp
 refine hK.out _ _ (fun _ => hHeld) ?_
 clear hK K
 try simp only [Act.put,Sq.t,Sq.z,Sq.s]
 refine Sq.oT (i := 10) rfl fun K hK => ?_
 go_simp
 go_at_call 85
 refine (QC.out _ hkB.drew).mono ?_
 rintro e wd ⟨rfl,hW⟩
 obtain ⟨F1,ht1,hk1,hn1⟩ := (HT.out.calm (hkB.drew)).call hW
 have hkw : Keeps (jb :: (H ++ F)) w wd := ((hkB.drew).mono (by simp)).trans hk1 (fun q hq => .inl (by simp [hq]))
 have hnw : ∀ q,q ∈ F1 → q ∈ F ∨ w.heap.size ≤ q := fun q hq => (hn1 q hq).imp id (fun h => Nat.le_trans (hkB.drew).size h)
 have hW1 : WentC w0 w wd z F H jb cb dp nv S' c d x := WentC.of ht1 hkw hnw (fun q hq => .inl hq)
 have HW1 := Lib.hid hW1
 have hfx := ht1.cm.fix
 have hvx := ht1.cm.var
 obtain ⟨v7,v8,v10,v11⟩ := hvx
 have g8 := ht1.cm.frozen 8
 have g10 := ht1.cm.frozen 10
 have g11 := ht1.cm.frozen 11
 have hS1 : wd.cell? ⟨cb,0,none⟩ = some (PT z.p) ∧ wd.cell? ⟨cb,4,none⟩ = some (.int .i64 x.thread) := ⟨hfx.1,hfx.2.2.2.2.1⟩
 clear hW hW1 ht1 hk1 hn1 hkw hnw hfx
 go_simp
 refine hK.out _ _ (fun _ => hS1) ?_
 clear hK K
 try simp only [Act.put,Sq.t,Sq.z,Sq.s]
 replace hHeld := hS1
 refine wpAnyL_done (by kernel_rfl) ?_ _
 refine NoPanic.normal ?_
 go_wp2_with fail
 go_ret2
 exact ⟨rfl,(HW1.out.set 11 (.bool true) (x' := { x with won := true,st := .free }) (fun _ _ => rfl) rfl rfl rfl (Blk.lt HT.out.j) HT.out.jH)⟩
set_option maxRecDepth 100000 in
set_option maxHeartbeats 4000000 in
theorem cm_giveUp (h : CmTrio w0 w z F H jb cb dp nv S c d x) (hf : Fit k S) (hk : k ≤ 1099511627776) : Calls Tryz.prog 199 #[.agg #[],PT cb] w fun e w' => e = .returned (.tuple #[.int .i64 (if x.e = 9 then 2 else 1),stgVal dp .free]) ∧ WentC w0 w w' z F H jb cb dp nv (S.give x.thread).2 c d (x.at_ .free) := by
 obtain ⟨wB,hwB⟩ : ∃ q,w.alloc (.cells #[] 275) = q := ⟨_,rfl⟩
 have hkB : Keeps [] w wB := by rw [← hwB]; simp
 have HT := Lib.hid h
 have HC := Lib.hid (show ∀ w',Keeps [] w w' → w'.cell? ⟨cb,0,none⟩ = some (PT z.p) ∧ w'.cell? ⟨cb,4,none⟩ = some (.int .i64 x.thread) from fun w' hk' => let q := (h.calm hk').cm.fix; ⟨q.1,q.2.2.2.2.1⟩)
 have QG := Lib.hid (fun w' (hk' : Keeps [] w w') => sp_gate (h.calm hk').sp)
 have QS := Lib.hid (fun w' (hk' : Keeps [] w w') => sp_slots (h.calm hk').sp)
 have hcl := fun (w' : World) (hk' : Keeps [] w w') => sp_give (h.calm hk').sp hf hk x.thread
 obtain ⟨er,her⟩ : ∃ v,(S.give x.thread).1 = v := ⟨_,rfl⟩
 obtain ⟨S',hS'⟩ : ∃ v,(S.give x.thread).2 = v := ⟨_,rfl⟩
 simp only [her,hS'] at hcl ⊢
 obtain ⟨pr,hpr⟩ : ∃ v : Int,(if x.e = 9 then 2 else 1) = v := ⟨_,rfl⟩
 rw [hpr]
 have HPR := Lib.hid hpr
 clear hpr
 have QC := Lib.hid hcl
 clear hcl her hS' hf hk h
 go_enter Tryz.func199,Tryz.ntmps199
 go_wp2_with fail
 try rw [hwB]
 refine wp_region_noPanic ?_
 refine wp_region_L 99 (fun w' => w'.cell? ⟨cb,0,none⟩ = some (PT z.p) ∧ w'.cell? ⟨cb,4,none⟩ = some (.int .i64 x.thread)) (by kernel_rfl) ?_
 have hHeld := HC.out _ (hkB.drew)
 refine Sq.kT (i := 0) (v := ?rv0) rfl ?ry0 hHeld ?rr0
 case ry0 => (intro w' hSw; (try dsimp only at hSw); go_simp; first | done | with_reducible rfl)
 try simp only [Act.put,Sq.t,Sq.z,Sq.s]
 refine Sq.kT (i := 1) (v := ?rv1) rfl ?ry1 hHeld ?rr1
 case ry1 => (intro w' hSw; (try dsimp only at hSw); go_simp; first | done | with_reducible rfl)
 try simp only [Act.put,Sq.t,Sq.z,Sq.s]
 refine Sq.kT (i := 2) (v := ?rv2) rfl ?ry2 hHeld ?rr2
 case ry2 => (intro w' hSw; (try dsimp only at hSw); go_simp; first | done | with_reducible rfl)
 try simp only [Act.put,Sq.t,Sq.z,Sq.s]
 refine Sq.kT (i := 3) (v := ?rv3) rfl ?ry3 hHeld ?rr3
 case ry3 => (intro w' hSw; (try dsimp only at hSw); go_simp; first | done | with_reducible rfl)
 try simp only [Act.put,Sq.t,Sq.z,Sq.s]
 refine Sq.kT (i := 5) (v := ?rv5) rfl ?ry5 hHeld ?rr5
 case ry5 => (intro w' hSw; (try dsimp only at hSw); go_simp; first | done | with_reducible rfl)
 try simp only [Act.put,Sq.t,Sq.z,Sq.s]
 refine Sq.kT (i := 6) (v := ?rv6) rfl ?ry6 hHeld ?rr6
 case ry6 => (intro w' hSw; (try dsimp only at hSw); go_simp; first | done | with_reducible rfl)
 try simp only [Act.put,Sq.t,Sq.z,Sq.s]
 refine Sq.kT (i := 7) (v := ?rv7) rfl ?ry7 hHeld ?rr7
 case ry7 => (intro w' hSw; (try dsimp only at hSw); go_simp; first | done | with_reducible rfl)
 try simp only [Act.put,Sq.t,Sq.z,Sq.s]
 refine Sq.kT (i := 8) (v := ?rv8) rfl ?ry8 hHeld ?rr8
 case ry8 => (intro w' hSw; (try dsimp only at hSw); go_simp; first | done | with_reducible rfl)
 try simp only [Act.put,Sq.t,Sq.z,Sq.s]
 refine Sq.kT (i := 9) (v := ?rv9) rfl ?ry9 hHeld ?rr9
 case ry9 => (intro w' hSw; (try dsimp only at hSw); go_simp; first | done | with_reducible rfl)
 try simp only [Act.put,Sq.t,Sq.z,Sq.s]
 refine Sq.oT (i := 4) rfl fun K hK => ?_
 go_simp
 go_at_call 82
 refine (QG.out _ hkB.drew).mono ?_
 rintro e wc ⟨rfl,rfl⟩
 go_simp
 refine hK.out _ _ (fun _ => hHeld) ?_
 clear hK K
 try simp only [Act.put,Sq.t,Sq.z,Sq.s]
 refine Sq.oT (i := 10) rfl fun K hK => ?_
 go_simp
 go_at_call 85
 refine (QC.out _ hkB.drew).mono ?_
 rintro e wd ⟨rfl,hW⟩
 obtain ⟨F1,ht1,hk1,hn1⟩ := (HT.out.calm (hkB.drew)).call hW
 have hkw : Keeps (jb :: (H ++ F)) w wd := ((hkB.drew).mono (by simp)).trans hk1 (fun q hq => .inl (by simp [hq]))
 have hnw : ∀ q,q ∈ F1 → q ∈ F ∨ w.heap.size ≤ q := fun q hq => (hn1 q hq).imp id (fun h => Nat.le_trans (hkB.drew).size h)
 have hW1 : WentC w0 w wd z F H jb cb dp nv S' c d x := WentC.of ht1 hkw hnw (fun q hq => .inl hq)
 have HW1 := Lib.hid hW1
 have hfx := ht1.cm.fix
 have hvx := ht1.cm.var
 obtain ⟨v7,v8,v10,v11⟩ := hvx
 have g8 := ht1.cm.frozen 8
 have g10 := ht1.cm.frozen 10
 have g11 := ht1.cm.frozen 11
 have hS1 : wd.cell? ⟨cb,0,none⟩ = some (PT z.p) ∧ wd.cell? ⟨cb,4,none⟩ = some (.int .i64 x.thread) := ⟨hfx.1,hfx.2.2.2.2.1⟩
 clear hW hW1 ht1 hk1 hn1 hkw hnw hfx
 go_simp
 refine hK.out _ _ (fun _ => hS1) ?_
 clear hK K
 try simp only [Act.put,Sq.t,Sq.z,Sq.s]
 replace hHeld := hS1
 refine wpAnyL_done (by kernel_rfl) ?_ _
 refine NoPanic.normal ?_
 by_cases h9 : x.e = 9
 ·
  have hpr : pr = 2 := by rw [← HPR.out,if_pos h9]
  subst hpr
  rw [h9] at v10
  clear h9
  go_wp2_with fail
  go_ret2
  exact ⟨rfl,HW1.out.st .free⟩
 ·
  have hpr : pr = 1 := by rw [← HPR.out,if_neg h9]
  subst hpr
  have e9 : (x.e == 9) = false := by simp [h9]
  clear h9
  go_wp2_with fail
  go_ret2
  exact ⟨rfl,HW1.out.st .free⟩
set_option maxRecDepth 100000 in
set_option maxHeartbeats 4000000 in
theorem cm_free (h : CmTrio w0 w z F H jb cb dp nv S c d x) (hf : Fit k S) (hk : k ≤ 1099511627776) : Calls Tryz.prog 203 #[.agg #[],PT cb] w fun e w' => e = .returned (.tuple #[.int .i64 1,stgVal dp .over]) ∧ WentC w0 w w' z F H jb cb dp nv (S.free x.slot x.gen).2 c d (x.at_ .over) := by
 obtain ⟨wB,hwB⟩ : ∃ q,w.alloc (.cells #[] 288) = q := ⟨_,rfl⟩
 have hkB : Keeps [] w wB := by rw [← hwB]; simp
 have HT := Lib.hid h
 have HC := Lib.hid (show ∀ w',Keeps [] w w' → w'.cell? ⟨cb,0,none⟩ = some (PT z.p) ∧ w'.cell? ⟨cb,2,none⟩ = some (.int .i64 x.slot) ∧ w'.cell? ⟨cb,3,none⟩ = some (.int .i64 x.gen) from fun w' hk' => let q := (h.calm hk').cm.fix; ⟨q.1,q.2.2.1,q.2.2.2.1⟩)
 have QG := Lib.hid (fun w' (hk' : Keeps [] w w') => sp_gate (h.calm hk').sp)
 have QS := Lib.hid (fun w' (hk' : Keeps [] w w') => sp_slots (h.calm hk').sp)
 have hcl := fun (w' : World) (hk' : Keeps [] w w') => sp_free (h.calm hk').sp hf hk x.slot x.gen
 obtain ⟨er,her⟩ : ∃ v,(S.free x.slot x.gen).1 = v := ⟨_,rfl⟩
 obtain ⟨S',hS'⟩ : ∃ v,(S.free x.slot x.gen).2 = v := ⟨_,rfl⟩
 simp only [her,hS'] at hcl ⊢
 have QC := Lib.hid hcl
 clear hcl her hS' hf hk h
 go_enter Tryz.func203,Tryz.ntmps203
 go_wp2_with fail
 try rw [hwB]
 refine wp_region_noPanic ?_
 refine wp_region_L 99 (fun w' => w'.cell? ⟨cb,0,none⟩ = some (PT z.p) ∧ w'.cell? ⟨cb,2,none⟩ = some (.int .i64 x.slot) ∧ w'.cell? ⟨cb,3,none⟩ = some (.int .i64 x.gen)) (by kernel_rfl) ?_
 have hHeld := HC.out _ (hkB.drew)
 refine Sq.kT (i := 0) (v := ?rv0) rfl ?ry0 hHeld ?rr0
 case ry0 => (intro w' hSw; (try dsimp only at hSw); go_simp; first | done | with_reducible rfl)
 try simp only [Act.put,Sq.t,Sq.z,Sq.s]
 refine Sq.kT (i := 1) (v := ?rv1) rfl ?ry1 hHeld ?rr1
 case ry1 => (intro w' hSw; (try dsimp only at hSw); go_simp; first | done | with_reducible rfl)
 try simp only [Act.put,Sq.t,Sq.z,Sq.s]
 refine Sq.kT (i := 2) (v := ?rv2) rfl ?ry2 hHeld ?rr2
 case ry2 => (intro w' hSw; (try dsimp only at hSw); go_simp; first | done | with_reducible rfl)
 try simp only [Act.put,Sq.t,Sq.z,Sq.s]
 refine Sq.kT (i := 3) (v := ?rv3) rfl ?ry3 hHeld ?rr3
 case ry3 => (intro w' hSw; (try dsimp only at hSw); go_simp; first | done | with_reducible rfl)
 try simp only [Act.put,Sq.t,Sq.z,Sq.s]
 refine Sq.kT (i := 5) (v := ?rv5) rfl ?ry5 hHeld ?rr5
 case ry5 => (intro w' hSw; (try dsimp only at hSw); go_simp; first | done | with_reducible rfl)
 try simp only [Act.put,Sq.t,Sq.z,Sq.s]
 refine Sq.kT (i := 6) (v := ?rv6) rfl ?ry6 hHeld ?rr6
 case ry6 => (intro w' hSw; (try dsimp only at hSw); go_simp; first | done | with_reducible rfl)
 try simp only [Act.put,Sq.t,Sq.z,Sq.s]
 refine Sq.kT (i := 7) (v := ?rv7) rfl ?ry7 hHeld ?rr7
 case ry7 => (intro w' hSw; (try dsimp only at hSw); go_simp; first | done | with_reducible rfl)
 try simp only [Act.put,Sq.t,Sq.z,Sq.s]
 refine Sq.kT (i := 8) (v := ?rv8) rfl ?ry8 hHeld ?rr8
 case ry8 => (intro w' hSw; (try dsimp only at hSw); go_simp; first | done | with_reducible rfl)
 try simp only [Act.put,Sq.t,Sq.z,Sq.s]
 refine Sq.kT (i := 9) (v := ?rv9) rfl ?ry9 hHeld ?rr9
 case ry9 => (intro w' hSw; (try dsimp only at hSw); go_simp; first | done | with_reducible rfl)
 try simp only [Act.put,Sq.t,Sq.z,Sq.s]
 refine Sq.kT (i := 10) (v := ?rv10) rfl ?ry10 hHeld ?rr10
 case ry10 => (intro w' hSw; (try dsimp only at hSw); go_simp; first | done | with_reducible rfl)
 try simp only [Act.put,Sq.t,Sq.z,Sq.s]
 refine Sq.kT (i := 11) (v := ?rv11) rfl ?ry11 hHeld ?rr11
 case ry11 => (intro w' hSw; (try dsimp only at hSw); go_simp; first | done | with_reducible rfl)
 try simp only [Act.put,Sq.t,Sq.z,Sq.s]
 refine Sq.kT (i := 12) (v := ?rv12) rfl ?ry12 hHeld ?rr12
 case ry12 => (intro w' hSw; (try dsimp only at hSw); go_simp; first | done | with_reducible rfl)
 try simp only [Act.put,Sq.t,Sq.z,Sq.s]
 refine Sq.kT (i := 13) (v := ?rv13) rfl ?ry13 hHeld ?rr13
 case ry13 => (intro w' hSw; (try dsimp only at hSw); go_simp; first | done | with_reducible rfl)
 try simp only [Act.put,Sq.t,Sq.z,Sq.s]
 refine Sq.kT (i := 14) (v := ?rv14) rfl ?ry14 hHeld ?rr14
 case ry14 => (intro w' hSw; (try dsimp only at hSw); go_simp; first | done | with_reducible rfl)
 try simp only [Act.put,Sq.t,Sq.z,Sq.s]
 refine Sq.oT (i := 4) rfl fun K hK => ?_
 go_simp
 go_at_call 25
 refine (QS.out _ hkB.drew).mono ?_
 rintro e wc ⟨rfl,rfl⟩
 go_simp
 refine hK.out _ _ (fun _ => hHeld) ?_
 clear hK K
 try simp only [Act.put,Sq.t,Sq.z,Sq.s]
 refine Sq.oT (i := 15) rfl fun K hK => ?_
 go_simp
 go_at_call 27
 refine (QC.out _ hkB.drew).mono ?_
 rintro e wd ⟨rfl,hW⟩
 obtain ⟨F1,ht1,hk1,hn1⟩ := (HT.out.calm (hkB.drew)).call hW
 have hkw : Keeps (jb :: (H ++ F)) w wd := ((hkB.drew).mono (by simp)).trans hk1 (fun q hq => .inl (by simp [hq]))
 have hnw : ∀ q,q ∈ F1 → q ∈ F ∨ w.heap.size ≤ q := fun q hq => (hn1 q hq).imp id (fun h => Nat.le_trans (hkB.drew).size h)
 have hW1 : WentC w0 w wd z F H jb cb dp nv S' c d x := WentC.of ht1 hkw hnw (fun q hq => .inl hq)
 have HW1 := Lib.hid hW1
 have hfx := ht1.cm.fix
 have hvx := ht1.cm.var
 obtain ⟨v7,v8,v10,v11⟩ := hvx
 have g8 := ht1.cm.frozen 8
 have g10 := ht1.cm.frozen 10
 have g11 := ht1.cm.frozen 11
 have hS1 : wd.cell? ⟨cb,0,none⟩ = some (PT z.p) ∧ wd.cell? ⟨cb,2,none⟩ = some (.int .i64 x.slot) ∧ wd.cell? ⟨cb,3,none⟩ = some (.int .i64 x.gen) := ⟨hfx.1,hfx.2.2.1,hfx.2.2.2.1⟩
 clear hW hW1 ht1 hk1 hn1 hkw hnw hfx
 go_simp
 refine hK.out _ _ (fun _ => hS1) ?_
 clear hK K
 try simp only [Act.put,Sq.t,Sq.z,Sq.s]
 replace hHeld := hS1
 refine wpAnyL_done (by kernel_rfl) ?_ _
 refine NoPanic.normal ?_
 go_wp2_with fail
 go_ret2
 exact ⟨rfl,HW1.out.st .over⟩
end
open Go.RowKit Pol
section
variable {w0 w w' : World} {z : Sb} {F H : List Nat} {S S' : Sp} {k jb cb dp : Nat} {x x' : Cm} {nv : Value} {c : Cf} {d d' : Int}
theorem pr_cell {w : World} {wv : Value} {ws : List Pr} (h : w.ownsRow 0 81 2 wv ws.length (prCells ws)) {k : Nat} {p : Pr} (hk : ws[k]? = some p) :
 ∃ g off cap,wv = .slice (some ⟨g,off,none⟩) ws.length cap ∧ w.cell? ⟨g,off + k * 2,none⟩ = some (.int .i64 p.cell) ∧ w.cell? ⟨g,off + k * 2 + 1,none⟩ = some (.int .i64 p.x) := by
 have hl := (List.getElem?_eq_some_iff.1 hk).1
 obtain ⟨g,off,c,e,_,_,hc⟩ := (SlR.of_own h).spot_pos (by omega)
 have hg : ∀ (l : List Pr) (k : Nat) (v : Pr),l[k]? = some v → ∀ j u,v.cells[j]? = some u → (prCells l)[k * 2 + j]? = some u := by
  intro l
  induction l with
  | nil => intro k v hk; simp at hk
  | cons x l ih =>
    intro k v hk j u hu
    have hj : j < 2 := by have := (List.getElem?_eq_some_iff.1 hu).1; simpa [Pr.cells] using this
    have e : prCells (x :: l) = x.cells ++ prCells l := by simp [prCells]
    rw [e]
    cases k with
    | zero =>
      simp at hk
      subst hk
      rw [Nat.zero_mul,Nat.zero_add,List.getElem?_append_left (by simpa [Pr.cells] using hj)]
      exact hu
    | succ k =>
      rw [List.getElem?_append_right (by simp [Pr.cells]; omega)]
      have := ih k v (by simpa using hk) j u hu
      have e2 : (k + 1) * 2 + j - x.cells.length = k * 2 + j := by simp [Pr.cells]; omega
      rw [e2]
      exact this
 refine ⟨g,off,c,e,?_,?_⟩
 · have := hc (k * 2 + 0) _ (hg ws k p hk 0 _ rfl); rw [← Nat.add_assoc] at this; exact this
 · have := hc (k * 2 + 1) _ (hg ws k p hk 1 _ rfl); rw [← Nat.add_assoc] at this; exact this
set_option maxRecDepth 100000 in
set_option maxHeartbeats 4000000 in
theorem cm_write (h : CmTrio w0 w z F H jb cb dp nv S c d x) (hf : Fit k S) (hk : k ≤ 1099511627776) (n : Nat) (p : Pr) (hp : x.ws[n]? = some p) (hw : x.ws.length ≤ 16) : Calls Tryz.prog 202 #[.agg #[.int .i64 n],PT cb] w fun e w' => e = .returned (.tuple #[.int .i64 1,stgVal dp (x.write_ n p S).1.st]) ∧ WentC w0 w w' z F H jb cb dp nv (x.write_ n p S).2 c d (x.write_ n p S).1 := by
 have bb := Blk.new w 282 #[.int .i64 n]
 obtain ⟨wB,hwB⟩ : ∃ q,w.alloc (.cells #[.int .i64 n] 282) = q := ⟨_,rfl⟩
 have hkB : Keeps [] w wB := by rw [← hwB]; simp
 rw [hwB] at bb
 have hsz : wB.heap.size = w.heap.size + 1 := by rw [← hwB]; simp
 have HT := Lib.hid h
 have hn := (List.getElem?_eq_some_iff.1 hp).1
 have n0 : (0 : Int) ≤ (n : Int) := by omega
 have n1 : (n : Int) < (x.ws.length : Int) := by omega
 obtain ⟨wv,hwv,how⟩ := (h.calm hkB).cm.writes
 obtain ⟨g,off,cap,rfl,_,_⟩ := pr_cell how hp
 have HC1 := Lib.hid (show ∀ w',Keeps [] wB w' → w'.cell? ⟨cb,6,none⟩ = some (.slice (some ⟨g,off,none⟩) x.ws.length cap) ∧ w'.cell? ⟨w.heap.size,0,none⟩ = some (.int .i64 n) ∧ w'.cell? ⟨g,off + n * 2,none⟩ = some (.int .i64 p.cell) ∧ w'.cell? ⟨g,off + n * 2 + 1,none⟩ = some (.int .i64 p.x) from fun w' hk' => by
  have hk2 := own_keeps how hk' (fun q hq => by simp)
  obtain ⟨g',off',cap',e,q1,q2⟩ := pr_cell hk2 hp
  injection e with e1 e2 e3
  injection e1 with e1
  injection e1 with e4 e5 e6
  subst e4
  subst e5
  exact ⟨keeps_cell0 hk' hwv,(Blk.cell (bb.keeps hk' (by simp)) 0).trans rfl,q1,q2⟩)
 have HB := Lib.hid bb
 clear hwv how
 have hcl := fun (w' : World) (hk' : Keeps [] w w') => sp_store (h.calm hk').sp hf hk p.cell p.x
 obtain ⟨er,her⟩ : ∃ v,(S.store p.cell p.x).1 = v := ⟨_,rfl⟩
 obtain ⟨S',hS'⟩ : ∃ v,(S.store p.cell p.x).2 = v := ⟨_,rfl⟩
 unfold Cm.write_
 simp only [her,hS'] at hcl ⊢
 have QC := Lib.hid hcl
 have HCX := Lib.hid (show ∀ w',Keeps [] w w' → w'.cell? ⟨cb,0,none⟩ = some (PT z.p) from fun w' hk' => (h.calm hk').cm.fix.1)
 have hcF1 : Hid (w.heap.size + 1 ∉ F) := fun hx => Nat.not_succ_le_self _ (Nat.le_of_lt (h.sp.lt _ hx))
 have hcF : Hid (w.heap.size ∉ F) := fun hx => Nat.lt_irrefl _ (h.sp.lt _ hx)
 obtain ⟨sg,hsg⟩ : ∃ v,(if n + 1 < x.ws.length then Stg.write (n + 1) else Stg.give) = v := ⟨_,rfl⟩
 rw [hsg]
 have HSG := Lib.hid hsg
 have HP := Lib.hid hp
 have hwr : IntKind.i64.wrap ((n : Int) + 1) = (n : Int) + 1 := by rw [IntKind.wrap_i64]; omega
 clear hcl her hS' hf hk h hp hn hsg bb
 have hkB0 : Keeps [] wB wB := Keeps.refl _ _
 go_enter Tryz.func202,Tryz.ntmps202
 go_wp2_with fail
 try rw [hwB]
 refine wp_region_noPanic ?_
 refine wp_region_L 10 (fun w' => w'.cell? ⟨cb,6,none⟩ = some (.slice (some ⟨g,off,none⟩) x.ws.length cap) ∧ w'.cell? ⟨w.heap.size,0,none⟩ = some (.int .i64 n) ∧ w'.cell? ⟨g,off + n * 2,none⟩ = some (.int .i64 p.cell) ∧ w'.cell? ⟨g,off + n * 2 + 1,none⟩ = some (.int .i64 p.x)) (by kernel_rfl) ?_
 have hHeld := HC1.out _ hkB0.drew
 refine Sq.kT (i := 0) (v := ?rva0) rfl ?rya0 hHeld ?rra0
 case rya0 => (intro w' hSw; (try dsimp only at hSw); go_simp; first | done | with_reducible rfl)
 try simp only [Act.put,Sq.t,Sq.z,Sq.s]
 refine Sq.kT (i := 1) (v := ?rva1) rfl ?rya1 hHeld ?rra1
 case rya1 => (intro w' hSw; (try dsimp only at hSw); go_simp; first | done | with_reducible rfl)
 try simp only [Act.put,Sq.t,Sq.z,Sq.s]
 refine Sq.kT (i := 2) (v := ?rva2) rfl ?rya2 hHeld ?rra2
 case rya2 => (intro w' hSw; (try dsimp only at hSw); go_simp; first | done | with_reducible rfl)
 try simp only [Act.put,Sq.t,Sq.z,Sq.s]
 refine Sq.kT (i := 3) (v := ?rva3) rfl ?rya3 hHeld ?rra3
 case rya3 => (intro w' hSw; (try dsimp only at hSw); go_simp; first | done | with_reducible rfl)
 try simp only [Act.put,Sq.t,Sq.z,Sq.s]
 refine Sq.kT (i := 4) (v := ?rva4) rfl ?rya4 hHeld ?rra4
 case rya4 => (intro w' hSw; (try dsimp only at hSw); go_simp; first | done | with_reducible rfl)
 try simp only [Act.put,Sq.t,Sq.z,Sq.s]
 refine Sq.kT (i := 5) (v := ?rva5) rfl ?rya5 hHeld ?rra5
 case rya5 => (intro w' hSw; (try dsimp only at hSw); go_simp; first | done | with_reducible rfl)
 try simp only [Act.put,Sq.t,Sq.z,Sq.s]
 refine Sq.kT (i := 6) (v := ?rva6) rfl ?rya6 hHeld ?rra6
 case rya6 => (intro w' hSw; (try dsimp only at hSw); go_simp; first | done | with_reducible rfl)
 try simp only [Act.put,Sq.t,Sq.z,Sq.s]
 refine Sq.kT (i := 7) (v := ?rva7) rfl ?rya7 hHeld ?rra7
 case rya7 => (intro w' hSw; (try dsimp only at hSw); go_simp; first | done | with_reducible rfl)
 try simp only [Act.put,Sq.t,Sq.z,Sq.s]
 refine Sq.kT (i := 8) (v := ?rva8) rfl ?rya8 hHeld ?rra8
 case rya8 => (intro w' hSw; (try dsimp only at hSw); go_simp; first | done | with_reducible rfl)
 try simp only [Act.put,Sq.t,Sq.z,Sq.s]
 refine Sq.oT (i := 9) rfl fun K hK => ?_
 go_simp
 refine hK.out _ _ (fun _ => HC1.out _ (hkB0.drew.alloc _)) ?_
 clear hK K
 try simp only [Act.put,Sq.t,Sq.z,Sq.s]
 refine Sq.oT (i := 10) rfl fun K hK => ?_
 go_simp
 refine hK.out _ _ (fun h => absurd rfl h) ?_
 clear hK K
 try simp only [Act.put,Sq.t,Sq.z,Sq.s]
 refine wpAnyL_done (by kernel_rfl) ?_ _
 refine NoPanic.normal ?_
 go_wp2_with fail
 obtain ⟨wC,hwC⟩ : ∃ q,(wB.alloc (.cells #[.int .i64 p.cell,.int .i64 p.x] 81)).drew = q := ⟨_,rfl⟩
 have hkC : Keeps [] wB wC := by rw [← hwC]; exact (hkB0.alloc _).drew
 have hbC : Blk wC (w.heap.size + 1) 81 #[.int .i64 p.cell,.int .i64 p.x] := by rw [← hwC,← hsz]; exact (Blk.new _ _ _).drew
 rw [hwC]
 have hkCw : Keeps [] w wC := hkB.trans hkC (by simp)
 have HC2 := Lib.hid (show ∀ w',Keeps [] wC w' → w'.cell? ⟨cb,0,none⟩ = some (PT z.p) ∧ w'.cell? ⟨w.heap.size + 1,0,none⟩ = some (.int .i64 p.cell) ∧ w'.cell? ⟨w.heap.size + 1,1,none⟩ = some (.int .i64 p.x) from fun w' hk' => ⟨HCX.out _ (hkCw.trans hk' (by simp)),(Blk.cell (hbC.keeps hk' (by simp)) 0).trans rfl,(Blk.cell (hbC.keeps hk' (by simp)) 1).trans rfl⟩)
 have hkC0 : Keeps [] wC wC := Keeps.refl _ _
 have HB1 := Lib.hid (HB.out.keeps hkC (by simp))
 have HPB := Lib.hid hbC
 clear hwC hwB hkB0 hbC
 refine wp_region_noPanic ?_
 refine wp_region_L 99 (fun w' => w'.cell? ⟨cb,0,none⟩ = some (PT z.p) ∧ w'.cell? ⟨w.heap.size + 1,0,none⟩ = some (.int .i64 p.cell) ∧ w'.cell? ⟨w.heap.size + 1,1,none⟩ = some (.int .i64 p.x)) (by kernel_rfl) ?_
 have hHeld := HC2.out _ hkC0.drew
 refine Sq.kT (i := 0) (v := ?rvc0) rfl ?ryc0 hHeld ?rrc0
 case ryc0 => (intro w' hSw; (try dsimp only at hSw); go_simp; first | done | with_reducible rfl)
 try simp only [Act.put,Sq.t,Sq.z,Sq.s]
 refine Sq.kT (i := 1) (v := ?rvc1) rfl ?ryc1 hHeld ?rrc1
 case ryc1 => (intro w' hSw; (try dsimp only at hSw); go_simp; first | done | with_reducible rfl)
 try simp only [Act.put,Sq.t,Sq.z,Sq.s]
 refine Sq.kT (i := 2) (v := ?rvc2) rfl ?ryc2 hHeld ?rrc2
 case ryc2 => (intro w' hSw; (try dsimp only at hSw); go_simp; first | done | with_reducible rfl)
 try simp only [Act.put,Sq.t,Sq.z,Sq.s]
 refine Sq.kT (i := 3) (v := ?rvc3) rfl ?ryc3 hHeld ?rrc3
 case ryc3 => (intro w' hSw; (try dsimp only at hSw); go_simp; first | done | with_reducible rfl)
 try simp only [Act.put,Sq.t,Sq.z,Sq.s]
 refine Sq.kT (i := 4) (v := ?rvc4) rfl ?ryc4 hHeld ?rrc4
 case ryc4 => (intro w' hSw; (try dsimp only at hSw); go_simp; first | done | with_reducible rfl)
 try simp only [Act.put,Sq.t,Sq.z,Sq.s]
 refine Sq.kT (i := 5) (v := ?rvc5) rfl ?ryc5 hHeld ?rrc5
 case ryc5 => (intro w' hSw; (try dsimp only at hSw); go_simp; first | done | with_reducible rfl)
 try simp only [Act.put,Sq.t,Sq.z,Sq.s]
 refine Sq.kT (i := 6) (v := ?rvc6) rfl ?ryc6 hHeld ?rrc6
 case ryc6 => (intro w' hSw; (try dsimp only at hSw); go_simp; first | done | with_reducible rfl)
 try simp only [Act.put,Sq.t,Sq.z,Sq.s]
 refine Sq.kT (i := 7) (v := ?rvc7) rfl ?ryc7 hHeld ?rrc7
 case ryc7 => (intro w' hSw; (try dsimp only at hSw); go_simp; first | done | with_reducible rfl)
 try simp only [Act.put,Sq.t,Sq.z,Sq.s]
 refine Sq.oT (i := 8) rfl fun K hK => ?_
 go_simp
 go_at_call 80
 refine (QC.out _ hkCw.drew).mono ?_
 rintro e wd ⟨rfl,hW⟩
 have hWk := hW
 obtain ⟨F0,_,hkF,_⟩ := hWk
 have bx := (HB1.out.drew).keeps hkF hcF.out
 have x0 : wd.cell? ⟨w.heap.size,0,none⟩ = some (.int .i64 n) := (bx.cell 0).trans rfl
 have by_ := (HPB.out.drew).keeps hkF hcF1.out
 have y0 : wd.cell? ⟨w.heap.size + 1,0,none⟩ = some (.int .i64 p.cell) := (by_.cell 0).trans rfl
 have y1 : wd.cell? ⟨w.heap.size + 1,1,none⟩ = some (.int .i64 p.x) := (by_.cell 1).trans rfl
 clear bx by_ hkF
 obtain ⟨F1,ht1,hk1,hn1⟩ := (HT.out.calm (hkCw.drew)).call hW
 have hkw : Keeps (jb :: (H ++ F)) w wd := ((hkCw.drew).mono (by simp)).trans hk1 (fun q hq => .inl (by simp [hq]))
 have hnw : ∀ q,q ∈ F1 → q ∈ F ∨ w.heap.size ≤ q := fun q hq => (hn1 q hq).imp id (fun h => Nat.le_trans (hkCw.drew).size h)
 have hW1 : WentC w0 w wd z F H jb cb dp nv S' c d x := WentC.of ht1 hkw hnw (fun q hq => .inl hq)
 have HW1 := Lib.hid hW1
 have hfx := ht1.cm.fix
 have hvx := ht1.cm.var
 obtain ⟨v7,v8,v10,v11⟩ := hvx
 have g8 := ht1.cm.frozen 8
 have g10 := ht1.cm.frozen 10
 have g11 := ht1.cm.frozen 11
 have hS1 : wd.cell? ⟨cb,0,none⟩ = some (PT z.p) := hfx.1
 obtain ⟨wv2,c6,how2⟩ := ht1.cm.writes
 obtain ⟨g2,off2,cap2,rfl,_,_⟩ := pr_cell how2 HP.out
 clear how2
 clear hW hW1 ht1 hk1 hn1 hkw hnw hfx
 have hS2 : wd.cell? ⟨cb,0,none⟩ = some (PT z.p) ∧ wd.cell? ⟨w.heap.size + 1,0,none⟩ = some (.int .i64 p.cell) ∧ wd.cell? ⟨w.heap.size + 1,1,none⟩ = some (.int .i64 p.x) := ⟨hS1,y0,y1⟩
 go_simp
 refine hK.out _ _ (fun _ => hS2) ?_
 clear hK K
 try simp only [Act.put,Sq.t,Sq.z,Sq.s]
 refine wpAnyL_done (by kernel_rfl) ?_ _
 refine NoPanic.normal ?_
 by_cases hlt : n + 1 < x.ws.length
 ·
  have hsg := HSG.out
  rw [if_pos hlt] at hsg
  subst hsg
  have e3 : decide ((n : Int) + 1 < (x.ws.length : Int)) = true := by simp; omega
  go_wp2_with fail
  go_quiet (fail)
  go_wp2_with fail
  go_quiet (fail)
  go_wp2_with fail
  go_ret2
  exact ⟨rfl,(HW1.out.calm (((Keeps.refl [] wd).drewN _).drewN _)).st _⟩
 ·
  have hsg := HSG.out
  rw [if_neg hlt] at hsg
  subst hsg
  have e3 : decide ((n : Int) + 1 < (x.ws.length : Int)) = false := by simp; omega
  go_wp2_with fail
  go_quiet (fail)
  go_wp2_with fail
  go_ret2
  exact ⟨rfl,(HW1.out.calm ((Keeps.refl [] wd).drewN _)).st _⟩
end
end Go.Proofs.YtmlnedilbneekaaGreat