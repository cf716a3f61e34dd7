/- Layer 13: a commit's Step, through its stages. -/
import Derived.Test.YtmlnedilbneekaaGreatCmOwn
set_option linter.unusedVariables false
set_option linter.unusedSimpArgs false
namespace Go.Proofs.YtmlnedilbneekaaGreat
open Go.RowKit Pol
section
variable {w0 w w' : World} {z : Sb} {F H : List Nat} {S S' : Sp} {k jb cb dp : Nat} {x x' : Cm} {nv : Value} {c : Cf} {d d' : Int}
theorem stgVal_form (dp : Nat) (s : Stg) : (∃ t v,stgVal dp s = .iface t v) ∨ stgVal dp s = .nilIface := by cases s <;> first | exact .inl ⟨_,_,rfl⟩ | exact .inr rfl
set_option maxRecDepth 100000 in
set_option maxHeartbeats 2000000 in
theorem go_take {a : Int} (h : CmTrio w0 w z F H jb cb dp (.iface 160 (.agg #[])) S c d x) (hq : Calls Tryz.prog 179 #[(.agg #[]),PT cb] w fun e w' => ∃ dp',e = .returned (.tuple #[.int .i64 a,stgVal dp' x'.st]) ∧ WentC w0 w w' z F H jb cb dp' (.iface 160 (.agg #[])) S' c d' x') :
 Calls Tryz.prog 17 #[PT cb] w fun e w' => e = .returned (.int .i64 a) ∧ ∃ dp',WentC w0 w w' z F H jb cb dp' (stgVal dp' x'.st) S' c d' x' := by
 have c7 := h.cm.var.1
 have HQ := Lib.hid hq
 have HT := Lib.hid h
 clear hq h
 go_enter Tryz.func17,Tryz.ntmps17
 go_wp2_with fail
 refine HQ.out.mono ?_
 rintro e w1 ⟨dp',rfl,hW⟩
 have HW := Lib.hid hW
 obtain ⟨F1,H1,ht1,_⟩ := WentC.trio HT.out hW
 obtain ⟨v7,_⟩ := ht1.cm.var
 have g7 := ht1.cm.frozen 7
 rcases stgVal_form dp' x'.st with ⟨tt,vv,hnv'⟩ | hnv'
 · rw [hnv']
   have HNV := Lib.hid hnv'
   clear hW ht1 hnv'
   go_wp2_with fail
   go_ret
   exact ⟨rfl,dp',by rw [HNV.out]; exact HW.out.set 7 _ (fun _ _ => rfl) rfl rfl rfl (Blk.lt HT.out.j) HT.out.jH⟩
 · rw [hnv']
   have HNV := Lib.hid hnv'
   clear hW ht1 hnv'
   go_wp2_with fail
   go_ret
   exact ⟨rfl,dp',by rw [HNV.out]; exact HW.out.set 7 _ (fun _ _ => rfl) rfl rfl rfl (Blk.lt HT.out.j) HT.out.jH⟩
set_option maxRecDepth 100000 in
set_option maxHeartbeats 2000000 in
theorem go_own {a : Int} (h : CmTrio w0 w z F H jb cb dp (.iface 269 (.agg #[])) S c d x) (hq : Calls Tryz.prog 187 #[(.agg #[]),PT cb] w fun e w' => ∃ dp',e = .returned (.tuple #[.int .i64 a,stgVal dp' x'.st]) ∧ WentC w0 w w' z F H jb cb dp' (.iface 269 (.agg #[])) S' c d' x') :
 Calls Tryz.prog 17 #[PT cb] w fun e w' => e = .returned (.int .i64 a) ∧ ∃ dp',WentC w0 w w' z F H jb cb dp' (stgVal dp' x'.st) S' c d' x' := by
 have c7 := h.cm.var.1
 have HQ := Lib.hid hq
 have HT := Lib.hid h
 clear hq h
 go_enter Tryz.func17,Tryz.ntmps17
 go_wp2_with fail
 refine HQ.out.mono ?_
 rintro e w1 ⟨dp',rfl,hW⟩
 have HW := Lib.hid hW
 obtain ⟨F1,H1,ht1,_⟩ := WentC.trio HT.out hW
 obtain ⟨v7,_⟩ := ht1.cm.var
 have g7 := ht1.cm.frozen 7
 rcases stgVal_form dp' x'.st with ⟨tt,vv,hnv'⟩ | hnv'
 · rw [hnv']
   have HNV := Lib.hid hnv'
   clear hW ht1 hnv'
   go_wp2_with fail
   go_ret
   exact ⟨rfl,dp',by rw [HNV.out]; exact HW.out.set 7 _ (fun _ _ => rfl) rfl rfl rfl (Blk.lt HT.out.j) HT.out.jH⟩
 · rw [hnv']
   have HNV := Lib.hid hnv'
   clear hW ht1 hnv'
   go_wp2_with fail
   go_ret
   exact ⟨rfl,dp',by rw [HNV.out]; exact HW.out.set 7 _ (fun _ _ => rfl) rfl rfl rfl (Blk.lt HT.out.j) HT.out.jH⟩
set_option maxRecDepth 100000 in
set_option maxHeartbeats 2000000 in
theorem go_looking {a : Int} (h : CmTrio w0 w z F H jb cb dp (.iface 276 (.agg #[])) S c d x) (hq : Calls Tryz.prog 200 #[(.agg #[]),PT cb] w fun e w' => ∃ dp',e = .returned (.tuple #[.int .i64 a,stgVal dp' x'.st]) ∧ WentC w0 w w' z F H jb cb dp' (.iface 276 (.agg #[])) S' c d' x') :
 Calls Tryz.prog 17 #[PT cb] w fun e w' => e = .returned (.int .i64 a) ∧ ∃ dp',WentC w0 w w' z F H jb cb dp' (stgVal dp' x'.st) S' c d' x' := by
 have c7 := h.cm.var.1
 have HQ := Lib.hid hq
 have HT := Lib.hid h
 clear hq h
 go_enter Tryz.func17,Tryz.ntmps17
 go_wp2_with fail
 refine HQ.out.mono ?_
 rintro e w1 ⟨dp',rfl,hW⟩
 have HW := Lib.hid hW
 obtain ⟨F1,H1,ht1,_⟩ := WentC.trio HT.out hW
 obtain ⟨v7,_⟩ := ht1.cm.var
 have g7 := ht1.cm.frozen 7
 rcases stgVal_form dp' x'.st with ⟨tt,vv,hnv'⟩ | hnv'
 · rw [hnv']
   have HNV := Lib.hid hnv'
   clear hW ht1 hnv'
   go_wp2_with fail
   go_ret
   exact ⟨rfl,dp',by rw [HNV.out]; exact HW.out.set 7 _ (fun _ _ => rfl) rfl rfl rfl (Blk.lt HT.out.j) HT.out.jH⟩
 · rw [hnv']
   have HNV := Lib.hid hnv'
   clear hW ht1 hnv'
   go_wp2_with fail
   go_ret
   exact ⟨rfl,dp',by rw [HNV.out]; exact HW.out.set 7 _ (fun _ _ => rfl) rfl rfl rfl (Blk.lt HT.out.j) HT.out.jH⟩
set_option maxRecDepth 100000 in
set_option maxHeartbeats 2000000 in
theorem go_doom {a : Int} (h : CmTrio w0 w z F H jb cb dp (.iface 279 (.agg #[PT dp])) S c d x) (hq : Calls Tryz.prog 201 #[(.agg #[PT dp]),PT cb] w fun e w' => ∃ dp',e = .returned (.tuple #[.int .i64 a,stgVal dp' x'.st]) ∧ WentC w0 w w' z F H jb cb dp' (.iface 279 (.agg #[PT dp])) S' c d' x') :
 Calls Tryz.prog 17 #[PT cb] w fun e w' => e = .returned (.int .i64 a) ∧ ∃ dp',WentC w0 w w' z F H jb cb dp' (stgVal dp' x'.st) S' c d' x' := by
 have c7 := h.cm.var.1
 have HQ := Lib.hid hq
 have HT := Lib.hid h
 clear hq h
 go_enter Tryz.func17,Tryz.ntmps17
 go_wp2_with fail
 refine HQ.out.mono ?_
 rintro e w1 ⟨dp',rfl,hW⟩
 have HW := Lib.hid hW
 obtain ⟨F1,H1,ht1,_⟩ := WentC.trio HT.out hW
 obtain ⟨v7,_⟩ := ht1.cm.var
 have g7 := ht1.cm.frozen 7
 rcases stgVal_form dp' x'.st with ⟨tt,vv,hnv'⟩ | hnv'
 · rw [hnv']
   have HNV := Lib.hid hnv'
   clear hW ht1 hnv'
   go_wp2_with fail
   go_ret
   exact ⟨rfl,dp',by rw [HNV.out]; exact HW.out.set 7 _ (fun _ _ => rfl) rfl rfl rfl (Blk.lt HT.out.j) HT.out.jH⟩
 · rw [hnv']
   have HNV := Lib.hid hnv'
   clear hW ht1 hnv'
   go_wp2_with fail
   go_ret
   exact ⟨rfl,dp',by rw [HNV.out]; exact HW.out.set 7 _ (fun _ _ => rfl) rfl rfl rfl (Blk.lt HT.out.j) HT.out.jH⟩
set_option maxRecDepth 100000 in
set_option maxHeartbeats 2000000 in
theorem go_write {n : Nat} {a : Int} (h : CmTrio w0 w z F H jb cb dp (.iface 282 (.agg #[.int .i64 n])) S c d x) (hq : Calls Tryz.prog 202 #[(.agg #[.int .i64 n]),PT cb] w fun e w' => ∃ dp',e = .returned (.tuple #[.int .i64 a,stgVal dp' x'.st]) ∧ WentC w0 w w' z F H jb cb dp' (.iface 282 (.agg #[.int .i64 n])) S' c d' x') :
 Calls Tryz.prog 17 #[PT cb] w fun e w' => e = .returned (.int .i64 a) ∧ ∃ dp',WentC w0 w w' z F H jb cb dp' (stgVal dp' x'.st) S' c d' x' := by
 have c7 := h.cm.var.1
 have HQ := Lib.hid hq
 have HT := Lib.hid h
 clear hq h
 go_enter Tryz.func17,Tryz.ntmps17
 go_wp2_with fail
 refine HQ.out.mono ?_
 rintro e w1 ⟨dp',rfl,hW⟩
 have HW := Lib.hid hW
 obtain ⟨F1,H1,ht1,_⟩ := WentC.trio HT.out hW
 obtain ⟨v7,_⟩ := ht1.cm.var
 have g7 := ht1.cm.frozen 7
 rcases stgVal_form dp' x'.st with ⟨tt,vv,hnv'⟩ | hnv'
 · rw [hnv']
   have HNV := Lib.hid hnv'
   clear hW ht1 hnv'
   go_wp2_with fail
   go_ret
   exact ⟨rfl,dp',by rw [HNV.out]; exact HW.out.set 7 _ (fun _ _ => rfl) rfl rfl rfl (Blk.lt HT.out.j) HT.out.jH⟩
 · rw [hnv']
   have HNV := Lib.hid hnv'
   clear hW ht1 hnv'
   go_wp2_with fail
   go_ret
   exact ⟨rfl,dp',by rw [HNV.out]; exact HW.out.set 7 _ (fun _ _ => rfl) rfl rfl rfl (Blk.lt HT.out.j) HT.out.jH⟩
set_option maxRecDepth 100000 in
set_option maxHeartbeats 2000000 in
theorem go_give {a : Int} (h : CmTrio w0 w z F H jb cb dp (.iface 289 (.agg #[])) S c d x) (hq : Calls Tryz.prog 204 #[(.agg #[]),PT cb] w fun e w' => ∃ dp',e = .returned (.tuple #[.int .i64 a,stgVal dp' x'.st]) ∧ WentC w0 w w' z F H jb cb dp' (.iface 289 (.agg #[])) S' c d' x') :
 Calls Tryz.prog 17 #[PT cb] w fun e w' => e = .returned (.int .i64 a) ∧ ∃ dp',WentC w0 w w' z F H jb cb dp' (stgVal dp' x'.st) S' c d' x' := by
 have c7 := h.cm.var.1
 have HQ := Lib.hid hq
 have HT := Lib.hid h
 clear hq h
 go_enter Tryz.func17,Tryz.ntmps17
 go_wp2_with fail
 refine HQ.out.mono ?_
 rintro e w1 ⟨dp',rfl,hW⟩
 have HW := Lib.hid hW
 obtain ⟨F1,H1,ht1,_⟩ := WentC.trio HT.out hW
 obtain ⟨v7,_⟩ := ht1.cm.var
 have g7 := ht1.cm.frozen 7
 rcases stgVal_form dp' x'.st with ⟨tt,vv,hnv'⟩ | hnv'
 · rw [hnv']
   have HNV := Lib.hid hnv'
   clear hW ht1 hnv'
   go_wp2_with fail
   go_ret
   exact ⟨rfl,dp',by rw [HNV.out]; exact HW.out.set 7 _ (fun _ _ => rfl) rfl rfl rfl (Blk.lt HT.out.j) HT.out.jH⟩
 · rw [hnv']
   have HNV := Lib.hid hnv'
   clear hW ht1 hnv'
   go_wp2_with fail
   go_ret
   exact ⟨rfl,dp',by rw [HNV.out]; exact HW.out.set 7 _ (fun _ _ => rfl) rfl rfl rfl (Blk.lt HT.out.j) HT.out.jH⟩
set_option maxRecDepth 100000 in
set_option maxHeartbeats 2000000 in
theorem go_giveUp {a : Int} (h : CmTrio w0 w z F H jb cb dp (.iface 275 (.agg #[])) S c d x) (hq : Calls Tryz.prog 199 #[(.agg #[]),PT cb] w fun e w' => ∃ dp',e = .returned (.tuple #[.int .i64 a,stgVal dp' x'.st]) ∧ WentC w0 w w' z F H jb cb dp' (.iface 275 (.agg #[])) S' c d' x') :
 Calls Tryz.prog 17 #[PT cb] w fun e w' => e = .returned (.int .i64 a) ∧ ∃ dp',WentC w0 w w' z F H jb cb dp' (stgVal dp' x'.st) S' c d' x' := by
 have c7 := h.cm.var.1
 have HQ := Lib.hid hq
 have HT := Lib.hid h
 clear hq h
 go_enter Tryz.func17,Tryz.ntmps17
 go_wp2_with fail
 refine HQ.out.mono ?_
 rintro e w1 ⟨dp',rfl,hW⟩
 have HW := Lib.hid hW
 obtain ⟨F1,H1,ht1,_⟩ := WentC.trio HT.out hW
 obtain ⟨v7,_⟩ := ht1.cm.var
 have g7 := ht1.cm.frozen 7
 rcases stgVal_form dp' x'.st with ⟨tt,vv,hnv'⟩ | hnv'
 · rw [hnv']
   have HNV := Lib.hid hnv'
   clear hW ht1 hnv'
   go_wp2_with fail
   go_ret
   exact ⟨rfl,dp',by rw [HNV.out]; exact HW.out.set 7 _ (fun _ _ => rfl) rfl rfl rfl (Blk.lt HT.out.j) HT.out.jH⟩
 · rw [hnv']
   have HNV := Lib.hid hnv'
   clear hW ht1 hnv'
   go_wp2_with fail
   go_ret
   exact ⟨rfl,dp',by rw [HNV.out]; exact HW.out.set 7 _ (fun _ _ => rfl) rfl rfl rfl (Blk.lt HT.out.j) HT.out.jH⟩
set_option maxRecDepth 100000 in
set_option maxHeartbeats 2000000 in
theorem go_free {a : Int} (h : CmTrio w0 w z F H jb cb dp (.iface 288 (.agg #[])) S c d x) (hq : Calls Tryz.prog 203 #[(.agg #[]),PT cb] w fun e w' => ∃ dp',e = .returned (.tuple #[.int .i64 a,stgVal dp' x'.st]) ∧ WentC w0 w w' z F H jb cb dp' (.iface 288 (.agg #[])) S' c d' x') :
 Calls Tryz.prog 17 #[PT cb] w fun e w' => e = .returned (.int .i64 a) ∧ ∃ dp',WentC w0 w w' z F H jb cb dp' (stgVal dp' x'.st) S' c d' x' := by
 have c7 := h.cm.var.1
 have HQ := Lib.hid hq
 have HT := Lib.hid h
 clear hq h
 go_enter Tryz.func17,Tryz.ntmps17
 go_wp2_with fail
 refine HQ.out.mono ?_
 rintro e w1 ⟨dp',rfl,hW⟩
 have HW := Lib.hid hW
 obtain ⟨F1,H1,ht1,_⟩ := WentC.trio HT.out hW
 obtain ⟨v7,_⟩ := ht1.cm.var
 have g7 := ht1.cm.frozen 7
 rcases stgVal_form dp' x'.st with ⟨tt,vv,hnv'⟩ | hnv'
 · rw [hnv']
   have HNV := Lib.hid hnv'
   clear hW ht1 hnv'
   go_wp2_with fail
   go_ret
   exact ⟨rfl,dp',by rw [HNV.out]; exact HW.out.set 7 _ (fun _ _ => rfl) rfl rfl rfl (Blk.lt HT.out.j) HT.out.jH⟩
 · rw [hnv']
   have HNV := Lib.hid hnv'
   clear hW ht1 hnv'
   go_wp2_with fail
   go_ret
   exact ⟨rfl,dp',by rw [HNV.out]; exact HW.out.set 7 _ (fun _ _ => rfl) rfl rfl rfl (Blk.lt HT.out.j) HT.out.jH⟩
set_option maxRecDepth 100000 in
theorem go_over (h : CmTrio w0 w z F H jb cb dp .nilIface S c d x) : Calls Tryz.prog 17 #[PT cb] w fun e w' => e = .returned (.int .i64 3) ∧ WentC w0 w w' z F H jb cb dp .nilIface S c d x := by
 have c7 := h.cm.var.1
 have HT := Lib.hid h
 clear h
 go_enter Tryz.func17,Tryz.ntmps17
 go_wp2_with fail
 go_ret
 exact ⟨rfl,HT.out.still (by simp)⟩
theorem cm_step (h : CmTrio w0 w z F H jb cb dp (stgVal dp x.st) S c d x) (hf : Fit k S) (hk : k + 1 ≤ 1099511627776) (hcc : S.c = c) (hu : S.wu) (h0 : 0 ≤ d) (h1 : d ≤ 64) (ho : x.Ok S.H.length) :
 Calls Tryz.prog 17 #[PT cb] w fun e w' => e = .returned (.int .i64 (x.step S d).1) ∧ ∃ dp',WentC w0 w w' z F H jb cb dp' (stgVal dp' (x.step S d).2.1.st) (x.step S d).2.2.1 c (x.step S d).2.2.2 (x.step S d).2.1 := by
 have hk' : k ≤ 1099511627776 := by omega
 have hx : ∀ s,x.st = s → CmTrio w0 w z F H jb cb dp (stgVal dp s) S c d x := fun s hs => hs ▸ h
 unfold Cm.step
 split
 · rename_i hs
   have ht := hx _ hs
   exact go_take ht ((cm_take ht hf hk').mono fun e w' ⟨he,hw⟩ => ⟨dp,he,hw⟩)
 · rename_i hs
   have ht := hx _ hs
   exact go_own ht (cm_own ht hf hk hcc h0 h1 ho)
 · rename_i hs
   have ht := hx _ hs
   obtain ⟨l,hl⟩ := ho.at_look hs
   rw [hl]
   exact go_looking ht (cm_look ht hf hk hcc hu h0 h1 hl ho)
 · rename_i hs
   have ht := hx _ hs
   obtain ⟨y,hy⟩ := ho.at_doom hs
   rw [hy]
   exact go_doom ht ((cm_doom ht hf hk' hy (ho.dm y hy)).mono fun e w' ⟨he,hw⟩ => ⟨dp,he,hw⟩)
 · rename_i n hs
   have ht := hx _ hs
   have hn := ho.at_write n hs
   obtain ⟨p,hp⟩ : ∃ p,x.ws[n]? = some p := ⟨_,List.getElem?_eq_getElem hn⟩
   rw [hp]
   exact go_write ht ((cm_write ht hf hk' n p hp ho.w16).mono fun e w' ⟨he,hw⟩ => ⟨dp,he,hw⟩)
 · rename_i hs
   have ht := hx _ hs
   exact go_give (x' := { x with won := true,st := .free }) ht ((cm_give ht hf hk').mono fun e w' ⟨he,hw⟩ => ⟨dp,he,hw⟩)
 · rename_i hs
   have ht := hx _ hs
   exact go_giveUp (x' := x.at_ .free) ht ((cm_giveUp ht hf hk').mono fun e w' ⟨he,hw⟩ => ⟨dp,he,hw⟩)
 · rename_i hs
   have ht := hx _ hs
   exact go_free (x' := x.at_ .over) ht ((cm_free ht hf hk').mono fun e w' ⟨he,hw⟩ => ⟨dp,he,hw⟩)
 · rename_i hs
   have ht := hx _ hs
   exact (go_over ht).mono fun e w' ⟨he,hw⟩ => ⟨he,dp,by rw [hs]; exact hw⟩
theorem cm_done (h : CmN w0 w z F jb cb H dp (stgVal dp x.st) x) : Calls Tryz.prog 63 #[PT cb] w fun e w' => e = .returned (.bool x.done) ∧ w = w' := by
 have c7 := h.var.1
 clear h
 unfold Cm.done
 cases hs : x.st <;> rw [hs] at c7 <;> unfold stgVal at c7 <;> dsimp only at c7 <;> clear hs
 all_goals
  go_enter Tryz.func63,Tryz.ntmps63
  go_wp2_with fail
  go_ret
  exact ⟨rfl,rfl⟩
theorem cm_end (h : CmN w0 w z F jb cb H dp (stgVal dp x.st) x) : Calls Tryz.prog 62 #[PT cb] w fun e w' => e = .returned (.int .i64 x.end_) ∧ w = w' := by
 have hd := cm_done h
 have c10 := h.var.2.2.1
 clear h
 unfold Cm.done at hd
 unfold Cm.end_
 by_cases hs : x.st = .over
 ·
  rw [if_pos hs]
  rw [decide_eq_true hs] at hd
  have HD := Lib.hid hd
  clear hs hd
  go_enter Tryz.func62,Tryz.ntmps62
  go_wp2_with fail
  refine HD.out.mono ?_
  rintro e w1 ⟨rfl,rfl⟩
  go_wp2_with fail
  go_ret
  exact ⟨rfl,rfl⟩
 ·
  rw [if_neg hs]
  rw [decide_eq_false hs] at hd
  have HD := Lib.hid hd
  clear hs hd
  go_enter Tryz.func62,Tryz.ntmps62
  go_wp2_with fail
  refine HD.out.mono ?_
  rintro e w1 ⟨rfl,rfl⟩
  go_wp2_with fail
  go_ret
  exact ⟨rfl,rfl⟩
theorem cm_won (h : CmN w0 w z F jb cb H dp nv x) : Calls Tryz.prog 64 #[PT cb] w fun e w' => e = .returned (.bool x.won) ∧ w = w' := by
 have c := h.var.2.2.2
 clear h
 go_enter Tryz.func64,Tryz.ntmps64
 go_wp2_with fail
 go_ret
 exact ⟨rfl,rfl⟩
theorem cm_number (h : CmN w0 w z F jb cb H dp nv x) : Calls Tryz.prog 65 #[PT cb] w fun e w' => e = .returned (.int .i64 x.number) ∧ w = w' := by
 have c := h.var.2.1
 clear h
 go_enter Tryz.func65,Tryz.ntmps65
 go_wp2_with fail
 go_ret
 exact ⟨rfl,rfl⟩
theorem cm_victims (h : CmN w0 w z F jb cb H dp nv x) (hv : x.victims.length ≤ 1099511627776) : Calls Tryz.prog 93 #[PT cb] w fun e w' => ∃ v,e = .returned v ∧ w'.ownsRow 0 113 4 v x.victims.length (vcCells x.victims) ∧ Keeps [] w w' ∧ (∀ q,v.ownBlock = some q → w.heap.size ≤ q) := by
 unfold Cm.victims at hv ⊢
 cases hl : x.lk with
 | none =>
   have c9 := h.look_none hl
   clear h hl
   go_enter Tryz.func93,Tryz.ntmps93
   go_wp2_with fail
   go_ret
   exact ⟨_,rfl,World.ownsRow_nil _ _ _ _,Keeps.refl _ _,by simp [Value.ownBlock]⟩
 | some l =>
   rw [hl] at hv
   obtain ⟨b,G,c9,hlk,_⟩ := h.look_some hl
   obtain ⟨tv,wv,vv,a,_⟩ := hlk.ex
   have HV := Lib.hid (lk_victims a hv)
   clear h hl hlk a hv
   go_enter Tryz.func93,Tryz.ntmps93
   go_wp2_with fail
   refine HV.out.mono ?_
   rintro e w1 ⟨v,rfl,hr,hk1⟩
   go_wp2_with fail
   go_ret
   exact ⟨v,rfl,own_base hr (fun _ _ => Nat.zero_le _),hk1,fun q hq => (hr.lt q hq).1⟩
end
end Go.Proofs.YtmlnedilbneekaaGreat