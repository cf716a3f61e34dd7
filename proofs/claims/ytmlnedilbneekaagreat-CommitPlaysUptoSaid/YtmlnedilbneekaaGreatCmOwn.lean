/- Layer 13: a commit asks for its own slot, and makes its look. -/
import Derived.Test.YtmlnedilbneekaaGreatCmLook
import Derived.Test.YtmlnedilbneekaaGreatCmWrite
import Derived.Test.YtmlnedilbneekaaGreatLookM
import Derived.Deep.DeepCutAuto
import Derived.Deep.CutBlock
import Derived.Test.YtmlnedilbneekaaGreatMake
set_option linter.unusedVariables false
set_option linter.unusedSimpArgs false
namespace Go.Proofs.YtmlnedilbneekaaGreat
open Go.RowKit Pol
section
variable {w0 w w' : World} {z : Sb} {F H : List Nat} {S S' : Sp} {k jb cb dp : Nat} {x x' : Cm} {nv : Value} {c : Cf} {d d' : Int}
theorem late_trio {Q : Nat} (h : CmTrio w0 w z F H jb cb dp nv S c d x) (hk : Keeps [Q] w w') (h0 : w0.heap.size ≤ Q) (h1 : Q ∉ F) (h2 : Q ∉ H) (h3 : jb ≠ Q) (ht : ∀ t,tyOf w Q = some t → t ∉ spFix) : CmTrio w0 w' z F H jb cb dp nv S c d x :=
 ⟨h.sp.away hk (fun q hq => by simp only [List.mem_singleton] at hq; subst hq; exact ⟨h0,h1,ht⟩),Blk.keeps h.j hk (by simp; exact h3),h.cm.keeps hk (fun q hq hx => by simp only [List.mem_singleton] at hx; subst hx; exact h2 hq) (fun q hq => .inl hq),h.jH,h.jlow⟩
theorem pr_cell2 {g off cap : Nat} {ws : List Pr} (h : w.ownsRow 0 81 2 (.slice (some ⟨g,off,none⟩) ws.length cap) ws.length (prCells ws)) {k : Nat} {p : Pr} (hp : ws[k]? = some p) : w.cell? ⟨g,off + k * 2,none⟩ = some (.int .i64 p.cell) ∧ w.cell? ⟨g,off + k * 2 + 1,none⟩ = some (.int .i64 p.x) := by
 obtain ⟨g',off',cap',e,q1,q2⟩ := pr_cell h hp
 injection e with e1 e2 e3
 injection e1 with e1
 injection e1 with e4 e5 e6
 subst e4
 subst e5
 exact ⟨q1,q2⟩
theorem cell_other {b i j : Nat} {u : Value} (v : Value) (h : w.cell? ⟨b,i,none⟩ = some u) (hij : j ≠ i) : (w.setCell ⟨b,j,none⟩ v).cell? ⟨b,i,none⟩ = some u := by
 have hne : (⟨b,j,none⟩ : Addr) ≠ ⟨b,i,none⟩ := by intro e; injection e with _ e _; exact hij e
 rw [← h]
 first | exact World.cell?_setCell_other _ _ _ _ hne | exact World.cell?_setCell_other hne | exact World.cell?_setCell_other _ _ _ hne
theorem CmN.cell9 (h : CmN w0 w z F jb cb H dp nv x) : ∃ u,w.cell? ⟨cb,9,none⟩ = some u := by
 obtain ⟨wv,lp,h1⟩ := h.blk
 exact ⟨_,(h1.cell 9).trans rfl⟩
theorem field_bits (w : World) (c : Cf) : (Instr.field 23 (.agg #[.int .i64 c.cells,.int .i64 c.slots,.int .i64 c.bits,.int .i64 c.tag,.int .i64 c.bias,.int .i64 c.defer]) 2).run Tryz.prog w = .ok (.int .i64 c.bits) w := by kernel_rfl
theorem to_grow {wz wr wp w1 : World} {v v1 : Value} {l : List Int} {y : Int} {o : Obj} (ho : wr.ownsRow wz.heap.size 3 1 v l.length (l.map (Value.int .i64))) (hk : Keeps [] wz wr) (hp : Keeps [] wr wp)
 (hown : w1.ownsRow 0 3 1 v1 (l.length + 1) (l.map (Value.int .i64) ++ [.int .i64 y])) (hg : (wp.alloc o).grownBy w1 v.ownBlock) (hat : v1.ownBlock = v.ownBlock ∨ v1.ownBlock = some (wp.alloc o).heap.size) :
 w1.ownsRow wz.heap.size 3 1 v1 (l ++ [y]).length ((l ++ [y]).map (Value.int .i64)) ∧ Keeps [] wz w1 := by
 refine ⟨?_,((hk.trans hp (by simp)).alloc o).grown hg (fun k hk' => .inr (ho.lt k hk').1)⟩
 have h3 := own_base (base' := wz.heap.size) hown (fun q hq => by
  rcases hat with h4 | h4
  · exact (ho.lt q (h4 ▸ hq)).1
  · rw [h4] at hq; injection hq with hq; subst hq; have := hk.size; have := hp.size; simp; omega)
 simpa using h3
set_option maxRecDepth 100000 in
set_option maxHeartbeats 4000000 in
theorem cm_own (h : CmTrio w0 w z F H jb cb dp nv S c d x) (hf : Fit k S) (hk : k + 1 ≤ 1099511627776) (hcc : S.c = c) (h0 : 0 ≤ d) (h1 : d ≤ 64) (ho : x.Ok S.H.length) : Calls Tryz.prog 187 #[.agg #[],PT cb] w fun e w' => ∃ dp',e = .returned (.tuple #[.int .i64 1,stgVal dp' (x.own_ S d).1.st]) ∧ WentC w0 w w' z F H jb cb dp' nv (x.own_ S d).2.1 c (x.own_ S d).2.2 (x.own_ S d).1 := by
 obtain ⟨wB,hwB⟩ : ∃ q,w.alloc (.cells #[] 269) = q := ⟨_,rfl⟩
 have hkB : Keeps [] w wB := by rw [← hwB]; simp
 have hsz : wB.heap.size = w.heap.size + 1 := by rw [← hwB]; simp
 have HT := Lib.hid h
 have HC := Lib.hid (show ∀ w',Keeps [] w w' → w'.cell? ⟨cb,0,none⟩ = some (PT z.p) ∧ w'.cell? ⟨cb,2,none⟩ = some (.int .i64 x.slot) from fun w' hk' => let q := (h.calm hk').cm.fix; ⟨q.1,q.2.2.1⟩)
 have QS := Lib.hid (fun w' (hk' : Keeps [] w w') => sp_slots (h.calm hk').sp)
 have hcl := fun (w' : World) (hk' : Keeps [] w w') => sp_look (h.calm hk').sp hf (by omega) x.slot
 have HLT : Hid (w.heap.size + 1 ∉ F) := fun hx => Nat.not_succ_le_self _ (Nat.le_of_lt (h.sp.lt _ hx))
 have HQH : Hid (w.heap.size + 1 ∉ H) := fun hx => Nat.not_succ_le_self _ (Nat.le_of_lt (h.cm.lt _ hx))
 have HCQ : Hid (cb ≠ w.heap.size + 1) := fun e => Nat.not_succ_le_self _ (Nat.le_of_lt (e ▸ h.cm.lt _ h.cm.inH))
 have HJQ : Hid (jb ≠ w.heap.size + 1) := fun e => Nat.not_succ_le_self _ (Nat.le_of_lt (e ▸ Blk.lt h.j))
 have HBX : Hid (Blk ((wB.drew).alloc (.cells #[.int .i64 0,.int .i64 0,.int .i64 0,.int .i64 0,.bool false,.int .i64 0] 115)) (w.heap.size + 1) 115 #[.int .i64 0,.int .i64 0,.int .i64 0,.int .i64 0,.bool false,.int .i64 0]) := by
  have := Blk.new wB.drew 115 #[.int .i64 0,.int .i64 0,.int .i64 0,.int .i64 0,.bool false,.int .i64 0]
  rw [← hsz]
  exact this
 have HNS : Hid (¬ ((wB.drew).alloc (.cells #[.int .i64 0,.int .i64 0,.int .i64 0,.int .i64 0,.bool false,.int .i64 0] 115)).heap.size ≤ w.heap.size + 1) := by
  unfold Hid
  simp
  omega
 unfold Cm.own_
 have hs := S.look_is x.slot
 have hfit := hf.look x.slot
 obtain ⟨hv,hhv⟩ : ∃ v,(S.look x.slot).1.1 = v := ⟨_,rfl⟩
 obtain ⟨er,her⟩ : ∃ v,(S.look x.slot).1.2 = v := ⟨_,rfl⟩
 obtain ⟨S',hS'⟩ : ∃ v,(S.look x.slot).2 = v := ⟨_,rfl⟩
 simp only [hhv,her,hS'] at hcl hs hfit ⊢
 unfold Hd.val at hcl
 obtain ⟨R,hR⟩ : ∃ r,(if x.lost hv then (({ x with e := 7,st := .giveUp } : Cm),S',d) else ((x.behind (Lk.new S.H.length x.slot (ofR S.c.bits x.to)) S.c d).1,S',(x.behind (Lk.new S.H.length x.slot (ofR S.c.bits x.to)) S.c d).2)) = r := ⟨_,rfl⟩
 rw [hR]
 have HR := Lib.hid hR
 clear hR
 have HLK := Lib.hid hcl
 have HSS := Lib.hid hs
 have HFIT := Lib.hid hfit
 have HO := Lib.hid ho
 have HD := Lib.hid (And.intro h0 h1)
 have HKK := Lib.hid hk
 have HCC := Lib.hid hcc
 have HFC := Lib.hid hf.c
 clear hcl hhv her hS' hs hfit hf hk hcc h0 h1 ho h
 go_enter Tryz.func187,Tryz.ntmps187
 go_upto_region 1 with fail
 try rw [hwB]
 go_cut [6] (fun v wx => ∃ (q : Nat) (F1 : List Nat),v = PT q ∧ q ∉ H ∧ w.heap.size ≤ q ∧ CmTrio w0 wx z F1 H jb cb dp nv S' c d x ∧ Keeps (jb :: (H ++ F)) w wx ∧ (∀ z,z ∈ F1 → z ∈ F ∨ w.heap.size ≤ z) ∧ Blk wx q 115 #[.int .i64 hv.gen,.int .i64 hv.state,.int .i64 hv.stamp,.int .i64 hv.thread,.bool hv.doomed,.int .i64 hv.who])
 case first =>
  as_aux_lemma =>
   refine wp_region_noPanic ?_
   refine wp_region_L 99 (fun w' => w'.cell? ⟨cb,0,none⟩ = some (PT z.p) ∧ w'.cell? ⟨cb,2,none⟩ = some (.int .i64 x.slot)) (by kernel_rfl) ?_
   have hHeld := HC.out _ hkB.drew
   refine Sq.kT (i := 0) (v := ?rvz0) rfl ?ryz0 hHeld ?rrz0
   case ryz0 => (intro w' hSw; (try dsimp only at hSw); go_simp; first | done | with_reducible rfl)
   try simp only [Act.put,Sq.t,Sq.z,Sq.s]
   refine Sq.kT (i := 1) (v := ?rvz1) rfl ?ryz1 hHeld ?rrz1
   case ryz1 => (intro w' hSw; (try dsimp only at hSw); go_simp; first | done | with_reducible rfl)
   try simp only [Act.put,Sq.t,Sq.z,Sq.s]
   refine Sq.kT (i := 2) (v := ?rvz2) rfl ?ryz2 hHeld ?rrz2
   case ryz2 => (intro w' hSw; (try dsimp only at hSw); go_simp; first | done | with_reducible rfl)
   try simp only [Act.put,Sq.t,Sq.z,Sq.s]
   refine Sq.kT (i := 3) (v := ?rvz3) rfl ?ryz3 hHeld ?rrz3
   case ryz3 => (intro w' hSw; (try dsimp only at hSw); go_simp; first | done | with_reducible rfl)
   try simp only [Act.put,Sq.t,Sq.z,Sq.s]
   refine Sq.kT (i := 5) (v := ?rvz5) rfl ?ryz5 hHeld ?rrz5
   case ryz5 => (intro w' hSw; (try dsimp only at hSw); go_simp; first | done | with_reducible rfl)
   try simp only [Act.put,Sq.t,Sq.z,Sq.s]
   refine Sq.kT (i := 6) (v := ?rvz6) rfl ?ryz6 hHeld ?rrz6
   case ryz6 => (intro w' hSw; (try dsimp only at hSw); go_simp; first | done | with_reducible rfl)
   try simp only [Act.put,Sq.t,Sq.z,Sq.s]
   refine Sq.kT (i := 7) (v := ?rvz7) rfl ?ryz7 hHeld ?rrz7
   case ryz7 => (intro w' hSw; (try dsimp only at hSw); go_simp; first | done | with_reducible rfl)
   try simp only [Act.put,Sq.t,Sq.z,Sq.s]
   refine Sq.kT (i := 8) (v := ?rvz8) rfl ?ryz8 hHeld ?rrz8
   case ryz8 => (intro w' hSw; (try dsimp only at hSw); go_simp; first | done | with_reducible rfl)
   try simp only [Act.put,Sq.t,Sq.z,Sq.s]
   refine Sq.kT (i := 9) (v := ?rvz9) rfl ?ryz9 hHeld ?rrz9
   case ryz9 => (intro w' hSw; (try dsimp only at hSw); go_simp; first | done | with_reducible rfl)
   try simp only [Act.put,Sq.t,Sq.z,Sq.s]
   refine wpAnyL_twoT (i := 4) (j := 14) (by kernel_rfl) rfl rfl (fun K hK => ?_) (fun K hK => ?_)
   ·
    go_simp
    go_at_call 25
    refine (QS.out _ (hkB.drew)).mono ?_
    rintro e wc0 ⟨rfl,rfl⟩
    go_simp
    refine hK.out _ _ (fun _ => HC.out _ (hkB.drew)) ?_
    clear hK K
    try simp only [Act.put,Sq.t,Sq.z,Sq.s]
    refine wpAnyL_twoT (i := 10) (j := 14) (by kernel_rfl) rfl rfl (fun K hK => ?_) (fun K hK => ?_)
    ·
     go_simp
     go_at_call 36
     refine (HLK.out _ (hkB.drew)).mono ?_
     rintro e wc ⟨rfl,hW⟩
     obtain ⟨F1,ht1,hk1,hn1⟩ := (HT.out.calm (hkB.drew)).call hW
     have hfx := ht1.cm.fix
     have hS1 : wc.cell? ⟨cb,0,none⟩ = some (PT z.p) ∧ wc.cell? ⟨cb,2,none⟩ = some (.int .i64 x.slot) := ⟨hfx.1,hfx.2.2.1⟩
     clear hW hfx
     go_simp
     refine hK.out _ _ (fun _ => hS1) ?_
     clear hK K
     try simp only [Act.put,Sq.t,Sq.z,Sq.s]
     replace hHeld := hS1
     refine Sq.kT (i := 11) (v := ?rva11) rfl ?rya11 hHeld ?rra11
     case rya11 => (intro w' hSw; (try dsimp only at hSw); go_simp; first | done | with_reducible rfl)
     try simp only [Act.put,Sq.t,Sq.z,Sq.s]
     refine Sq.kT (i := 12) (v := ?rva12) rfl ?rya12 hHeld ?rra12
     case rya12 => (intro w' hSw; (try dsimp only at hSw); go_simp; first | done | with_reducible rfl)
     try simp only [Act.put,Sq.t,Sq.z,Sq.s]
     refine Sq.kT (i := 13) (v := ?rva13) rfl ?rya13 hHeld ?rra13
     case rya13 => (intro w' hSw; (try dsimp only at hSw); go_simp; first | done | with_reducible rfl)
     try simp only [Act.put,Sq.t,Sq.z,Sq.s]
     have hcq : cb ≠ wc.heap.size := Nat.ne_of_lt (ht1.cm.lt _ ht1.cm.inH)
     have hS2 : ∀ w',Keeps [wc.heap.size] wc w' → w'.cell? ⟨cb,0,none⟩ = some (PT z.p) ∧ w'.cell? ⟨cb,2,none⟩ = some (.int .i64 x.slot) := fun w' hk' => ⟨(keeps_cell hk' (ht1.cm.lt _ ht1.cm.inH) (by simp; exact hcq)).trans hS1.1,(keeps_cell hk' (ht1.cm.lt _ ht1.cm.inH) (by simp; exact hcq)).trans hS1.2⟩
     refine Sq.oT (i := 14) rfl fun K hK => ?_
     go_simp
     refine hK.out _ _ (fun _ => hS2 _ (Sq.r.alloc _)) ?_
     clear hK K
     try simp only [Act.put,Sq.t,Sq.z,Sq.s]
     refine Sq.oT (i := 15) rfl fun K hK => ?_
     go_simp
     refine hK.out _ _ (fun _ => (by first | exact hS2 _ (Sq.r.alloc _) | exact hS2 _ (((Keeps.refl [wc.heap.size] wc).alloc _) |> fun h => (((((h.setCell (.inl (by simp)) _).setCell (.inl (by simp)) _).setCell (.inl (by simp)) _).setCell (.inl (by simp)) _).setCell (.inl (by simp)) _).setCell (.inl (by simp)) _))) ?_
     clear hK K
     try simp only [Act.put,Sq.t,Sq.z,Sq.s]
     refine Sq.oT (i := 16) rfl fun K hK => ?_
     go_simp
     refine hK.out _ _ (fun _ => (by first | exact hS2 _ (Sq.r.alloc _) | exact hS2 _ (((Keeps.refl [wc.heap.size] wc).alloc _) |> fun h => (((((h.setCell (.inl (by simp)) _).setCell (.inl (by simp)) _).setCell (.inl (by simp)) _).setCell (.inl (by simp)) _).setCell (.inl (by simp)) _).setCell (.inl (by simp)) _))) ?_
     clear hK K
     try simp only [Act.put,Sq.t,Sq.z,Sq.s]
     refine wpAnyL_done (by kernel_rfl) ?_ _
     refine NoPanic.normal ?_
     go_wp2_with fail
     go_meet
     exact ⟨wc.heap.size,F1,rfl,fun hx => Nat.lt_irrefl _ (ht1.cm.lt _ hx),Nat.le_trans (hkB.size) hk1.size,ht1.calm ((Keeps.refl [] wc).alloc _),(((hkB.drew).mono (by simp)).trans hk1 (fun q hq => .inl (by simp [hq]))).alloc _,fun q hq => (hn1 q hq).imp id (fun h => Nat.le_trans hkB.size h),Blk.new wc 115 #[.int .i64 hv.gen,.int .i64 hv.state,.int .i64 hv.stamp,.int .i64 hv.thread,.bool hv.doomed,.int .i64 hv.who]⟩
    ·
     go_simp
     refine hK.out _ _ (fun _ => HC.out _ ((hkB.drew).alloc _)) ?_
     clear hK K
     try simp only [Act.put,Sq.t,Sq.z,Sq.s]
     refine Sq.oT (i := 10) rfl fun K hK => ?_
     go_simp
     go_at_call 36
     refine (HLK.out _ ((hkB.drew).alloc _)).mono ?_
     rintro e wc ⟨rfl,hW⟩
     obtain ⟨F1,ht1,hk1,hn1⟩ := (HT.out.calm ((hkB.drew).alloc _)).call hW
     have hfx := ht1.cm.fix
     have hS1 : wc.cell? ⟨cb,0,none⟩ = some (PT z.p) ∧ wc.cell? ⟨cb,2,none⟩ = some (.int .i64 x.slot) := ⟨hfx.1,hfx.2.2.1⟩
     clear hW hfx
     go_simp
     refine hK.out _ _ (fun _ => hS1) ?_
     clear hK K
     try simp only [Act.put,Sq.t,Sq.z,Sq.s]
     replace hHeld := hS1
     have HZ0 : Hid (Blk ((wB.drew).alloc (.cells #[.int .i64 0,.int .i64 0,.int .i64 0,.int .i64 0,.bool false,.int .i64 0] 115)) (w.heap.size + 1) 115 #[.int .i64 0,.int .i64 0,.int .i64 0,.int .i64 0,.bool false,.int .i64 0]) := HBX.out
     have HKA : Hid (Keeps [] w ((wB.drew).alloc (.cells #[.int .i64 0,.int .i64 0,.int .i64 0,.int .i64 0,.bool false,.int .i64 0] 115))) := (hkB.drew).alloc _
     have HNQ : Hid (¬ ((wB.drew).alloc (.cells #[.int .i64 0,.int .i64 0,.int .i64 0,.int .i64 0,.bool false,.int .i64 0] 115)).heap.size ≤ w.heap.size + 1) := HNS.out
     have hqF : w.heap.size + 1 ∉ F := HLT.out
     have hz : Blk wc (w.heap.size + 1) 115 #[.int .i64 0,.int .i64 0,.int .i64 0,.int .i64 0,.bool false,.int .i64 0] := (HZ0.out).keeps hk1 hqF
     have z0 : wc.cell? ⟨w.heap.size + 1,0,none⟩ = some (.int .i64 0) := (hz.cell 0).trans rfl
     have y0 := hz.frozen 0
     have z1 : wc.cell? ⟨w.heap.size + 1,1,none⟩ = some (.int .i64 0) := (hz.cell 1).trans rfl
     have y1 := hz.frozen 1
     have z2 : wc.cell? ⟨w.heap.size + 1,2,none⟩ = some (.int .i64 0) := (hz.cell 2).trans rfl
     have y2 := hz.frozen 2
     have z3 : wc.cell? ⟨w.heap.size + 1,3,none⟩ = some (.int .i64 0) := (hz.cell 3).trans rfl
     have y3 := hz.frozen 3
     have z4 : wc.cell? ⟨w.heap.size + 1,4,none⟩ = some (.bool false) := (hz.cell 4).trans rfl
     have y4 := hz.frozen 4
     have z5 : wc.cell? ⟨w.heap.size + 1,5,none⟩ = some (.int .i64 0) := (hz.cell 5).trans rfl
     have y5 := hz.frozen 5
     have HZ := Lib.hid hz
     clear hz
     refine Sq.kT (i := 11) (v := ?rvb11) rfl ?ryb11 hHeld ?rrb11
     case ryb11 => (intro w' hSw; (try dsimp only at hSw); go_simp; first | done | with_reducible rfl)
     try simp only [Act.put,Sq.t,Sq.z,Sq.s]
     refine Sq.kT (i := 12) (v := ?rvb12) rfl ?ryb12 hHeld ?rrb12
     case ryb12 => (intro w' hSw; (try dsimp only at hSw); go_simp; first | done | with_reducible rfl)
     try simp only [Act.put,Sq.t,Sq.z,Sq.s]
     refine Sq.kT (i := 13) (v := ?rvb13) rfl ?ryb13 hHeld ?rrb13
     case ryb13 => (intro w' hSw; (try dsimp only at hSw); go_simp; first | done | with_reducible rfl)
     try simp only [Act.put,Sq.t,Sq.z,Sq.s]
     have hcq : cb ≠ w.heap.size + 1 := HCQ.out
     have hS2 : ∀ w',Keeps [w.heap.size + 1] wc w' → w'.cell? ⟨cb,0,none⟩ = some (PT z.p) ∧ w'.cell? ⟨cb,2,none⟩ = some (.int .i64 x.slot) := fun w' hk' => ⟨(keeps_cell hk' (ht1.cm.lt _ ht1.cm.inH) (by simp; exact hcq)).trans hS1.1,(keeps_cell hk' (ht1.cm.lt _ ht1.cm.inH) (by simp; exact hcq)).trans hS1.2⟩
     refine Sq.oT (i := 15) rfl fun K hK => ?_
     go_simp
     refine hK.out _ _ (fun _ => hS2 _ (((((((Keeps.refl [w.heap.size + 1] _).setCell (.inl (by simp)) _).setCell (.inl (by simp)) _).setCell (.inl (by simp)) _).setCell (.inl (by simp)) _).setCell (.inl (by simp)) _).setCell (.inl (by simp)) _)) ?_
     clear hK K
     try simp only [Act.put,Sq.t,Sq.z,Sq.s]
     refine Sq.oT (i := 16) rfl fun K hK => ?_
     go_simp
     refine hK.out _ _ (fun _ => hS2 _ (((((((Keeps.refl [w.heap.size + 1] _).setCell (.inl (by simp)) _).setCell (.inl (by simp)) _).setCell (.inl (by simp)) _).setCell (.inl (by simp)) _).setCell (.inl (by simp)) _).setCell (.inl (by simp)) _)) ?_
     clear hK K
     try simp only [Act.put,Sq.t,Sq.z,Sq.s]
     refine wpAnyL_done (by kernel_rfl) ?_ _
     refine NoPanic.normal ?_
     go_wp2_with fail
     go_meet
     have hkw : Keeps [w.heap.size + 1] wc ((((((wc.setCell ⟨(w.heap.size + 1),0,none⟩ (.int .i64 hv.gen)).setCell ⟨(w.heap.size + 1),1,none⟩ (.int .i64 hv.state)).setCell ⟨(w.heap.size + 1),2,none⟩ (.int .i64 hv.stamp)).setCell ⟨(w.heap.size + 1),3,none⟩ (.int .i64 hv.thread)).setCell ⟨(w.heap.size + 1),4,none⟩ (.bool hv.doomed)).setCell ⟨(w.heap.size + 1),5,none⟩ (.int .i64 hv.who)) := ((((((Keeps.refl [w.heap.size + 1] _).setCell (.inl (by simp)) _).setCell (.inl (by simp)) _).setCell (.inl (by simp)) _).setCell (.inl (by simp)) _).setCell (.inl (by simp)) _).setCell (.inl (by simp)) _
     have hqH : w.heap.size + 1 ∉ H := HQH.out
     exact ⟨w.heap.size + 1,F1,rfl,hqH,Nat.le_succ _,late_trio ht1 hkw (Nat.le_trans HT.out.sp.keep.size (Nat.le_succ _)) (fun hx => (hn1 _ hx).elim hqF (fun h => HNQ.out h)) hqH HJQ.out (fun t ht => by rw [HZ.out.tyOf] at ht; injection ht with ht; subst ht; decide),((((HKA.out).mono (by simp)).trans hk1 (fun q hq => .inl (by simp [hq]))).trans hkw (fun q hq => .inr (by simp at hq; omega))),fun q hq => (hn1 q hq).imp id (fun h => Nat.le_trans (HKA.out).size h),(((((HZ.out.set_ 0 (.int .i64 hv.gen)).set_ 1 (.int .i64 hv.state)).set_ 2 (.int .i64 hv.stamp)).set_ 3 (.int .i64 hv.thread)).set_ 4 (.bool hv.doomed)).set_ 5 (.int .i64 hv.who)⟩
   ·
    go_simp
    refine hK.out _ _ (fun _ => HC.out _ ((hkB.drew).alloc _)) ?_
    clear hK K
    try simp only [Act.put,Sq.t,Sq.z,Sq.s]
    refine Sq.oT (i := 4) rfl fun K hK => ?_
    go_simp
    go_at_call 25
    refine (QS.out _ ((hkB.drew).alloc _)).mono ?_
    rintro e wc0 ⟨rfl,rfl⟩
    go_simp
    refine hK.out _ _ (fun _ => HC.out _ ((hkB.drew).alloc _)) ?_
    clear hK K
    try simp only [Act.put,Sq.t,Sq.z,Sq.s]
    refine Sq.oT (i := 10) rfl fun K hK => ?_
    go_simp
    go_at_call 36
    refine (HLK.out _ ((hkB.drew).alloc _)).mono ?_
    rintro e wc ⟨rfl,hW⟩
    obtain ⟨F1,ht1,hk1,hn1⟩ := (HT.out.calm ((hkB.drew).alloc _)).call hW
    have hfx := ht1.cm.fix
    have hS1 : wc.cell? ⟨cb,0,none⟩ = some (PT z.p) ∧ wc.cell? ⟨cb,2,none⟩ = some (.int .i64 x.slot) := ⟨hfx.1,hfx.2.2.1⟩
    clear hW hfx
    go_simp
    refine hK.out _ _ (fun _ => hS1) ?_
    clear hK K
    try simp only [Act.put,Sq.t,Sq.z,Sq.s]
    replace hHeld := hS1
    have HZ0 : Hid (Blk ((wB.drew).alloc (.cells #[.int .i64 0,.int .i64 0,.int .i64 0,.int .i64 0,.bool false,.int .i64 0] 115)) (w.heap.size + 1) 115 #[.int .i64 0,.int .i64 0,.int .i64 0,.int .i64 0,.bool false,.int .i64 0]) := HBX.out
    have HKA : Hid (Keeps [] w ((wB.drew).alloc (.cells #[.int .i64 0,.int .i64 0,.int .i64 0,.int .i64 0,.bool false,.int .i64 0] 115))) := (hkB.drew).alloc _
    have HNQ : Hid (¬ ((wB.drew).alloc (.cells #[.int .i64 0,.int .i64 0,.int .i64 0,.int .i64 0,.bool false,.int .i64 0] 115)).heap.size ≤ w.heap.size + 1) := HNS.out
    have hqF : w.heap.size + 1 ∉ F := HLT.out
    have hz : Blk wc (w.heap.size + 1) 115 #[.int .i64 0,.int .i64 0,.int .i64 0,.int .i64 0,.bool false,.int .i64 0] := (HZ0.out).keeps hk1 hqF
    have z0 : wc.cell? ⟨w.heap.size + 1,0,none⟩ = some (.int .i64 0) := (hz.cell 0).trans rfl
    have y0 := hz.frozen 0
    have z1 : wc.cell? ⟨w.heap.size + 1,1,none⟩ = some (.int .i64 0) := (hz.cell 1).trans rfl
    have y1 := hz.frozen 1
    have z2 : wc.cell? ⟨w.heap.size + 1,2,none⟩ = some (.int .i64 0) := (hz.cell 2).trans rfl
    have y2 := hz.frozen 2
    have z3 : wc.cell? ⟨w.heap.size + 1,3,none⟩ = some (.int .i64 0) := (hz.cell 3).trans rfl
    have y3 := hz.frozen 3
    have z4 : wc.cell? ⟨w.heap.size + 1,4,none⟩ = some (.bool false) := (hz.cell 4).trans rfl
    have y4 := hz.frozen 4
    have z5 : wc.cell? ⟨w.heap.size + 1,5,none⟩ = some (.int .i64 0) := (hz.cell 5).trans rfl
    have y5 := hz.frozen 5
    have HZ := Lib.hid hz
    clear hz
    refine Sq.kT (i := 11) (v := ?rvc11) rfl ?ryc11 hHeld ?rrc11
    case ryc11 => (intro w' hSw; (try dsimp only at hSw); go_simp; first | done | with_reducible rfl)
    try simp only [Act.put,Sq.t,Sq.z,Sq.s]
    refine Sq.kT (i := 12) (v := ?rvc12) rfl ?ryc12 hHeld ?rrc12
    case ryc12 => (intro w' hSw; (try dsimp only at hSw); go_simp; first | done | with_reducible rfl)
    try simp only [Act.put,Sq.t,Sq.z,Sq.s]
    refine Sq.kT (i := 13) (v := ?rvc13) rfl ?ryc13 hHeld ?rrc13
    case ryc13 => (intro w' hSw; (try dsimp only at hSw); go_simp; first | done | with_reducible rfl)
    try simp only [Act.put,Sq.t,Sq.z,Sq.s]
    have hcq : cb ≠ w.heap.size + 1 := HCQ.out
    have hS2 : ∀ w',Keeps [w.heap.size + 1] wc w' → w'.cell? ⟨cb,0,none⟩ = some (PT z.p) ∧ w'.cell? ⟨cb,2,none⟩ = some (.int .i64 x.slot) := fun w' hk' => ⟨(keeps_cell hk' (ht1.cm.lt _ ht1.cm.inH) (by simp; exact hcq)).trans hS1.1,(keeps_cell hk' (ht1.cm.lt _ ht1.cm.inH) (by simp; exact hcq)).trans hS1.2⟩
    refine Sq.oT (i := 15) rfl fun K hK => ?_
    go_simp
    refine hK.out _ _ (fun _ => hS2 _ (((((((Keeps.refl [w.heap.size + 1] _).setCell (.inl (by simp)) _).setCell (.inl (by simp)) _).setCell (.inl (by simp)) _).setCell (.inl (by simp)) _).setCell (.inl (by simp)) _).setCell (.inl (by simp)) _)) ?_
    clear hK K
    try simp only [Act.put,Sq.t,Sq.z,Sq.s]
    refine Sq.oT (i := 16) rfl fun K hK => ?_
    go_simp
    refine hK.out _ _ (fun _ => hS2 _ (((((((Keeps.refl [w.heap.size + 1] _).setCell (.inl (by simp)) _).setCell (.inl (by simp)) _).setCell (.inl (by simp)) _).setCell (.inl (by simp)) _).setCell (.inl (by simp)) _).setCell (.inl (by simp)) _)) ?_
    clear hK K
    try simp only [Act.put,Sq.t,Sq.z,Sq.s]
    refine wpAnyL_done (by kernel_rfl) ?_ _
    refine NoPanic.normal ?_
    go_wp2_with fail
    go_meet
    have hkw : Keeps [w.heap.size + 1] wc ((((((wc.setCell ⟨(w.heap.size + 1),0,none⟩ (.int .i64 hv.gen)).setCell ⟨(w.heap.size + 1),1,none⟩ (.int .i64 hv.state)).setCell ⟨(w.heap.size + 1),2,none⟩ (.int .i64 hv.stamp)).setCell ⟨(w.heap.size + 1),3,none⟩ (.int .i64 hv.thread)).setCell ⟨(w.heap.size + 1),4,none⟩ (.bool hv.doomed)).setCell ⟨(w.heap.size + 1),5,none⟩ (.int .i64 hv.who)) := ((((((Keeps.refl [w.heap.size + 1] _).setCell (.inl (by simp)) _).setCell (.inl (by simp)) _).setCell (.inl (by simp)) _).setCell (.inl (by simp)) _).setCell (.inl (by simp)) _).setCell (.inl (by simp)) _
    have hqH : w.heap.size + 1 ∉ H := HQH.out
    exact ⟨w.heap.size + 1,F1,rfl,hqH,Nat.le_succ _,late_trio ht1 hkw (Nat.le_trans HT.out.sp.keep.size (Nat.le_succ _)) (fun hx => (hn1 _ hx).elim hqF (fun h => HNQ.out h)) hqH HJQ.out (fun t ht => by rw [HZ.out.tyOf] at ht; injection ht with ht; subst ht; decide),((((HKA.out).mono (by simp)).trans hk1 (fun q hq => .inl (by simp [hq]))).trans hkw (fun q hq => .inr (by simp at hq; omega))),fun q hq => (hn1 q hq).imp id (fun h => Nat.le_trans (HKA.out).size h),(((((HZ.out.set_ 0 (.int .i64 hv.gen)).set_ 1 (.int .i64 hv.state)).set_ 2 (.int .i64 hv.stamp)).set_ 3 (.int .i64 hv.thread)).set_ 4 (.bool hv.doomed)).set_ 5 (.int .i64 hv.who)⟩
 case rest =>
  obtain ⟨q,F1,rfl,hqH,hqw,ht1,hk1,hn1,hbq⟩ := hcut
  obtain ⟨wa,hwa⟩ : ∃ v,v = wc := ⟨_,rfl⟩
  subst hwa
  have c3 := ht1.cm.fix.2.2.2.1
  obtain ⟨v7,v8,v10,v11⟩ := ht1.cm.var
  have g10 := ht1.cm.frozen 10
  have q0 : wa.cell? ⟨q,0,none⟩ = some (.int .i64 hv.gen) := (hbq.cell 0).trans rfl
  have q1 : wa.cell? ⟨q,1,none⟩ = some (.int .i64 hv.state) := (hbq.cell 1).trans rfl
  have q4 : wa.cell? ⟨q,4,none⟩ = some (.bool hv.doomed) := (hbq.cell 4).trans rfl
  have HW1 : Hid (WentC w0 w wa z F H jb cb dp nv S' c d x) := WentC.of ht1 hk1 hn1 (fun q hq => .inl hq)
  have HT1 := Lib.hid ht1
  have HK1 := Lib.hid (And.intro hk1 hn1)
  clear ht1 hk1 hn1 hbq hqH hqw HC QS HLK hkB hsz HLT HQH HCQ HJQ HBX HNS
  by_cases h1 : hv.state = 2
  ·
   have e1 : (hv.state != 2) = false := by simp [h1]
   by_cases h2 : hv.gen = x.gen
   ·
    have e2 : (hv.gen != x.gen) = false := by simp [h2]
    cases h3 : hv.doomed
    ·
     have hR := HR.out
     rw [if_neg (show ¬ x.lost hv from fun hq => by rcases hq with hq | hq | hq; exact hq h1; exact hq h2; rw [h3] at hq; cases hq)] at hR
     subst hR
     rw [h3] at q4
     clear HR h1 h2 h3
     go_wp2_with fail
     go_quiet (fail)
     have HT2 := Lib.hid (HT1.out.calm ((Keeps.refl [] wa).drewN nq))
     have HKZ : Hid (Keeps [] wa (wa.drewN nq)) := (Keeps.refl [] wa).drewN nq
     clear q0 q1 q4 c3 v7 v8 v10 v11 g10
     generalize wa.drewN nq = wz at *
     obtain ⟨p0,hp0⟩ : ∃ p,x.ws[0]? = some p := ⟨_,List.getElem?_eq_getElem (by have := HO.out.w1; omega)⟩
     obtain ⟨wv,c6,how⟩ := HT2.out.cm.writes
     obtain ⟨g,off,cap,rfl,_,_⟩ := pr_cell how hp0
     have HOWP := Lib.hid how
     have hlen := HO.out.w16
     have HN16 := Lib.hid hlen
     have hlt : x.to.length = x.ws.length := by unfold Cm.to; simp
     have HTL := Lib.hid hlt
     clear how hp0 hlen hlt
     obtain ⟨i0,hi,hz0,hz1,hz2⟩ := info_parts Tryz.infoInt
     go_wp2_with fail
     go_loopw [8,55] (fun v i wr => ∃ j : Nat,j ≤ x.ws.length ∧ i = .int .i64 j ∧ Keeps [] wz wr ∧ wr.ownsRow wz.heap.size 3 1 v (x.to.take j).length ((x.to.take j).map (Value.int .i64))) (fun _ i _ => x.ws.length - (intOf i).toNat)
     case atStart => exact ⟨0,Nat.zero_le _,rfl,Keeps.refl _ _,World.ownsRow_nil _ _ _ _⟩
     case round =>
      obtain ⟨j,hj,rfl,hkr,hor⟩ := hrel
      have HKR := Lib.hid hkr
      have HOR := Lib.hid hor
      by_cases hlt : j < x.ws.length
      ·
       as_aux_lemma =>
        have j0 : (0 : Int) ≤ (j : Int) := by omega
        have j1 : (j : Int) < (x.ws.length : Int) := by omega
        obtain ⟨p,hp⟩ : ∃ p,x.ws[j]? = some p := ⟨_,List.getElem?_eq_getElem hlt⟩
        have hl16 := HN16.out
        obtain ⟨d0,d1⟩ := pr_cell2 (own_keeps HOWP.out hkr (by simp)) hp
        have hsn : x.to.take (j + 1) = x.to.take j ++ [p.cell] := take_snoc (by unfold Cm.to; simp [hp])
        have HSN := Lib.hid hsn
        have hjl : (x.to.take j).length ≤ 16 := by have := HTL.out; have := HN16.out; rw [List.length_take]; omega
        have hmx : Hid ((x.to.take j).length + 1 ≤ maxLen) := by unfold Hid maxLen; omega
        have hby : Hid (((x.to.take j).length + 1) * 8 ≤ 140737488355328) := by unfold Hid; omega
        clear hkr hor hp hsn hjl hlt
        go_wp2_with (at_builtin; refine wpList_append_row rfl (.tmp 59) (.tmp 62) 186 rfl 3 i0 _ 1 8 Tryz.underlying186 hi hz0 hz1 hz2 rfl (by decide) u8 (x.to.take j).length _ rfl (own_base (own_keeps HOR.out (((Keeps.refl [] _).alloc _).alloc _) (by simp)) (fun k _ => Nat.zero_le k)) _ 1 [.int .i64 p.cell] rfl (made_row _ _ _ _ (by simp)) (by simp [Value.oneCell']) hmx.out hby.out ?_; intro v1 w1 hown1 hg1 hat1; have HGR := Lib.hid (to_grow HOR.out HKR.out ((Keeps.refl [] _).alloc _) hown1 hg1 hat1); clear hown1 hg1 hat1)
        exact ⟨⟨j + 1,by omega,by simp,HGR.out.2,by rw [HSN.out]; exact HGR.out.1⟩,by simp [intOf]; omega⟩
      ·
       obtain rfl : j = x.ws.length := by omega
       have htk : x.to.take x.ws.length = x.to := by rw [← HTL.out,List.take_length]
       rw [htk] at hor
       obtain ⟨A,cp,rfl,hAl,hsl⟩ := Slc.of_own hor (by have := HN16.out; have := HTL.out; unfold maxLen; omega)
       rw [hAl] at *
       have HSLC := Lib.hid hsl
       have HT4 := Lib.hid (HT2.out.calm hkr)
       have e0 := HT4.out.cm.fix.1
       have HCF := Lib.hid (fun (w' : World) (hk' : Keeps [] wr w') => show Calls Tryz.prog 67 #[PT z.p] w' fun e w'' => e = .returned (.agg #[.int .i64 c.cells,.int .i64 c.slots,.int .i64 c.bits,.int .i64 c.tag,.int .i64 c.bias,.int .i64 c.defer]) ∧ Keeps [] w' w'' by
        have := sp_config (HT4.out.calm hk').sp
        rw [HSS.out.1,HCC.out] at this
        exact this)
       clear hor hsl hkr htk HOR hlt hj
       go_wp2_with fail
       refine (HCF.out _ (by first | exact Keeps.refl [] _ | exact (Keeps.refl [] _).drew)).mono ?_
       rintro e w3 ⟨rfl,hk3⟩
       have HOF := Lib.hid (of_any w3 A cp x.to (HSLC.out.keeps hk3) c.bits (HCC.out ▸ HFC.out).2.2.1.1 (HCC.out ▸ HFC.out).2.2.1.2)
       have HK3 := Lib.hid hk3
       clear hk3 e0
       have hfb := field_bits w3 c
       unfold Sg.val at HOF
       go_wp2_with fail
       refine HOF.out.mono ?_
       rintro e w4 ⟨rfl,hk4⟩
       obtain ⟨sg,hsg⟩ : ∃ q,(ofR c.bits x.to) = q := ⟨_,rfl⟩
       rw [hsg]
       have HSG := Lib.hid hsg
       have HK4 : Hid (Keeps [] wr w4) := HK3.out.trans hk4 (by simp)
       clear hsg hk4 HOF
       go_wp2_with fail
       have hb5 := Blk.new w4 47 #[.int .u64 (sg.a : Int),.int .u64 (sg.b : Int)]
       have hk5 : Keeps [] wr (w4.alloc (.cells #[.int .u64 (sg.a : Int),.int .u64 (sg.b : Int)] 47)) := HK4.out.alloc _
       have hlt5 : w4.heap.size < (w4.alloc (.cells #[.int .u64 (sg.a : Int),.int .u64 (sg.b : Int)] 47)).heap.size := by simp
       have hle4 := HK4.out.size
       obtain ⟨sb,hsb⟩ : ∃ q,w4.heap.size = q := ⟨_,rfl⟩
       obtain ⟨w5,hw5⟩ : ∃ q,w4.alloc (.cells #[.int .u64 (sg.a : Int),.int .u64 (sg.b : Int)] 47) = q := ⟨_,rfl⟩
       rw [hsb] at hb5 hlt5 hle4
       rw [hw5] at hb5 hk5 hlt5
       try rw [hw5]
       try rw [hsb]
       have HT5 := Lib.hid (HT4.out.calm hk5)
       have HSB : Hid (sb < w5.heap.size ∧ sb ≠ cb) := ⟨hlt5,fun e => by have := HT4.out.cm.lt _ HT4.out.cm.inH; omega⟩
       have HC5 := Lib.hid (show ∀ w',Keeps [] w5 w' → w'.cell? ⟨cb,0,none⟩ = some (PT z.p) ∧ w'.cell? ⟨cb,2,none⟩ = some (.int .i64 x.slot) ∧ w'.cell? ⟨sb,0,none⟩ = some (.int .u64 (sg.a : Int)) ∧ w'.cell? ⟨sb,1,none⟩ = some (.int .u64 (sg.b : Int)) from fun w' hk' => let q := (HT5.out.calm hk').cm.fix; ⟨q.1,q.2.2.1,(Blk.cell (hb5.keeps hk' (by simp)) 0).trans rfl,(Blk.cell (hb5.keeps hk' (by simp)) 1).trans rfl⟩)
       have HN := Lib.hid (fun (w' : World) (hk' : Keeps [] w5 w') => show Calls Tryz.prog 30 #[PT z.p,.int .i64 x.slot,.agg #[.int .u64 (sg.a : Int),.int .u64 (sg.b : Int)]] w' fun e w'' => ∃ b G,e = .returned (.tuple #[PT b,.int .i64 0]) ∧ LK w0 w'' z F1 b G (Lk.new S'.H.length x.slot sg) ∧ (∀ q,q ∈ G → w'.heap.size ≤ q) ∧ Keeps [] w' w'' from
        lk_new (HT5.out.calm hk').sp HFIT.out sg x.slot HO.out.s0 (by rw [HSS.out.2.2]; exact HO.out.s1))
       have HKW : Hid (Keeps [] wa w5.drew) := (HKZ.out.trans (HKR.out.trans hk5 (by simp)) (by simp)).drew
       clear hb5 hk5 hlt5 hle4 hsb hw5 HCF
       refine wp_region_noPanic ?_
       refine wp_region_L 99 (fun w' => w'.cell? ⟨cb,0,none⟩ = some (PT z.p) ∧ w'.cell? ⟨cb,2,none⟩ = some (.int .i64 x.slot) ∧ w'.cell? ⟨sb,0,none⟩ = some (.int .u64 (sg.a : Int)) ∧ w'.cell? ⟨sb,1,none⟩ = some (.int .u64 (sg.b : Int))) (by kernel_rfl) ?_
       have hHeld := HC5.out _ (Keeps.refl [] w5).drew
       refine Sq.kT (i := 0) (v := ?rvl0) rfl ?ryl0 hHeld ?rrl0
       case ryl0 => (intro w' hSw; (try dsimp only at hSw); go_simp; first | done | with_reducible rfl)
       try simp only [Act.put,Sq.t,Sq.z,Sq.s]
       refine Sq.kT (i := 1) (v := ?rvl1) rfl ?ryl1 hHeld ?rrl1
       case ryl1 => (intro w' hSw; (try dsimp only at hSw); go_simp; first | done | with_reducible rfl)
       try simp only [Act.put,Sq.t,Sq.z,Sq.s]
       refine Sq.kT (i := 2) (v := ?rvl2) rfl ?ryl2 hHeld ?rrl2
       case ryl2 => (intro w' hSw; (try dsimp only at hSw); go_simp; first | done | with_reducible rfl)
       try simp only [Act.put,Sq.t,Sq.z,Sq.s]
       refine Sq.kT (i := 3) (v := ?rvl3) rfl ?ryl3 hHeld ?rrl3
       case ryl3 => (intro w' hSw; (try dsimp only at hSw); go_simp; first | done | with_reducible rfl)
       try simp only [Act.put,Sq.t,Sq.z,Sq.s]
       refine Sq.kT (i := 4) (v := ?rvl4) rfl ?ryl4 hHeld ?rrl4
       case ryl4 => (intro w' hSw; (try dsimp only at hSw); go_simp; first | done | with_reducible rfl)
       try simp only [Act.put,Sq.t,Sq.z,Sq.s]
       refine Sq.kT (i := 5) (v := ?rvl5) rfl ?ryl5 hHeld ?rrl5
       case ryl5 => (intro w' hSw; (try dsimp only at hSw); go_simp; first | done | with_reducible rfl)
       try simp only [Act.put,Sq.t,Sq.z,Sq.s]
       refine Sq.kT (i := 6) (v := ?rvl6) rfl ?ryl6 hHeld ?rrl6
       case ryl6 => (intro w' hSw; (try dsimp only at hSw); go_simp; first | done | with_reducible rfl)
       try simp only [Act.put,Sq.t,Sq.z,Sq.s]
       refine Sq.kT (i := 7) (v := ?rvl7) rfl ?ryl7 hHeld ?rrl7
       case ryl7 => (intro w' hSw; (try dsimp only at hSw); go_simp; first | done | with_reducible rfl)
       try simp only [Act.put,Sq.t,Sq.z,Sq.s]
       refine Sq.kT (i := 8) (v := ?rvl8) rfl ?ryl8 hHeld ?rrl8
       case ryl8 => (intro w' hSw; (try dsimp only at hSw); go_simp; first | done | with_reducible rfl)
       try simp only [Act.put,Sq.t,Sq.z,Sq.s]
       refine Sq.kT (i := 9) (v := ?rvl9) rfl ?ryl9 hHeld ?rrl9
       case ryl9 => (intro w' hSw; (try dsimp only at hSw); go_simp; first | done | with_reducible rfl)
       try simp only [Act.put,Sq.t,Sq.z,Sq.s]
       refine Sq.kT (i := 10) (v := ?rvl10) rfl ?ryl10 hHeld ?rrl10
       case ryl10 => (intro w' hSw; (try dsimp only at hSw); go_simp; first | done | with_reducible rfl)
       try simp only [Act.put,Sq.t,Sq.z,Sq.s]
       refine Sq.oT (i := 11) rfl fun K hK => ?_
       go_simp
       go_at_call 30
       refine (HN.out _ (Keeps.refl [] w5).drew).mono ?_
       rintro e wf ⟨b,G',rfl,hlk,hfr,hkf⟩
       have hS1 : wf.cell? ⟨cb,0,none⟩ = some (PT z.p) ∧ wf.cell? ⟨cb,2,none⟩ = some (.int .i64 x.slot) ∧ wf.cell? ⟨sb,0,none⟩ = some (.int .u64 (sg.a : Int)) ∧ wf.cell? ⟨sb,1,none⟩ = some (.int .u64 (sg.b : Int)) := HC5.out _ ((Keeps.refl [] w5).drew.trans hkf (by simp))
       have ht6 := HT5.out.calm ((Keeps.refl [] w5).drew.trans hkf (by simp))
       have g9 := ht6.cm.frozen 9
       obtain ⟨u9,c9⟩ := ht6.cm.cell9
       have HND := Lib.hid ((HT5.out.calm ((Keeps.refl [] w5).drew)).newLook hlk hfr hkf)
       have hsl := ht6.cm.lt _ ht6.cm.inH
       have hsb2 : sb < wf.heap.size := Nat.lt_of_lt_of_le HSB.out.1 ((Keeps.refl [] w5).drew.trans hkf (by simp)).size
       have kset := (Keeps.refl [cb] wf).setCell (p := ⟨cb,9,none⟩) (.inl (by simp)) (PT b)
       have hS2 : (wf.setCell ⟨cb,9,none⟩ (PT b)).cell? ⟨cb,0,none⟩ = some (PT z.p) ∧ (wf.setCell ⟨cb,9,none⟩ (PT b)).cell? ⟨cb,2,none⟩ = some (.int .i64 x.slot) ∧ (wf.setCell ⟨cb,9,none⟩ (PT b)).cell? ⟨sb,0,none⟩ = some (.int .u64 (sg.a : Int)) ∧ (wf.setCell ⟨cb,9,none⟩ (PT b)).cell? ⟨sb,1,none⟩ = some (.int .u64 (sg.b : Int)) := ⟨cell_other _ hS1.1 (by simp),cell_other _ hS1.2.1 (by simp),(keeps_cell kset hsb2 (by simp; exact HSB.out.2)).trans hS1.2.2.1,(keeps_cell kset hsb2 (by simp; exact HSB.out.2)).trans hS1.2.2.2⟩
       clear hlk hfr hkf ht6 kset
       go_simp
       refine hK.out _ _ (fun _ => hS1) ?_
       clear hK K
       try simp only [Act.put,Sq.t,Sq.z,Sq.s]
       replace hHeld := hS1
       refine Sq.kT (i := 12) (v := ?rvl12) rfl ?ryl12 hHeld ?rrl12
       case ryl12 => (intro w' hSw; (try dsimp only at hSw); go_simp; first | done | with_reducible rfl)
       try simp only [Act.put,Sq.t,Sq.z,Sq.s]
       refine Sq.kT (i := 13) (v := ?rvl13) rfl ?ryl13 hHeld ?rrl13
       case ryl13 => (intro w' hSw; (try dsimp only at hSw); go_simp; first | done | with_reducible rfl)
       try simp only [Act.put,Sq.t,Sq.z,Sq.s]
       refine Sq.kT (i := 14) (v := ?rvl14) rfl ?ryl14 hHeld ?rrl14
       case ryl14 => (intro w' hSw; (try dsimp only at hSw); go_simp; first | done | with_reducible rfl)
       try simp only [Act.put,Sq.t,Sq.z,Sq.s]
       refine Sq.kT (i := 15) (v := ?rvl15) rfl ?ryl15 hHeld ?rrl15
       case ryl15 => (intro w' hSw; (try dsimp only at hSw); go_simp; first | done | with_reducible rfl)
       try simp only [Act.put,Sq.t,Sq.z,Sq.s]
       refine Sq.kT (i := 16) (v := ?rvl16) rfl ?ryl16 hHeld ?rrl16
       case ryl16 => (intro w' hSw; (try dsimp only at hSw); go_simp; first | done | with_reducible rfl)
       try simp only [Act.put,Sq.t,Sq.z,Sq.s]
       refine Sq.oT (i := 17) rfl fun K hK => ?_
       go_simp
       refine hK.out _ _ (fun _ => hS2) ?_
       clear hK K
       try simp only [Act.put,Sq.t,Sq.z,Sq.s]
       refine wpAnyL_done (by kernel_rfl) ?_ _
       refine NoPanic.normal ?_
       go_wp2_with fail
       obtain ⟨F2,H2,ht2,hk2,hn2,hH2⟩ := WentC.trio (HT5.out.calm ((Keeps.refl [] w5).drew)) HND.out
       have hok : sg.ok := HSG.out ▸ ofR_ok (HCC.out ▸ HFC.out).2.2.1.1 (HCC.out ▸ HFC.out).2.2.1.2 _
       have hin : (Lk.new S'.H.length x.slot sg).In S'.H.length := Lk.In.new (by rw [HSS.out.2.2]; exact HO.out.n8) _ hok
       have HB := Lib.hid (cm_behind ht2 HFIT.out HKK.out (HCC.out ▸ HFC.out) HD.out.1 HD.out.2 (l := Lk.new S'.H.length x.slot sg) rfl hin ((show x.Ok S'.H.length by rw [HSS.out.2.2]; exact HO.out).relook hin))
       have HP2 := Lib.hid (And.intro hk2 (And.intro hn2 hH2))
       clear ht2 hk2 hn2 hH2 hok hin
       refine HB.out.mono ?_
       rintro e w9 ⟨dp',rfl,hW9⟩
       have HW9 := Lib.hid hW9
       clear hW9
       go_wp2_with fail
       go_ret2
       refine ⟨dp',?_,?_⟩
       · rw [← HSS.out.2.2,HCC.out,HSG.out]
         rfl
       · rw [← HSS.out.2.2,HCC.out,HSG.out]
         exact WentC.trans HK1.out.1 HK1.out.2 (fun q hq => .inl hq) (WentC.pre HKW.out (WentC.trans HP2.out.1 HP2.out.2.1 HP2.out.2.2 HW9.out))
    ·
     rw [h3] at q4
     as_aux_lemma =>
      have hR := HR.out
      rw [if_pos (show x.lost hv from .inr (.inr h3))] at hR
      clear h1 h2 h3
      subst hR
      go_wp2_with fail
      go_quiet (fail)
      go_wp2_with fail
      go_ret2
      have hWd := HW1.out.calm ((Keeps.refl [] wa).drewN nq)
      generalize wa.drewN nq = wz at *
      exact ⟨dp,rfl,hWd.set 10 (.int .i64 7) (x' := { x with e := 7,st := .giveUp }) (fun _ _ => rfl) rfl rfl rfl (Blk.lt HT.out.j) HT.out.jH⟩
   ·
    have e2 : (hv.gen != x.gen) = true := by simp [h2]
    as_aux_lemma =>
     have hR := HR.out
     rw [if_pos (show x.lost hv from .inr (.inl h2))] at hR
     clear h1 h2
     subst hR
     go_wp2_with fail
     go_quiet (fail)
     go_wp2_with fail
     go_ret2
     have hWd := HW1.out.calm ((Keeps.refl [] wa).drewN nq)
     generalize wa.drewN nq = wz at *
     exact ⟨dp,rfl,hWd.set 10 (.int .i64 7) (x' := { x with e := 7,st := .giveUp }) (fun _ _ => rfl) rfl rfl rfl (Blk.lt HT.out.j) HT.out.jH⟩
  ·
   have e1 : (hv.state != 2) = true := by simp [h1]
   as_aux_lemma =>
    have hR := HR.out
    rw [if_pos (show x.lost hv from .inl h1)] at hR
    clear h1
    subst hR
    go_wp2_with fail
    go_quiet (fail)
    go_wp2_with fail
    go_ret2
    have hWd := HW1.out.calm ((Keeps.refl [] wa).drewN nq)
    generalize wa.drewN nq = wz at *
    exact ⟨dp,rfl,hWd.set 10 (.int .i64 7) (x' := { x with e := 7,st := .giveUp }) (fun _ _ => rfl) rfl rfl rfl (Blk.lt HT.out.j) HT.out.jH⟩
end
end Go.Proofs.YtmlnedilbneekaaGreat