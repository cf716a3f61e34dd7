/- quashlaw13.same: a space and the document's that hold the same: the call says so. -/
import Derived.Test.YtmlnedilbneekaaGreatRpNew
import Derived.Test.YtmlnedilbneekaaGreatMake
set_option linter.unusedVariables false
set_option linter.unusedSimpArgs false
namespace Go.Proofs.YtmlnedilbneekaaGreat
open Go.RowKit
namespace Same13
section
variable {w0 w w' : World} {z : Sb} {F : List Nat} {y : Rb} {G : List Nat} {S : Sp} {k : Nat}
set_option maxRecDepth 100000 in
set_option maxHeartbeats 4000000 in
theorem any (h : Two w0 w z F y G S S) (hf : Fit k S) (hk : k ≤ 1099511627776) : Calls Tryz.prog 23 #[PT z.p,PT y.p] w fun e w' => e = .returned (.bool true) ∧ Keeps [] w w' := by
 obtain ⟨lb,v,hs,_⟩ := h.rp.ex
 have hl : S.met.log.length ≤ 2199023255552 := by have := hf.log; omega
 obtain ⟨vx,hmx⟩ := hs.met
 obtain ⟨A,c,rfl,_,LX⟩ := LogSlc.of_own hmx.own hl
 have hm3 : w.cell? ⟨y.m,3,none⟩ = some (.int .i64 S.met.most) := (hmx.blk.cell 3).trans rfl
 have hm4 : w.cell? ⟨y.m,4,none⟩ = some (.slice A S.met.log.length c) := (hmx.blk.cell 4).trans rfl
 have HC := Lib.hid (show ∀ w',Keeps [] w w' → w'.cell? ⟨z.p,0,none⟩ = some (PT z.m) ∧ w'.cell? ⟨y.p,6,none⟩ = some (PT y.m) ∧ w'.cell? ⟨y.m,4,none⟩ = some (.slice A S.met.log.length c) ∧ w'.cell? ⟨y.m,3,none⟩ = some (.int .i64 S.met.most) from fun w' hk => ⟨(h.sp.calm hk).cells.1,(h.rp.calm hk).cells.2.2.2.1,keeps_cell0 hk hm4,keeps_cell0 hk hm3⟩)
 have QV : Hid (∀ w',Keeps [] w w' → Calls Tryz.prog 57 #[PT z.p] w' fun e w'' => (∃ a1 c1 a2 c2,e = .returned (.agg #[.slice (some ⟨a1,0,none⟩) S.cells.length c1,.int .i64 S.gate.number,.int .i64 S.gate.owner,.slice (some ⟨a2,0,none⟩) S.H.length c2]) ∧ ∀ w3,Keeps [] w'' w3 → Calls Tryz.prog 56 #[PT y.p,.agg #[.slice (some ⟨a1,0,none⟩) S.cells.length c1,.int .i64 S.gate.number,.int .i64 S.gate.owner,.slice (some ⟨a2,0,none⟩) S.H.length c2]] w3 fun e w4 => e = .returned (.bool true) ∧ Keeps [] w w4) ∧ Keeps [] w w'') := fun w' hk' => (sp_view (h.sp.calm hk') hf).mono fun e w'' ⟨a1,c1,a2,c2,he,h1,h2,_,_,h5⟩ => ⟨⟨a1,c1,a2,c2,he,fun w3 hk3 => (is_yes (h.rp.calm ((hk'.trans h5 (by simp)).trans hk3 (by simp))) hf a1 c1 a2 c2 (h1.keeps hk3 (by simp)) (h2.keeps hk3 (by simp))).mono fun e w4 ⟨he,h6⟩ => ⟨he,((hk'.trans h5 (by simp)).trans hk3 (by simp)).trans h6 (by simp)⟩⟩,hk'.trans h5 (by simp)⟩
 have QL : Hid (∀ w',Keeps [] w w' → Calls Tryz.prog 59 #[PT z.m] w' fun e w'' => (∃ A2 c2,e = .returned (.slice A2 S.met.log.length c2) ∧ ∀ w3,Keeps [] w'' w3 → Calls Tryz.prog 58 #[.slice A2 S.met.log.length c2,.slice A S.met.log.length c] w3 fun e w4 => e = .returned (.bool true) ∧ Keeps [] w w4) ∧ Keeps [] w w'') := fun w' hk' => (sp_log (h.sp.calm hk') hl).mono fun e w'' ⟨v2,he,h1,h2⟩ => by
  obtain ⟨A2,c2,rfl,_,L2⟩ := LogSlc.of_own h1 hl
  exact ⟨⟨A2,c2,he,fun w3 hk3 => (same_yes w3 A2 A S.met.log c2 c (L2.keeps hk3) ((LX.keeps (hk'.trans h2 (by simp))).keeps hk3)).mono fun e w4 ⟨he,h6⟩ => ⟨he,((hk'.trans h2 (by simp)).trans hk3 (by simp)).trans h6 (by simp)⟩⟩,hk'.trans h2 (by simp)⟩
 have QM : Hid (∀ w',Keeps [] w w' → Calls Tryz.prog 60 #[PT z.m] w' fun e w'' => e = .returned (.int .i64 S.met.most) ∧ Keeps [] w w'') := fun w' hk' => (sp_most (h.sp.calm hk')).mono fun e w'' ⟨he,h2⟩ => ⟨he,h2 ▸ hk'⟩
 have hkB : Keeps [] w w := Keeps.refl _ _
 clear h hf hk hs hmx hl LX hm3 hm4
 go_enter Tryz.func23,Tryz.ntmps23
 go_wp2_with fail
 go_region_held3 (fun w' => w'.cell? ⟨z.p,0,none⟩ = some (PT z.m) ∧ w'.cell? ⟨y.p,6,none⟩ = some (PT y.m) ∧ w'.cell? ⟨y.m,4,none⟩ = some (.slice A S.met.log.length c) ∧ w'.cell? ⟨y.m,3,none⟩ = some (.int .i64 S.met.most)) (first | with_reducible exact HC.out _ Sq.kp | go_keep) ((first
  | (go_at_call 57; (with_reducible refine (QV.out _ Sq.kp).mono ?_); rintro e wv ⟨⟨a1,c1,a2,c2,rfl,hIs⟩,hkv⟩; have HIS := Lib.hid hIs; clear hIs)
  | (go_at_call 56; (with_reducible refine (HIS.out _ (by first | with_reducible exact Keeps.refl _ _ | with_reducible exact Keeps.drew Sq.r | with_reducible exact Keeps.drew (Keeps.drew Sq.r))).mono ?_); rintro e wi ⟨rfl,hki⟩)
  | (go_at_call 59; (with_reducible refine (QL.out _ Sq.kp).mono ?_); rintro e wl ⟨⟨A2,c2,rfl,hSa⟩,hkl⟩; have HSA := Lib.hid hSa; clear hSa)
  | (go_at_call 58; (with_reducible refine (HSA.out _ (by first | with_reducible exact Keeps.refl _ _ | with_reducible exact Keeps.drew Sq.r | with_reducible exact Keeps.drew (Keeps.drew Sq.r))).mono ?_); rintro e ws ⟨rfl,hks⟩)
  | (go_at_call 60; (with_reducible refine (QM.out _ Sq.kp).mono ?_); rintro e wm ⟨rfl,hkm⟩)))
 all_goals
  go_wp2_with fail
  go_ret
  exact ⟨rfl,by first | with_reducible assumption | with_reducible exact Keeps.drew (by with_reducible assumption)⟩
end
end Same13
end Go.Proofs.YtmlnedilbneekaaGreat