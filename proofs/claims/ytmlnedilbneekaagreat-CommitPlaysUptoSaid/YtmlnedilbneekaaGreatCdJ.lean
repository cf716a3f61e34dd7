/- Layer 13: the document's commit: take, give up, write. -/
import Derived.Test.YtmlnedilbneekaaGreatCmAt
import Derived.Test.YtmlnedilbneekaaGreatRp
import Derived.Test.YtmlnedilbneekaaGreatLdB
import Derived.Deep.RegionHeld3
import Derived.Deep.QuietTactic
import Derived.BigQuiet
import Derived.Deep.DeepCutAuto
import Derived.Deep.CutBlock
import Derived.Test.YtmlnedilbneekaaGreatRegT
import Derived.Test.YtmlnedilbneekaaGreatMake
set_option linter.unusedVariables false
set_option linter.unusedSimpArgs false
namespace Go.Proofs.YtmlnedilbneekaaGreat
open Go.RowKit
namespace Cd
def CW (w0 w w' : World) (y : Rb) (G : List Nat) (b : Nat) (cs : Array Value) (S' : Sp) : Prop := ∃ G',RP w0 w' y G' S' ∧ Blk w' b 167 cs ∧ Keeps (b :: G) w w' ∧ (∀ z,z ∈ G' → z ∈ G ∨ w.heap.size ≤ z)
section
variable {w w' w0 wd : World} {y : Rb} {G : List Nat} {S : Sp} {n b k jb : Nat} {sl ge th st sg nu at_ e0 : Int} {won : Bool} {wv lp dp : Value}
set_option maxRecDepth 100000 in
set_option maxHeartbeats 4000000 in
theorem take_walk (h : RP w0 w y G S) (hf : Fit k S) (hk : k ≤ 1099511627776) (hb : Blk w b 167 #[PT y.p,PT jb,.int .i64 sl,.int .i64 ge,.int .i64 th,.int .i64 st,wv,.int .i64 1,.int .i64 nu,lp,dp,.int .i64 at_,.int .i64 e0,.bool won]) (hbG : b ∉ G) (hb0 : w0.heap.size ≤ b) :
 Calls Tryz.prog 73 #[PT b] w fun e w' => e = .returned (.int .i64 (if (S.take th).1.2 = 0 then 1 else 2)) ∧ CW w0 w w' y G b (if (S.take th).1.2 = 0 then #[PT y.p,PT jb,.int .i64 sl,.int .i64 ge,.int .i64 th,.int .i64 st,wv,.int .i64 2,.int .i64 (S.take th).1.1,lp,dp,.int .i64 at_,.int .i64 e0,.bool won] else #[PT y.p,PT jb,.int .i64 sl,.int .i64 ge,.int .i64 th,.int .i64 st,wv,.int .i64 1,.int .i64 nu,lp,dp,.int .i64 at_,.int .i64 e0,.bool won]) (S.take th).2 := by
 have HBB := Lib.hid hb
 have HB := Lib.hid hb
 have HP := Lib.hid h
 have HBG := Lib.hid (And.intro hbG hb0)
 have HKD : Hid (Keeps [] w w) := Keeps.refl [] w
 obtain ⟨a1,ha1⟩ : ∃ u,(S.take th).1.1 = u := ⟨_,rfl⟩
 obtain ⟨er,her⟩ : ∃ u,(S.take th).1.2 = u := ⟨_,rfl⟩
 obtain ⟨S1,hS1⟩ : ∃ u,(S.take th).2 = u := ⟨_,rfl⟩
 have QC0 : Hid (∀ w',RP w0 w' y G S → Calls Tryz.prog 84 #[PT y.g,.int .i64 th] w' fun e w'' => e = .returned (.tuple #[.int .i64 a1,.int .i64 er]) ∧ RWent w0 w' w'' y G S1) := fun w' hx => by
  have h5 := rp_take hx hf hk th
  rw [ha1,her,hS1] at h5
  exact h5
 rw [ha1,her,hS1]
 clear h hf hk hb hbG hb0 ha1 her hS1
 go_enter Tryz.func73,Tryz.ntmps73
 go_upto_region 1 with fail
 have QP : Hid (∀ w',Keeps [] w w' → Calls Tryz.prog 84 #[PT y.g,.int .i64 th] w' fun e w'' => e = .returned (.tuple #[.int .i64 a1,.int .i64 er]) ∧ RWent w0 w' w'' y G S1 ∧ Keeps G w w'') := fun w' hk' => (QC0.out w' (HP.out.calm hk')).mono fun e w'' ⟨he,h2⟩ => ⟨he,h2,by obtain ⟨F',_,h3,_⟩ := h2; exact (hk'.mono (by simp)).trans h3 (fun q hq => .inl hq)⟩
 have HC : Hid (∀ w',Keeps [] w w' → w'.cell? ⟨b,0,none⟩ = some (PT y.p) ∧ w'.cell? ⟨b,4,none⟩ = some (.int .i64 th) ∧ w'.cell? ⟨y.p,8,none⟩ = some (PT y.g)) := fun w' hk => ⟨((HB.out.keeps hk (by simp)).cell 0).trans rfl,((HB.out.keeps hk (by simp)).cell 4).trans rfl,(HP.out.calm hk).cells.2.2.2.2.2.1⟩
 have hkB : Keeps [] w w := Keeps.refl _ _
 go_region_held3 (fun w' => w'.cell? ⟨b,0,none⟩ = some (PT y.p) ∧ w'.cell? ⟨b,4,none⟩ = some (.int .i64 th) ∧ w'.cell? ⟨y.p,8,none⟩ = some (PT y.g)) (first | with_reducible exact HC.out _ Sq.kp | with_reducible exact d5 | go_keep) ((go_at_call 84; (with_reducible refine (QP.out _ Sq.kp).mono ?_); rintro e w4 ⟨rfl,hW,hk4⟩; obtain ⟨G',hG1,hG2,hG3⟩ := id hW; have hb4 := HB.out.keeps hk4 HBG.out.1; have d5 : w4.cell? ⟨b,0,none⟩ = some (PT y.p) ∧ w4.cell? ⟨b,4,none⟩ = some (.int .i64 th) ∧ w4.cell? ⟨y.p,8,none⟩ = some (PT y.g) := ⟨(hb4.cell 0).trans rfl,(hb4.cell 4).trans rfl,hG1.cells.2.2.2.2.2.1⟩; have HB4 := Lib.hid hb4; have HG4 := Lib.hid (And.intro hG1 hG3); have HK4 := Lib.hid hk4; clear hW hG1 hG2 hG3 hb4 hk4))
 clear HC QP hkB QC0
 have HP4 := Lib.hid HG4.out.1
 have HN4 : Hid (∀ z,z ∈ G' → z ∈ G ∨ w.heap.size ≤ z) := fun z hz => (HG4.out.2 z hz).imp id (fun h => Nat.le_trans HKD.out.size h)
 have HK0 : Hid (Keeps (b :: G) w w4) := (HKD.out.mono (by simp)).trans HK4.out (fun z hz => .inl (by simp [hz]))
 have HBG1 : Hid (b ∉ G') := fun hx => by
  rcases HN4.out b hx with h1 | h1
  · exact HBG.out.1 h1
  · have h2 := HBB.out.lt
    omega
 clear HG4 HK4
 by_cases he : er = 0
 ·
  subst he
  have m8 : w4.cell? ⟨b,8,none⟩ = some (.int .i64 nu) := (HB4.out.cell 8).trans rfl
  have fm8 := HB4.out.frozen 8
  have m7 : w4.cell? ⟨b,7,none⟩ = some (.int .i64 1) := (HB4.out.cell 7).trans rfl
  have fm7 := HB4.out.frozen 7
  go_wp2_with fail
  go_ret
  have hkf : Keeps [b] w4 ((w4.setCell ⟨b,8,none⟩ (.int .i64 a1)).setCell ⟨b,7,none⟩ (.int .i64 2)) := (((Keeps.refl [b] w4).setCell (.inl (by simp)) _).setCell (.inl (by simp)) _)
  have hp9 := HP4.out.away hkf (fun z hz => by simp at hz; subst hz; exact ⟨HBG.out.2,HBG1.out,fun t ht => by rw [HB4.out.tyOf] at ht; injection ht with ht; subst ht; decide⟩)
  have hb9 := ((HB4.out.set_ 8 (.int .i64 a1)).set_ 7 (.int .i64 2))
  exact ⟨rfl,G',hp9,hb9,HK0.out.trans hkf (fun z hz => .inl (by simp at hz; simp [hz])),HN4.out⟩
 ·
  have e1 : (er != 0) = true := by simpa using he
  have HE := Lib.hid he
  clear he
  go_wp2_with fail
  go_ret
  refine ⟨by first | rfl | rw [if_neg HE.out],G',HP4.out,?_,HK0.out,HN4.out⟩
  first | exact HB4.out | (rw [if_neg HE.out]; exact HB4.out)
set_option maxRecDepth 100000 in
set_option maxHeartbeats 4000000 in
theorem giveUp_walk (h : RP w0 w y G S) (hf : Fit k S) (hk : k ≤ 1099511627776) (hb : Blk w b 167 #[PT y.p,PT jb,.int .i64 sl,.int .i64 ge,.int .i64 th,.int .i64 st,wv,.int .i64 7,.int .i64 nu,lp,dp,.int .i64 at_,.int .i64 e0,.bool won]) (hbG : b ∉ G) (hb0 : w0.heap.size ≤ b) :
 Calls Tryz.prog 78 #[PT b] w fun e w' => e = .returned (.int .i64 (if e0 = 9 then 2 else 1)) ∧ CW w0 w w' y G b #[PT y.p,PT jb,.int .i64 sl,.int .i64 ge,.int .i64 th,.int .i64 st,wv,.int .i64 8,.int .i64 nu,lp,dp,.int .i64 at_,.int .i64 e0,.bool won] (S.give th).2 := by
 have HBB := Lib.hid hb
 have HB := Lib.hid hb
 have HP := Lib.hid h
 have HBG := Lib.hid (And.intro hbG hb0)
 have HKD : Hid (Keeps [] w w) := Keeps.refl [] w
 obtain ⟨er,her⟩ : ∃ u,(S.give th).1 = u := ⟨_,rfl⟩
 obtain ⟨S1,hS1⟩ : ∃ u,(S.give th).2 = u := ⟨_,rfl⟩
 have QC0 : Hid (∀ w',RP w0 w' y G S → Calls Tryz.prog 77 #[PT y.g,.int .i64 th] w' fun e w'' => e = .returned (.int .i64 er) ∧ RWent w0 w' w'' y G S1) := fun w' hx => by
  have h5 := rp_give hx hf hk th
  rw [her,hS1] at h5
  exact h5
 rw [hS1]
 clear h hf hk hb hbG hb0 her hS1
 go_enter Tryz.func78,Tryz.ntmps78
 go_upto_region 1 with fail
 have QP : Hid (∀ w',Keeps [] w w' → Calls Tryz.prog 77 #[PT y.g,.int .i64 th] w' fun e w'' => e = .returned (.int .i64 er) ∧ RWent w0 w' w'' y G S1 ∧ Keeps G w w'') := fun w' hk' => (QC0.out w' (HP.out.calm hk')).mono fun e w'' ⟨he,h2⟩ => ⟨he,h2,by obtain ⟨F',_,h3,_⟩ := h2; exact (hk'.mono (by simp)).trans h3 (fun q hq => .inl hq)⟩
 have HC : Hid (∀ w',Keeps [] w w' → w'.cell? ⟨b,0,none⟩ = some (PT y.p) ∧ w'.cell? ⟨b,4,none⟩ = some (.int .i64 th) ∧ w'.cell? ⟨y.p,8,none⟩ = some (PT y.g)) := fun w' hk => ⟨((HB.out.keeps hk (by simp)).cell 0).trans rfl,((HB.out.keeps hk (by simp)).cell 4).trans rfl,(HP.out.calm hk).cells.2.2.2.2.2.1⟩
 have hkB : Keeps [] w w := Keeps.refl _ _
 go_region_held3 (fun w' => w'.cell? ⟨b,0,none⟩ = some (PT y.p) ∧ w'.cell? ⟨b,4,none⟩ = some (.int .i64 th) ∧ w'.cell? ⟨y.p,8,none⟩ = some (PT y.g)) (first | with_reducible exact HC.out _ Sq.kp | with_reducible exact d5 | go_keep) ((go_at_call 77; (with_reducible refine (QP.out _ Sq.kp).mono ?_); rintro e w4 ⟨rfl,hW,hk4⟩; obtain ⟨G',hG1,hG2,hG3⟩ := id hW; have hb4 := HB.out.keeps hk4 HBG.out.1; have d5 : w4.cell? ⟨b,0,none⟩ = some (PT y.p) ∧ w4.cell? ⟨b,4,none⟩ = some (.int .i64 th) ∧ w4.cell? ⟨y.p,8,none⟩ = some (PT y.g) := ⟨(hb4.cell 0).trans rfl,(hb4.cell 4).trans rfl,hG1.cells.2.2.2.2.2.1⟩; have HB4 := Lib.hid hb4; have HG4 := Lib.hid (And.intro hG1 hG3); have HK4 := Lib.hid hk4; clear hW hG1 hG2 hG3 hb4 hk4))
 clear HC QP hkB QC0
 have HP4 := Lib.hid HG4.out.1
 have HN4 : Hid (∀ z,z ∈ G' → z ∈ G ∨ w.heap.size ≤ z) := fun z hz => (HG4.out.2 z hz).imp id (fun h => Nat.le_trans HKD.out.size h)
 have HK0 : Hid (Keeps (b :: G) w w4) := (HKD.out.mono (by simp)).trans HK4.out (fun z hz => .inl (by simp [hz]))
 have HBG1 : Hid (b ∉ G') := fun hx => by
  rcases HN4.out b hx with h1 | h1
  · exact HBG.out.1 h1
  · have h2 := HBB.out.lt
    omega
 clear HG4 HK4
 have m7 : w4.cell? ⟨b,7,none⟩ = some (.int .i64 7) := (HB4.out.cell 7).trans rfl
 have fm7 := HB4.out.frozen 7
 have m12 : w4.cell? ⟨b,12,none⟩ = some (.int .i64 e0) := (HB4.out.cell 12).trans rfl
 have fm12 := HB4.out.frozen 12
 by_cases he : e0 = 9
 ·
  subst he
  go_wp2_with fail
  go_ret
  have hkf : Keeps [b] w4 (w4.setCell ⟨b,7,none⟩ (.int .i64 8)) := ((Keeps.refl [b] w4).setCell (.inl (by simp)) _)
  have hp9 := HP4.out.away hkf (fun z hz => by simp at hz; subst hz; exact ⟨HBG.out.2,HBG1.out,fun t ht => by rw [HB4.out.tyOf] at ht; injection ht with ht; subst ht; decide⟩)
  have hb9 := (HB4.out.set_ 7 (.int .i64 8))
  exact ⟨rfl,G',hp9,hb9,HK0.out.trans hkf (fun z hz => .inl (by simp at hz; simp [hz])),HN4.out⟩
 ·
  have e1 : (e0 == 9) = false := by simpa using he
  have HE := Lib.hid he
  clear he
  go_wp2_with fail
  go_ret
  have hkf : Keeps [b] w4 (w4.setCell ⟨b,7,none⟩ (.int .i64 8)) := ((Keeps.refl [b] w4).setCell (.inl (by simp)) _)
  have hp9 := HP4.out.away hkf (fun z hz => by simp at hz; subst hz; exact ⟨HBG.out.2,HBG1.out,fun t ht => by rw [HB4.out.tyOf] at ht; injection ht with ht; subst ht; decide⟩)
  have hb9 := (HB4.out.set_ 7 (.int .i64 8))
  exact ⟨by first | rfl | rw [if_neg HE.out],G',hp9,hb9,HK0.out.trans hkf (fun z hz => .inl (by simp at hz; simp [hz])),HN4.out⟩
set_option maxRecDepth 100000 in
set_option maxHeartbeats 4000000 in
theorem give_walk (h : RP w0 w y G S) (hf : Fit k S) (hk : k ≤ 1099511627776) (hb : Blk w b 167 #[PT y.p,PT jb,.int .i64 sl,.int .i64 ge,.int .i64 th,.int .i64 st,wv,.int .i64 6,.int .i64 nu,lp,dp,.int .i64 at_,.int .i64 e0,.bool won]) (hbG : b ∉ G) (hb0 : w0.heap.size ≤ b) :
 Calls Tryz.prog 18 #[PT b] w fun e w' => e = .returned (.int .i64 1) ∧ CW w0 w w' y G b #[PT y.p,PT jb,.int .i64 sl,.int .i64 ge,.int .i64 th,.int .i64 st,wv,.int .i64 8,.int .i64 nu,lp,dp,.int .i64 at_,.int .i64 e0,.bool true] (S.give th).2 := by
 have HBB := Lib.hid hb
 have HB := Lib.hid hb
 have HP := Lib.hid h
 have HBG := Lib.hid (And.intro hbG hb0)
 have HKD : Hid (Keeps [] w w) := Keeps.refl [] w
 obtain ⟨er,her⟩ : ∃ u,(S.give th).1 = u := ⟨_,rfl⟩
 obtain ⟨S1,hS1⟩ : ∃ u,(S.give th).2 = u := ⟨_,rfl⟩
 have QC0 : Hid (∀ w',RP w0 w' y G S → Calls Tryz.prog 77 #[PT y.g,.int .i64 th] w' fun e w'' => e = .returned (.int .i64 er) ∧ RWent w0 w' w'' y G S1) := fun w' hx => by
  have h5 := rp_give hx hf hk th
  rw [her,hS1] at h5
  exact h5
 rw [hS1]
 have m7 : w.cell? ⟨b,7,none⟩ = some (.int .i64 6) := (hb.cell 7).trans rfl
 clear h hf hk hb hbG hb0 her hS1
 go_enter Tryz.func18,Tryz.ntmps18
 go_upto_region 18 with fail
 clear m7
 have QP : Hid (∀ w',Keeps [] w w' → Calls Tryz.prog 77 #[PT y.g,.int .i64 th] w' fun e w'' => e = .returned (.int .i64 er) ∧ RWent w0 w' w'' y G S1 ∧ Keeps G w w'') := fun w' hk' => (QC0.out w' (HP.out.calm hk')).mono fun e w'' ⟨he,h2⟩ => ⟨he,h2,by obtain ⟨F',_,h3,_⟩ := h2; exact (hk'.mono (by simp)).trans h3 (fun q hq => .inl hq)⟩
 have HC : Hid (∀ w',Keeps [] w w' → w'.cell? ⟨b,0,none⟩ = some (PT y.p) ∧ w'.cell? ⟨b,4,none⟩ = some (.int .i64 th) ∧ w'.cell? ⟨y.p,8,none⟩ = some (PT y.g)) := fun w' hk => ⟨((HB.out.keeps hk (by simp)).cell 0).trans rfl,((HB.out.keeps hk (by simp)).cell 4).trans rfl,(HP.out.calm hk).cells.2.2.2.2.2.1⟩
 have hkB : Keeps [] w w := Keeps.refl _ _
 go_region_held3 (fun w' => w'.cell? ⟨b,0,none⟩ = some (PT y.p) ∧ w'.cell? ⟨b,4,none⟩ = some (.int .i64 th) ∧ w'.cell? ⟨y.p,8,none⟩ = some (PT y.g)) (first | with_reducible exact HC.out _ Sq.kp | with_reducible exact d5 | go_keep) ((go_at_call 77; (with_reducible refine (QP.out _ Sq.kp).mono ?_); rintro e w4 ⟨rfl,hW,hk4⟩; obtain ⟨G',hG1,hG2,hG3⟩ := id hW; have hb4 := HB.out.keeps hk4 HBG.out.1; have d5 : w4.cell? ⟨b,0,none⟩ = some (PT y.p) ∧ w4.cell? ⟨b,4,none⟩ = some (.int .i64 th) ∧ w4.cell? ⟨y.p,8,none⟩ = some (PT y.g) := ⟨(hb4.cell 0).trans rfl,(hb4.cell 4).trans rfl,hG1.cells.2.2.2.2.2.1⟩; have HB4 := Lib.hid hb4; have HG4 := Lib.hid (And.intro hG1 hG3); have HK4 := Lib.hid hk4; clear hW hG1 hG2 hG3 hb4 hk4))
 clear HC QP hkB QC0
 have HP4 := Lib.hid HG4.out.1
 have HN4 : Hid (∀ z,z ∈ G' → z ∈ G ∨ w.heap.size ≤ z) := fun z hz => (HG4.out.2 z hz).imp id (fun h => Nat.le_trans HKD.out.size h)
 have HK0 : Hid (Keeps (b :: G) w w4) := (HKD.out.mono (by simp)).trans HK4.out (fun z hz => .inl (by simp [hz]))
 have HBG1 : Hid (b ∉ G') := fun hx => by
  rcases HN4.out b hx with h1 | h1
  · exact HBG.out.1 h1
  · have h2 := HBB.out.lt
    omega
 clear HG4 HK4
 have m13 : w4.cell? ⟨b,13,none⟩ = some (.bool won) := (HB4.out.cell 13).trans rfl
 have fm13 := HB4.out.frozen 13
 have m7 : w4.cell? ⟨b,7,none⟩ = some (.int .i64 6) := (HB4.out.cell 7).trans rfl
 have fm7 := HB4.out.frozen 7
 go_wp2_with fail
 go_ret
 have hkf : Keeps [b] w4 ((w4.setCell ⟨b,13,none⟩ (.bool true)).setCell ⟨b,7,none⟩ (.int .i64 8)) := (((Keeps.refl [b] w4).setCell (.inl (by simp)) _).setCell (.inl (by simp)) _)
 have hp9 := HP4.out.away hkf (fun z hz => by simp at hz; subst hz; exact ⟨HBG.out.2,HBG1.out,fun t ht => by rw [HB4.out.tyOf] at ht; injection ht with ht; subst ht; decide⟩)
 have hb9 := ((HB4.out.set_ 13 (.bool true)).set_ 7 (.int .i64 8))
 exact ⟨rfl,G',hp9,hb9,HK0.out.trans hkf (fun z hz => .inl (by simp at hz; simp [hz])),HN4.out⟩
set_option maxRecDepth 100000 in
set_option maxHeartbeats 4000000 in
theorem free_walk (h : RP w0 w y G S) (hf : Fit k S) (hk : k ≤ 1099511627776) (hb : Blk w b 167 #[PT y.p,PT jb,.int .i64 sl,.int .i64 ge,.int .i64 th,.int .i64 st,wv,.int .i64 8,.int .i64 nu,lp,dp,.int .i64 at_,.int .i64 e0,.bool won]) (hbG : b ∉ G) (hb0 : w0.heap.size ≤ b) :
 Calls Tryz.prog 18 #[PT b] w fun e w' => e = .returned (.int .i64 1) ∧ CW w0 w w' y G b #[PT y.p,PT jb,.int .i64 sl,.int .i64 ge,.int .i64 th,.int .i64 st,wv,.int .i64 9,.int .i64 nu,lp,dp,.int .i64 at_,.int .i64 e0,.bool won] (S.free sl ge).2 := by
 have HBB := Lib.hid hb
 have HB := Lib.hid hb
 have HP := Lib.hid h
 have HBG := Lib.hid (And.intro hbG hb0)
 have HKD : Hid (Keeps [] w w) := Keeps.refl [] w
 obtain ⟨er,her⟩ : ∃ u,(S.free sl ge).1 = u := ⟨_,rfl⟩
 obtain ⟨S1,hS1⟩ : ∃ u,(S.free sl ge).2 = u := ⟨_,rfl⟩
 have QC0 : Hid (∀ w',RP w0 w' y G S → Calls Tryz.prog 79 #[PT y.t,.int .i64 sl,.int .i64 ge] w' fun e w'' => e = .returned (.int .i64 er) ∧ RWent w0 w' w'' y G S1) := fun w' hx => by
  have h5 := rp_free hx hf hk sl ge
  rw [her,hS1] at h5
  exact h5
 rw [hS1]
 have m7 : w.cell? ⟨b,7,none⟩ = some (.int .i64 8) := (hb.cell 7).trans rfl
 clear h hf hk hb hbG hb0 her hS1
 go_enter Tryz.func18,Tryz.ntmps18
 go_upto_region 24 with fail
 clear m7
 have QP : Hid (∀ w',Keeps [] w w' → Calls Tryz.prog 79 #[PT y.t,.int .i64 sl,.int .i64 ge] w' fun e w'' => e = .returned (.int .i64 er) ∧ RWent w0 w' w'' y G S1 ∧ Keeps G w w'') := fun w' hk' => (QC0.out w' (HP.out.calm hk')).mono fun e w'' ⟨he,h2⟩ => ⟨he,h2,by obtain ⟨F',_,h3,_⟩ := h2; exact (hk'.mono (by simp)).trans h3 (fun q hq => .inl hq)⟩
 have HC : Hid (∀ w',Keeps [] w w' → w'.cell? ⟨b,0,none⟩ = some (PT y.p) ∧ w'.cell? ⟨b,2,none⟩ = some (.int .i64 sl) ∧ w'.cell? ⟨b,3,none⟩ = some (.int .i64 ge) ∧ w'.cell? ⟨y.p,9,none⟩ = some (PT y.t)) := fun w' hk => ⟨((HB.out.keeps hk (by simp)).cell 0).trans rfl,((HB.out.keeps hk (by simp)).cell 2).trans rfl,((HB.out.keeps hk (by simp)).cell 3).trans rfl,(HP.out.calm hk).cells.2.2.2.2.2.2⟩
 have hkB : Keeps [] w w := Keeps.refl _ _
 go_region_held3 (fun w' => w'.cell? ⟨b,0,none⟩ = some (PT y.p) ∧ w'.cell? ⟨b,2,none⟩ = some (.int .i64 sl) ∧ w'.cell? ⟨b,3,none⟩ = some (.int .i64 ge) ∧ w'.cell? ⟨y.p,9,none⟩ = some (PT y.t)) (first | with_reducible exact HC.out _ Sq.kp | with_reducible exact d5 | go_keep) ((go_at_call 79; (with_reducible refine (QP.out _ Sq.kp).mono ?_); rintro e w4 ⟨rfl,hW,hk4⟩; obtain ⟨G',hG1,hG2,hG3⟩ := id hW; have hb4 := HB.out.keeps hk4 HBG.out.1; have d5 : w4.cell? ⟨b,0,none⟩ = some (PT y.p) ∧ w4.cell? ⟨b,2,none⟩ = some (.int .i64 sl) ∧ w4.cell? ⟨b,3,none⟩ = some (.int .i64 ge) ∧ w4.cell? ⟨y.p,9,none⟩ = some (PT y.t) := ⟨(hb4.cell 0).trans rfl,(hb4.cell 2).trans rfl,(hb4.cell 3).trans rfl,hG1.cells.2.2.2.2.2.2⟩; have HB4 := Lib.hid hb4; have HG4 := Lib.hid (And.intro hG1 hG3); have HK4 := Lib.hid hk4; clear hW hG1 hG2 hG3 hb4 hk4))
 clear HC QP hkB QC0
 have HP4 := Lib.hid HG4.out.1
 have HN4 : Hid (∀ z,z ∈ G' → z ∈ G ∨ w.heap.size ≤ z) := fun z hz => (HG4.out.2 z hz).imp id (fun h => Nat.le_trans HKD.out.size h)
 have HK0 : Hid (Keeps (b :: G) w w4) := (HKD.out.mono (by simp)).trans HK4.out (fun z hz => .inl (by simp [hz]))
 have HBG1 : Hid (b ∉ G') := fun hx => by
  rcases HN4.out b hx with h1 | h1
  · exact HBG.out.1 h1
  · have h2 := HBB.out.lt
    omega
 clear HG4 HK4
 have m7 : w4.cell? ⟨b,7,none⟩ = some (.int .i64 8) := (HB4.out.cell 7).trans rfl
 have fm7 := HB4.out.frozen 7
 go_wp2_with fail
 go_ret
 have hkf : Keeps [b] w4 (w4.setCell ⟨b,7,none⟩ (.int .i64 9)) := ((Keeps.refl [b] w4).setCell (.inl (by simp)) _)
 have hp9 := HP4.out.away hkf (fun z hz => by simp at hz; subst hz; exact ⟨HBG.out.2,HBG1.out,fun t ht => by rw [HB4.out.tyOf] at ht; injection ht with ht; subst ht; decide⟩)
 have hb9 := (HB4.out.set_ 7 (.int .i64 9))
 exact ⟨rfl,G',hp9,hb9,HK0.out.trans hkf (fun z hz => .inl (by simp at hz; simp [hz])),HN4.out⟩
theorem pr_at : ∀ (ws : List Pr) (i : Nat) (p : Pr),ws[i]? = some p → (prCells ws)[i * 2]? = some (.int .i64 p.cell) ∧ (prCells ws)[i * 2 + 1]? = some (.int .i64 p.x)
 | [],i,p,h => by simp at h
 | a :: l,0,p,h => by simp at h; subst h; exact ⟨rfl,rfl⟩
 | a :: l,i + 1,p,h => by
   simp at h
   have h2 := pr_at l i p h
   have e : (i + 1) * 2 = i * 2 + 2 := by omega
   rw [e]
   exact h2
theorem pr_cells {w : World} {g c m i : Nat} {ws : List Pr} {p : Pr} (h : w.ownsRow 0 81 2 (.slice (some ⟨g,0,none⟩) m c) m (prCells ws)) (hp : ws[i]? = some p) : w.cell? ⟨g,i * 2,none⟩ = some (.int .i64 p.cell) ∧ w.cell? ⟨g,i * 2 + 1,none⟩ = some (.int .i64 p.x) := by
 obtain ⟨h0,h1⟩ := pr_at ws i p hp
 exact ⟨cell_own h rfl _ _ h0,cell_own h rfl _ _ h1⟩
set_option maxRecDepth 100000 in
set_option maxHeartbeats 4000000 in
theorem write_walk {ws : List Pr} {m i g c : Nat} (h : RP w0 w y G S) (hf : Fit k S) (hk : k ≤ 1099511627776) (hb : Blk w b 167 #[PT y.p,PT jb,.int .i64 sl,.int .i64 ge,.int .i64 th,.int .i64 st,.slice (some ⟨g,0,none⟩) m c,.int .i64 5,.int .i64 nu,lp,dp,.int .i64 (i : Int),.int .i64 e0,.bool won]) (hbG : b ∉ G) (hb0 : w0.heap.size ≤ b) (hw : w.ownsRow 0 81 2 (.slice (some ⟨g,0,none⟩) m c) m (prCells ws)) (hwG : g ∉ G) (p : Pr) (hp : ws[i]? = some p) (him : i < m) (hm16 : m ≤ 1048576) :
 Calls Tryz.prog 76 #[PT b] w fun e w' => e = .returned (.tuple #[]) ∧ CW w0 w w' y G b #[PT y.p,PT jb,.int .i64 sl,.int .i64 ge,.int .i64 th,.int .i64 st,.slice (some ⟨g,0,none⟩) m c,.int .i64 (if i + 1 = m then 6 else 5),.int .i64 nu,lp,dp,.int .i64 ((i : Int) + 1),.int .i64 e0,.bool won] (S.store p.cell p.x).2 := by
 have HBB := Lib.hid hb
 have HB := Lib.hid hb
 have HP := Lib.hid h
 have HBG := Lib.hid (And.intro hbG hb0)
 have HKD : Hid (Keeps [] w w) := Keeps.refl [] w
 obtain ⟨er,her⟩ : ∃ u,(S.store p.cell p.x).1 = u := ⟨_,rfl⟩
 obtain ⟨S1,hS1⟩ : ∃ u,(S.store p.cell p.x).2 = u := ⟨_,rfl⟩
 have QC0 : Hid (∀ w',RP w0 w' y G S → Calls Tryz.prog 81 #[PT y.r,.int .i64 p.cell,.int .i64 p.x] w' fun e w'' => e = .returned (.int .i64 er) ∧ RWent w0 w' w'' y G S1) := fun w' hx => by
  have h5 := rp_store hx hf hk p.cell p.x
  rw [her,hS1] at h5
  exact h5
 rw [hS1]
 have HW := Lib.hid (And.intro hw (And.intro hwG hp))
 have i0 : (0 : Int) ≤ (i : Int) := by omega
 have i1 : (i : Int) < (m : Int) := by omega
 obtain ⟨_,A',c',ec,hcc,hcm,_⟩ := SlR.of_own hw
 obtain ⟨-,-,rfl⟩ := Value.slice.inj ec
 have hwr : IntKind.i64.wrap ((i : Int) + 1) = (i : Int) + 1 := by rw [IntKind.wrap_i64]; omega
 clear h hf hk hb hbG hb0 her hS1 hw hwG hp ec
 go_enter Tryz.func76,Tryz.ntmps76
 go_upto_region 0 with fail
 have QP : Hid (∀ w',Keeps [] w w' → Calls Tryz.prog 81 #[PT y.r,.int .i64 p.cell,.int .i64 p.x] w' fun e w'' => e = .returned (.int .i64 er) ∧ RWent w0 w' w'' y G S1 ∧ Keeps G w w'') := fun w' hk' => (QC0.out w' (HP.out.calm hk')).mono fun e w'' ⟨he,h2⟩ => ⟨he,h2,by obtain ⟨F',_,h3,_⟩ := h2; exact (hk'.mono (by simp)).trans h3 (fun q hq => .inl hq)⟩
 have HC : Hid (∀ w',Keeps [] w w' → w'.cell? ⟨b,0,none⟩ = some (PT y.p) ∧ w'.cell? ⟨b,6,none⟩ = some (.slice (some ⟨g,0,none⟩) m c) ∧ w'.cell? ⟨b,11,none⟩ = some (.int .i64 (i : Int)) ∧ w'.cell? ⟨y.p,7,none⟩ = some (PT y.r) ∧ w'.cell? ⟨g,i * 2,none⟩ = some (.int .i64 p.cell) ∧ w'.cell? ⟨g,i * 2 + 1,none⟩ = some (.int .i64 p.x)) := fun w' hk => ⟨((HB.out.keeps hk (by simp)).cell 0).trans rfl,((HB.out.keeps hk (by simp)).cell 6).trans rfl,((HB.out.keeps hk (by simp)).cell 11).trans rfl,(HP.out.calm hk).cells.2.2.2.2.1,(pr_cells (own_keeps HW.out.1 hk (by simp)) HW.out.2.2).1,(pr_cells (own_keeps HW.out.1 hk (by simp)) HW.out.2.2).2⟩
 have hkB : Keeps [] w w := Keeps.refl _ _
 go_region_held3 (fun w' => w'.cell? ⟨b,0,none⟩ = some (PT y.p) ∧ w'.cell? ⟨b,6,none⟩ = some (.slice (some ⟨g,0,none⟩) m c) ∧ w'.cell? ⟨b,11,none⟩ = some (.int .i64 (i : Int)) ∧ w'.cell? ⟨y.p,7,none⟩ = some (PT y.r) ∧ w'.cell? ⟨g,i * 2,none⟩ = some (.int .i64 p.cell) ∧ w'.cell? ⟨g,i * 2 + 1,none⟩ = some (.int .i64 p.x)) (first | with_reducible exact HC.out _ Sq.kp | with_reducible exact d5 | go_keep) ((go_at_call 81; (with_reducible refine (QP.out _ Sq.kp).mono ?_); rintro e w4 ⟨rfl,hW,hk4⟩; obtain ⟨G',hG1,hG2,hG3⟩ := id hW; have hb4 := HB.out.keeps hk4 HBG.out.1; have d5 : w4.cell? ⟨b,0,none⟩ = some (PT y.p) ∧ w4.cell? ⟨b,6,none⟩ = some (.slice (some ⟨g,0,none⟩) m c) ∧ w4.cell? ⟨b,11,none⟩ = some (.int .i64 (i : Int)) ∧ w4.cell? ⟨y.p,7,none⟩ = some (PT y.r) ∧ w4.cell? ⟨g,i * 2,none⟩ = some (.int .i64 p.cell) ∧ w4.cell? ⟨g,i * 2 + 1,none⟩ = some (.int .i64 p.x) := ⟨(hb4.cell 0).trans rfl,(hb4.cell 6).trans rfl,(hb4.cell 11).trans rfl,hG1.cells.2.2.2.2.1,(pr_cells (own_keeps HW.out.1 hk4 (fun q hq => by simp [Value.ownBlock] at hq; subst hq; exact HW.out.2.1)) HW.out.2.2).1,(pr_cells (own_keeps HW.out.1 hk4 (fun q hq => by simp [Value.ownBlock] at hq; subst hq; exact HW.out.2.1)) HW.out.2.2).2⟩; have HB4 := Lib.hid hb4; have HG4 := Lib.hid (And.intro hG1 hG3); have HK4 := Lib.hid hk4; clear hW hG1 hG2 hG3 hb4 hk4))
 clear HC QP hkB QC0
 have HP4 := Lib.hid HG4.out.1
 have HN4 : Hid (∀ z,z ∈ G' → z ∈ G ∨ w.heap.size ≤ z) := fun z hz => (HG4.out.2 z hz).imp id (fun h => Nat.le_trans HKD.out.size h)
 have HK0 : Hid (Keeps (b :: G) w w4) := (HKD.out.mono (by simp)).trans HK4.out (fun z hz => .inl (by simp [hz]))
 have HBG1 : Hid (b ∉ G') := fun hx => by
  rcases HN4.out b hx with h1 | h1
  · exact HBG.out.1 h1
  · have h2 := HBB.out.lt
    omega
 clear HG4 HK4
 have m7 : w4.cell? ⟨b,7,none⟩ = some (.int .i64 5) := (HB4.out.cell 7).trans rfl
 have fm7 := HB4.out.frozen 7
 have m11 : w4.cell? ⟨b,11,none⟩ = some (.int .i64 (i : Int)) := (HB4.out.cell 11).trans rfl
 have fm11 := HB4.out.frozen 11
 have m6 : w4.cell? ⟨b,6,none⟩ = some (.slice (some ⟨g,0,none⟩) m c) := (HB4.out.cell 6).trans rfl
 have fm6 := HB4.out.frozen 6
 go_upto_region 2 with fail
 have HB5 : Hid (Blk (w4.setCell ⟨b,11,none⟩ (.int .i64 ((i : Int) + 1))) b 167 #[PT y.p,PT jb,.int .i64 sl,.int .i64 ge,.int .i64 th,.int .i64 st,.slice (some ⟨g,0,none⟩) m c,.int .i64 5,.int .i64 nu,lp,dp,.int .i64 ((i : Int) + 1),.int .i64 e0,.bool won]) := HB4.out.set_ 11 (.int .i64 ((i : Int) + 1))
 obtain ⟨w5,hw5⟩ : ∃ w5,w4.setCell ⟨b,11,none⟩ (.int .i64 ((i : Int) + 1)) = w5 := ⟨_,rfl⟩
 have hk5 : Keeps [b] w4 w5 := hw5 ▸ (Keeps.refl [b] w4).setCell (.inl (by simp)) _
 rw [hw5] at HB5
 try rw [hw5]
 have HK5 := Lib.hid hk5
 clear hk5 hw5 m7 m11 m6 fm7 fm11 fm6
 have m7 : w5.cell? ⟨b,7,none⟩ = some (.int .i64 5) := (HB5.out.cell 7).trans rfl
 have fm7 := HB5.out.frozen 7
 have m11 : w5.cell? ⟨b,11,none⟩ = some (.int .i64 ((i : Int) + 1)) := (HB5.out.cell 11).trans rfl
 have fm11 := HB5.out.frozen 11
 have m6 : w5.cell? ⟨b,6,none⟩ = some (.slice (some ⟨g,0,none⟩) m c) := (HB5.out.cell 6).trans rfl
 have fm6 := HB5.out.frozen 6
 have hp5 := HP4.out.away HK5.out (fun z hz => by simp at hz; subst hz; exact ⟨HBG.out.2,HBG1.out,fun t ht => by rw [HB4.out.tyOf] at ht; injection ht with ht; subst ht; decide⟩)
 have HP5 := Lib.hid hp5
 have HK05 := Lib.hid (HK0.out.trans HK5.out (fun z hz => .inl (by simp at hz; simp [hz])))
 clear hp5
 by_cases he : i + 1 = m
 ·
  have e1 : ((i : Int) + 1 == (m : Int)) = true := by simp; omega
  have HE := Lib.hid he
  clear he
  go_quiet (fail)
  go_wp2_with fail
  go_end0
  have hkf : ∀ q,Keeps [b] w5 ((w5.drewN q).setCell ⟨b,7,none⟩ (.int .i64 6)) := fun q => ((Keeps.refl [b] w5).drewN q).setCell (.inl (by simp)) _
  have hp9 := fun q => HP5.out.away (hkf q) (fun z hz => by simp at hz; subst hz; exact ⟨HBG.out.2,HBG1.out,fun t ht => by rw [HB5.out.tyOf] at ht; injection ht with ht; subst ht; decide⟩)
  have hb9 := fun q => (HB5.out.drewN q).set_ 7 (.int .i64 6)
  have hk9 := fun q => HK05.out.trans (hkf q) (fun z hz => .inl (by simp at hz; simp [hz]))
  refine ⟨rfl,G',hp9 _,?_,hk9 _,HN4.out⟩
  first | exact hb9 _ | (rw [if_pos HE.out]; exact hb9 _)
 ·
  have e1 : ((i : Int) + 1 == (m : Int)) = false := by simp; omega
  have HE := Lib.hid he
  clear he
  go_quiet (fail)
  go_wp2_with fail
  go_end0
  refine ⟨rfl,G',HP5.out.calm ((Keeps.refl [] w5).drewN _),?_,HK05.out.drewN _,HN4.out⟩
  first | exact HB5.out.drewN _ | (rw [if_neg HE.out]; exact HB5.out.drewN _)
end
end Cd
end Go.Proofs.YtmlnedilbneekaaGreat