/- Layer 12: the document's look: a step, whatever it is. -/
import Derived.Test.YtmlnedilbneekaaGreatLdW
import Derived.Test.YtmlnedilbneekaaGreatSigRAsk
import Derived.Test.YtmlnedilbneekaaGreatRegT
import Derived.Test.YtmlnedilbneekaaGreatMake
set_option linter.unusedVariables false
set_option linter.unusedSimpArgs false
namespace Go.Proofs.YtmlnedilbneekaaGreat
open Go.RowKit
namespace Ld
section
variable {w w' w0 wd : World} {y : Rb} {G : List Nat} {S : Sp} {n b k : Nat} {x : Lk} {vv : Value}
set_option maxRecDepth 100000 in
set_option maxHeartbeats 4000000 in
theorem word1_walk {own sl g0 g1 g2 g3 g5 p1 : Int} {p0 v : Nat} {sg : Sg} {g4 : Bool} (h : RP w0 w y G S) (hf : Fit k S) (hk : k ≤ 1099511627776) (hb : Blk w b 135 #[PT y.p,.int .i64 own,.int .u64 (sg.a : Int),.int .u64 (sg.b : Int),.int .i64 sl,.int .i64 1,.int .i64 g0,.int .i64 g1,.int .i64 g2,.int .i64 g3,.bool g4,.int .i64 g5,.int .u64 (p0 : Int),.int .u64 p1,vv]) (hb0 : w0.heap.size ≤ b) (hbG : b ∉ G) (hsl : 0 ≤ sl ∧ sl < 8) {L L' : List Vc} (hl : w.ownsRow 0 113 4 vv L.length (vcCells L)) (hlG : ∀ q,q ∈ vblk vv → w0.heap.size ≤ q ∧ q ∉ G) (hv : (S.word sl 1).1.1 = (v : Int)) (ow : sg.ok) (ov : (⟨p0,v⟩ : Sg).ok) (hL' : L' = if (!((⟨p0,v⟩ : Sg).meet sg).none) = true then L ++ [⟨sl,g0,g2,g3⟩] else L) (hll : L.length ≤ 1099511627776)
 (hd : Calls Tryz.prog 53 #[PT b] w fun e w' => e = .returned (.bool false) ∧ Keeps [] w w') :
 Calls Tryz.prog 50 #[PT b] w fun e w' => e = .returned (.int .i64 1) ∧ ∃ G' vv',RP w0 w' y G' (S.word sl 1).2 ∧ Blk w' b 135 #[PT y.p,.int .i64 own,.int .u64 (sg.a : Int),.int .u64 (sg.b : Int),.int .i64 (nx own sl),.int .i64 (-1),.int .i64 g0,.int .i64 g1,.int .i64 g2,.int .i64 g3,.bool g4,.int .i64 g5,.int .u64 (p0 : Int),.int .u64 (v : Int),vv'] ∧ w'.ownsRow 0 113 4 vv' L'.length (vcCells L') ∧ Keeps (b :: (vblk vv ++ G)) w w' ∧ (∀ z,z ∈ G' → z ∈ G ∨ w.heap.size ≤ z) ∧ (∀ q,q ∈ vblk vv' → q ∈ vblk vv ∨ w.heap.size ≤ q ∧ q ∉ G') ∧ Olds w' vv L := by
 have HD := Lib.hid hd
 have HR := Lib.hid h
 have HBB := Lib.hid hb
 have HL := Lib.hid (And.intro hl (And.intro hlG hll))
 have HLL := Lib.hid hL'
 have HOW := Lib.hid (And.intro ow ov)
 clear hl hlG hll hL' ow ov
 obtain ⟨er,her⟩ : ∃ v,(S.word sl 1).1.2 = v := ⟨_,rfl⟩
 obtain ⟨S',hS'⟩ : ∃ v,(S.word sl 1).2 = v := ⟨_,rfl⟩
 have HLK0 : Hid (∀ w',Keeps [] w w' → Calls Tryz.prog 118 #[PT y.t,.int .i64 sl,.int .i64 1] w' fun e w'' => e = .returned (.tuple #[.int .u64 (v : Int),.int .i64 er]) ∧ RWent w0 w' w'' y G S') := fun w' hk' => (rp_word (h.calm hk') hf hk sl 1).mono fun e w'' ⟨he,h2⟩ => ⟨by rw [he,hv,her],by rw [← hS']; exact h2⟩
 rw [hS']
 have HBG := Lib.hid (And.intro hbG hb0)
 have HSL := Lib.hid hsl
 clear h hf hk hb hb0 hbG hd hv her hS' hsl
 go_enter Tryz.func50,Tryz.ntmps50
 go_wp2_with fail
 refine HD.out.mono ?_
 rintro e wd ⟨rfl,hkd⟩
 have hbd := HBB.out.keeps hkd (by simp)
 have hpd := HR.out.calm hkd
 have c5 : wd.cell? ⟨b,5,none⟩ = some (.int .i64 1) := (hbd.cell 5).trans rfl
 have HC := Lib.hid (show ∀ w',Keeps [] wd w' → w'.cell? ⟨b,0,none⟩ = some (PT y.p) ∧ w'.cell? ⟨y.p,9,none⟩ = some (PT y.t) ∧ w'.cell? ⟨b,4,none⟩ = some (.int .i64 sl) ∧ w'.cell? ⟨b,5,none⟩ = some (.int .i64 1) from fun w' hk => ⟨((hbd.keeps hk (by simp)).cell 0).trans rfl,(hpd.calm hk).cells.2.2.2.2.2.2,((hbd.keeps hk (by simp)).cell 4).trans rfl,((hbd.keeps hk (by simp)).cell 5).trans rfl⟩)
 have QP : Hid (∀ w',Keeps [] wd w' → Calls Tryz.prog 118 #[PT y.t,.int .i64 sl,.int .i64 1] w' fun e w'' => e = .returned (.tuple #[.int .u64 (v : Int),.int .i64 er]) ∧ RWent w0 w' w'' y G S' ∧ Keeps G wd w'') := fun w' hk' => (HLK0.out w' (hkd.trans hk' (by simp))).mono fun e w'' ⟨he,h2⟩ => ⟨he,h2,by obtain ⟨F',_,h3,_⟩ := h2; exact (hk'.mono (by simp)).trans h3 (fun q hq => .inl hq)⟩
 have hkB : Keeps [] wd wd := Keeps.refl _ _
 have HB := Lib.hid (And.intro hbd HBG.out)
 have HKD := Lib.hid hkd
 clear hbd hpd hkd
 go_upto_region 10 with fail
 go_region_held3 (fun w' => w'.cell? ⟨b,0,none⟩ = some (PT y.p) ∧ w'.cell? ⟨y.p,9,none⟩ = some (PT y.t) ∧ w'.cell? ⟨b,4,none⟩ = some (.int .i64 sl) ∧ w'.cell? ⟨b,5,none⟩ = some (.int .i64 1)) (first | with_reducible exact HC.out _ (by first | with_reducible assumption | with_reducible exact Keeps.drew (by with_reducible assumption) | with_reducible exact Keeps.alloc (by with_reducible assumption) _ | with_reducible exact Keeps.drew (Keeps.alloc (by with_reducible assumption) _) | with_reducible exact Keeps.alloc (Keeps.drew (by with_reducible assumption)) _) | with_reducible exact d5 | go_keep) ((go_at_call 118; refine (QP.out _ (by first | with_reducible assumption | with_reducible exact Keeps.drew (by with_reducible assumption) | with_reducible exact Keeps.alloc (by with_reducible assumption) _ | with_reducible exact Keeps.drew (Keeps.alloc (by with_reducible assumption) _) | with_reducible exact Keeps.alloc (Keeps.drew (by with_reducible assumption)) _)).mono ?_; rintro e w4 ⟨rfl,hW,hk4⟩; obtain ⟨G',hG1,hG2,hG3⟩ := id hW; have hb4 := HB.out.1.keeps hk4 HB.out.2.1; have d5 : w4.cell? ⟨b,0,none⟩ = some (PT y.p) ∧ w4.cell? ⟨y.p,9,none⟩ = some (PT y.t) ∧ w4.cell? ⟨b,4,none⟩ = some (.int .i64 sl) ∧ w4.cell? ⟨b,5,none⟩ = some (.int .i64 1) := ⟨(hb4.cell 0).trans rfl,hG1.cells.2.2.2.2.2.2,(hb4.cell 4).trans rfl,(hb4.cell 5).trans rfl⟩; have HB4 := Lib.hid hb4; have HG4 := Lib.hid (And.intro hG1 hG3); have HK4 := Lib.hid hk4; clear hW hG1 hG2 hG3 hb4 hk4))
 go_upto_region 11 with fail
 refine wp_region_tail_q 9 (by kernel_rfl) (by kernel_rfl) ?_
 have m5 : w4.cell? ⟨b,5,none⟩ = some (.int .i64 1) := (HB4.out.cell 5).trans rfl
 simp only [List.take_succ_cons,List.take_zero,List.drop_succ_cons,List.drop_zero]
 repeat (go_big_quiet_step (fail))
 refine wpQuiet_nil ?_
 change wpList _ _ _ _ _ w4.drew
 clear m5
 have hkd4 := (Keeps.refl [] w4).drew
 have HB5 := Lib.hid (HB4.out.keeps hkd4 (by simp))
 have HP5 := Lib.hid (HG4.out.1.calm hkd4)
 have HK5 := Lib.hid (HK4.out.trans hkd4 (by simp))
 have HN5 := Lib.hid HG4.out.2
 have HBG1 : Hid (b ∉ G') := fun hx => by
  rcases HG4.out.2 b hx with h1 | h1
  · exact HB.out.2.1 h1
  · have := HB.out.1.lt
    have h1 : wd.heap.size ≤ b := h1
    omega
 generalize w4.drew = wq at *
 have m5 : wq.cell? ⟨b,5,none⟩ = some (.int .i64 1) := (HB5.out.cell 5).trans rfl
 have m13 : wq.cell? ⟨b,13,none⟩ = some (.int .u64 p1) := (HB5.out.cell 13).trans rfl
 have f5 := HB5.out.frozen 5
 have f13 := HB5.out.frozen 13
 clear HB4 HG4 HK4 hkd4 HC QP
 go_upto_region 14 with fail
 obtain ⟨w7,hw7⟩ : ∃ w7,w7 = (wq.setCell ⟨b,13,none⟩ (.int .u64 (v : Int))).setCell ⟨b,5,none⟩ (.int .i64 2) := ⟨_,rfl⟩
 rw [← hw7]
 have hkf : Keeps [b] wq w7 := by rw [hw7]; exact ((Keeps.refl [b] wq).setCell (.inl (by simp)) _).setCell (.inl (by simp)) _
 have HB7 : Hid (Blk w7 b 135 #[PT y.p,.int .i64 own,.int .u64 (sg.a : Int),.int .u64 (sg.b : Int),.int .i64 sl,.int .i64 2,.int .i64 g0,.int .i64 g1,.int .i64 g2,.int .i64 g3,.bool g4,.int .i64 g5,.int .u64 (p0 : Int),.int .u64 (v : Int),vv]) := by rw [hw7]; exact (HB5.out.set_ 13 (.int .u64 (v : Int))).set_ 5 (.int .i64 2)
 have HP7 := Lib.hid (HP5.out.away hkf (fun z hz => by simp at hz; subst hz; exact ⟨HB.out.2.2,HBG1.out,fun t ht => by rw [HB5.out.tyOf] at ht; injection ht with ht; subst ht; decide⟩))
 have HK7 : Hid (Keeps (b :: G) w w7) := ((HKD.out.mono (by simp)).trans HK5.out (fun z hz => .inl (by simp [hz]))).trans hkf (fun z hz => .inl (by simp at hz; simp [hz]))
 have HN7 : Hid (∀ z,z ∈ G' → z ∈ G ∨ w.heap.size ≤ z) := fun z hz => (HN5.out z hz).imp id (fun h => Nat.le_trans HKD.out.size h)
 clear hw7 hkf m5 m13 f5 f13 HB5 HP5 HK5 HN5
 have HC8 := Lib.hid (show ∀ w',Keeps [] w7 w' → w'.cell? ⟨b,2,none⟩ = some (.int .u64 (sg.a : Int)) ∧ w'.cell? ⟨b,3,none⟩ = some (.int .u64 (sg.b : Int)) ∧ w'.cell? ⟨b,12,none⟩ = some (.int .u64 (p0 : Int)) ∧ w'.cell? ⟨b,13,none⟩ = some (.int .u64 (v : Int)) from fun w' hk => ⟨((HB7.out.keeps hk (by simp)).cell 2).trans rfl,((HB7.out.keeps hk (by simp)).cell 3).trans rfl,((HB7.out.keeps hk (by simp)).cell 12).trans rfl,((HB7.out.keeps hk (by simp)).cell 13).trans rfl⟩)
 obtain ⟨mt,hmt⟩ : ∃ mt,(!((⟨p0,v⟩ : Sg).meet sg).none) = mt := ⟨_,rfl⟩
 have QM : Hid (∀ w',Keeps [] w7 w' → Calls Tryz.prog 119 #[.agg #[.int .u64 (p0 : Int),.int .u64 (v : Int)],.agg #[.int .u64 (sg.a : Int),.int .u64 (sg.b : Int)]] w' fun e w'' => e = .returned (.bool mt) ∧ Keeps [] w7 w'') := fun w' hk' => (rmeets_any w' ⟨p0,v⟩ sg HOW.out.2 HOW.out.1).mono fun e w'' ⟨he,h2⟩ => ⟨by rw [he,hmt],hk'.trans h2 (by simp)⟩
 have HMT := Lib.hid hmt
 have hkC : Keeps [] w7 w7 := Keeps.refl _ _
 clear hmt
 go_region_held3 (fun w' => w'.cell? ⟨b,2,none⟩ = some (.int .u64 (sg.a : Int)) ∧ w'.cell? ⟨b,3,none⟩ = some (.int .u64 (sg.b : Int)) ∧ w'.cell? ⟨b,12,none⟩ = some (.int .u64 (p0 : Int)) ∧ w'.cell? ⟨b,13,none⟩ = some (.int .u64 (v : Int))) (first | with_reducible exact HC8.out _ Sq.kp | go_keep) ((go_at_call 119; refine (QM.out _ Sq.kp).mono ?_; rintro e w8 ⟨rfl,hk8⟩))
 have HB8 := Lib.hid (HB7.out.keeps hk8 (by simp))
 have HP8 := Lib.hid (HP7.out.calm hk8)
 have HK8 := Lib.hid (HK7.out.trans hk8 (by simp))
 have hbV : Hid (∀ q,q ∈ vblk vv → q ≠ b) := fun q hq e => by
  subst e
  have h1 := own_in HL.out.1 q hq
  rw [HBB.out.tyOf] at h1
  injection h1 with h1
  exact absurd h1 (by decide)
 clear hk8 hkC HC8 QM HB7 HP7 HK7
 rcases Bool.eq_false_or_eq_true mt with hm | hm
 ·
  subst hm
  go_upto_region 15 with fail
  have HLX := Lib.hid (own_keeps HL.out.1 HK8.out (fun q hq hx => by
   have hq' : q ∈ vblk vv := by simp [vblk,hq]
   rcases List.mem_cons.1 hx with h1 | h1
   · exact hbV.out q hq' h1
   · exact (HL.out.2.1 q hq').2 h1))
  have hmx : Hid (L.length + 1 ≤ maxLen) := by unfold Hid maxLen; have := HL.out.2.2; omega
  have hby : Hid ((L.length + 1) * 32 ≤ 140737488355328) := by unfold Hid; have := HL.out.2.2; omega
  obtain ⟨i0,hi,hz0,hz1,hz2⟩ := info_parts Tryz.infoVc
  have hbl := HB8.out.lt
  refine wp_region_noPanic ?_
  refine wp_region_L 29 (fun w' => w'.cell? ⟨b,4,none⟩ = some (.int .i64 sl) ∧ w'.cell? ⟨b,6,none⟩ = some (.int .i64 g0) ∧ w'.cell? ⟨b,8,none⟩ = some (.int .i64 g2) ∧ w'.cell? ⟨b,9,none⟩ = some (.int .i64 g3) ∧ w'.cell? ⟨b,14,none⟩ = some vv) (by kernel_rfl) ?_
  have hHeld := (show _ ∧ _ ∧ _ ∧ _ ∧ _ from ⟨(HB8.out.drew.cell 4).trans rfl,(HB8.out.drew.cell 6).trans rfl,(HB8.out.drew.cell 8).trans rfl,(HB8.out.drew.cell 9).trans rfl,(HB8.out.drew.cell 14).trans rfl⟩)
  refine Sq.kT (i := 0) (v := ?rv0) rfl ?ry0 hHeld ?rr0
  case ry0 => (intro w' hSw; (try dsimp only at hSw); go_simp; first | done | with_reducible rfl)
  try simp only [Act.put,Sq.t,Sq.z,Sq.s]
  refine Sq.kT (i := 1) (v := ?rv1) rfl ?ry1 hHeld ?rr1
  case ry1 => (intro w' hSw; (try dsimp only at hSw); go_simp; first | done | with_reducible rfl)
  try simp only [Act.put,Sq.t,Sq.z,Sq.s]
  refine Sq.kT (i := 2) (v := ?rv2) rfl ?ry2 hHeld ?rr2
  case ry2 => (intro w' hSw; (try dsimp only at hSw); go_simp; first | done | with_reducible rfl)
  try simp only [Act.put,Sq.t,Sq.z,Sq.s]
  refine Sq.kT (i := 3) (v := ?rv3) rfl ?ry3 hHeld ?rr3
  case ry3 => (intro w' hSw; (try dsimp only at hSw); go_simp; first | done | with_reducible rfl)
  try simp only [Act.put,Sq.t,Sq.z,Sq.s]
  refine Sq.kT (i := 4) (v := ?rv4) rfl ?ry4 hHeld ?rr4
  case ry4 => (intro w' hSw; (try dsimp only at hSw); go_simp; first | done | with_reducible rfl)
  try simp only [Act.put,Sq.t,Sq.z,Sq.s]
  refine Sq.kT (i := 5) (v := ?rv5) rfl ?ry5 hHeld ?rr5
  case ry5 => (intro w' hSw; (try dsimp only at hSw); go_simp; first | done | with_reducible rfl)
  try simp only [Act.put,Sq.t,Sq.z,Sq.s]
  refine Sq.kT (i := 6) (v := ?rv6) rfl ?ry6 hHeld ?rr6
  case ry6 => (intro w' hSw; (try dsimp only at hSw); go_simp; first | done | with_reducible rfl)
  try simp only [Act.put,Sq.t,Sq.z,Sq.s]
  refine Sq.kT (i := 7) (v := ?rv7) rfl ?ry7 hHeld ?rr7
  case ry7 => (intro w' hSw; (try dsimp only at hSw); go_simp; first | done | with_reducible rfl)
  try simp only [Act.put,Sq.t,Sq.z,Sq.s]
  refine Sq.kT (i := 8) (v := ?rv8) rfl ?ry8 hHeld ?rr8
  case ry8 => (intro w' hSw; (try dsimp only at hSw); go_simp; first | done | with_reducible rfl)
  try simp only [Act.put,Sq.t,Sq.z,Sq.s]
  refine Sq.kT (i := 9) (v := ?rv9) rfl ?ry9 hHeld ?rr9
  case ry9 => (intro w' hSw; (try dsimp only at hSw); go_simp; first | done | with_reducible rfl)
  try simp only [Act.put,Sq.t,Sq.z,Sq.s]
  refine Sq.kT (i := 10) (v := ?rv10) rfl ?ry10 hHeld ?rr10
  case ry10 => (intro w' hSw; (try dsimp only at hSw); go_simp; first | done | with_reducible rfl)
  try simp only [Act.put,Sq.t,Sq.z,Sq.s]
  refine Sq.kT (i := 11) (v := ?rv11) rfl ?ry11 hHeld ?rr11
  case ry11 => (intro w' hSw; (try dsimp only at hSw); go_simp; first | done | with_reducible rfl)
  try simp only [Act.put,Sq.t,Sq.z,Sq.s]
  refine Sq.kT (i := 12) (v := ?rv12) rfl ?ry12 hHeld ?rr12
  case ry12 => (intro w' hSw; (try dsimp only at hSw); go_simp; first | done | with_reducible rfl)
  try simp only [Act.put,Sq.t,Sq.z,Sq.s]
  refine Sq.kT (i := 13) (v := ?rv13) rfl ?ry13 hHeld ?rr13
  case ry13 => (intro w' hSw; (try dsimp only at hSw); go_simp; first | done | with_reducible rfl)
  try simp only [Act.put,Sq.t,Sq.z,Sq.s]
  refine Sq.kT (i := 14) (v := ?rv14) rfl ?ry14 hHeld ?rr14
  case ry14 => (intro w' hSw; (try dsimp only at hSw); go_simp; first | done | with_reducible rfl)
  try simp only [Act.put,Sq.t,Sq.z,Sq.s]
  refine Sq.kT (i := 15) (v := ?rv15) rfl ?ry15 hHeld ?rr15
  case ry15 => (intro w' hSw; (try dsimp only at hSw); go_simp; first | done | with_reducible rfl)
  try simp only [Act.put,Sq.t,Sq.z,Sq.s]
  refine Sq.kT (i := 16) (v := ?rv16) rfl ?ry16 hHeld ?rr16
  case ry16 => (intro w' hSw; (try dsimp only at hSw); go_simp; first | done | with_reducible rfl)
  try simp only [Act.put,Sq.t,Sq.z,Sq.s]
  refine Sq.kT (i := 17) (v := ?rv17) rfl ?ry17 hHeld ?rr17
  case ry17 => (intro w' hSw; (try dsimp only at hSw); go_simp; first | done | with_reducible rfl)
  try simp only [Act.put,Sq.t,Sq.z,Sq.s]
  refine Sq.kT (i := 18) (v := ?rv18) rfl ?ry18 hHeld ?rr18
  case ry18 => (intro w' hSw; (try dsimp only at hSw); go_simp; first | done | with_reducible rfl)
  try simp only [Act.put,Sq.t,Sq.z,Sq.s]
  refine Sq.kT (i := 19) (v := ?rv19) rfl ?ry19 hHeld ?rr19
  case ry19 => (intro w' hSw; (try dsimp only at hSw); go_simp; first | done | with_reducible rfl)
  try simp only [Act.put,Sq.t,Sq.z,Sq.s]
  refine Sq.kT (i := 20) (v := ?rv20) rfl ?ry20 hHeld ?rr20
  case ry20 => (intro w' hSw; (try dsimp only at hSw); go_simp; first | done | with_reducible rfl)
  try simp only [Act.put,Sq.t,Sq.z,Sq.s]
  refine Sq.kT (i := 21) (v := ?rv21) rfl ?ry21 hHeld ?rr21
  case ry21 => (intro w' hSw; (try dsimp only at hSw); go_simp; first | done | with_reducible rfl)
  try simp only [Act.put,Sq.t,Sq.z,Sq.s]
  refine Sq.kT (i := 22) (v := ?rv22) rfl ?ry22 hHeld ?rr22
  case ry22 => (intro w' hSw; (try dsimp only at hSw); go_simp; first | done | with_reducible rfl)
  try simp only [Act.put,Sq.t,Sq.z,Sq.s]
  refine Sq.kT (i := 23) (v := ?rv23) rfl ?ry23 hHeld ?rr23
  case ry23 => (intro w' hSw; (try dsimp only at hSw); go_simp; first | done | with_reducible rfl)
  try simp only [Act.put,Sq.t,Sq.z,Sq.s]
  refine Sq.oT (i := 24) rfl fun K hK => ?_
  go_simp
  refine hK.out _ _ (fun _ => ⟨(HB8.out.drew.cell 4).trans rfl,(HB8.out.drew.cell 6).trans rfl,(HB8.out.drew.cell 8).trans rfl,(HB8.out.drew.cell 9).trans rfl,(HB8.out.drew.cell 14).trans rfl⟩) ?_
  clear hK K
  try simp only [Act.put,Sq.t,Sq.z,Sq.s]
  refine Sq.oT (i := 25) rfl fun K hK => ?_
  go_simp
  refine hK.out _ _ (fun _ => ⟨((Blk.alloc HB8.out.drew _).cell 4).trans rfl,((Blk.alloc HB8.out.drew _).cell 6).trans rfl,((Blk.alloc HB8.out.drew _).cell 8).trans rfl,((Blk.alloc HB8.out.drew _).cell 9).trans rfl,((Blk.alloc HB8.out.drew _).cell 14).trans rfl⟩) ?_
  clear hK K
  try simp only [Act.put,Sq.t,Sq.z,Sq.s]
  refine Sq.oT (i := 26) rfl fun K hK => ?_
  refine step_append_kept _ rfl (.tmp 99) (.tmp 120) 48 rfl 0 113 i0 _ 4 32 Tryz.underlying48 hi hz0 hz1 hz2 rfl (by decide) vv L.length (vcCells L) rfl (own_keeps HLX.out ((Keeps.refl [] w8).drew.alloc _) (by simp)) ⟨w8.heap.size,0,none⟩ 1 1 (Vc.cells ⟨sl,g0,g2,g3⟩) rfl rfl (by exact World.news_of_block (new_at _ _ _ (by simp))) (by simp [Vc.cells,Value.oneCell']) (by decide) hmx.out hby.out (Nat.zero_le _) ?_
  intro q1 c1 w9 hown1 hat1
  have hg1 := grown_of_kept hat1
  have hlt1 : True := trivial
  have hb9 := ((HB8.out.drew).alloc _).grown hg1 (fun e => own_blk_ne HLX.out HB8.out (by decide) e.symm)
  have f14 := hb9.frozen 14
  have n14 : w9.cell? ⟨b,14,none⟩ = some vv := (hb9.cell 14).trans rfl
  have HB9 := Lib.hid hb9
  have HOW9 := Lib.hid hown1
  have HG9 := Lib.hid hg1
  have HAT := Lib.hid (And.intro hat1 hlt1)
  have hH9 : _ ∧ _ ∧ _ ∧ _ ∧ _ := ⟨(hb9.cell 4).trans rfl,(hb9.cell 6).trans rfl,(hb9.cell 8).trans rfl,(hb9.cell 9).trans rfl,(hb9.cell 14).trans rfl⟩
  refine hK.out _ _ (fun _ => hH9) ?_
  clear hK K hb9 hown1 hg1 hat1 hlt1
  try simp only [Act.put,Sq.t,Sq.z,Sq.s]
  replace hHeld := hH9
  refine Sq.oT (i := 27) rfl fun K hK => ?_
  go_simp
  refine hK.out _ _ (fun _ => hH9) ?_
  clear hK K
  try simp only [Act.put,Sq.t,Sq.z,Sq.s]
  refine Sq.oT (i := 28) rfl fun K hK => ?_
  go_simp
  refine hK.out _ _ (fun _ => hH9) ?_
  clear hK K
  try simp only [Act.put,Sq.t,Sq.z,Sq.s]
  refine Sq.oT (i := 29) rfl fun K hK => ?_
  go_simp
  refine hK.out _ _ (fun h => absurd h (by decide)) ?_
  clear hK K
  try simp only [Act.put,Sq.t,Sq.z,Sq.s]
  refine wpAnyL_done (by kernel_rfl) ?_ _
  refine NoPanic.normal ?_
  go_wp2_with fail
  have hbl0 := HBB.out.lt
  have hk9 : Keeps (vblk vv) w8 w9 := ((((Keeps.refl [] w8).drew).alloc _).mono (by simp)).grown HG9.out (fun k hk => .inl (by simp [vblk,hk]))
  have hk10 : Keeps [b] w9 (w9.setCell ⟨b,14,none⟩ (.slice (some ⟨q1,0,none⟩) (L.length + 1) c1)) := (Keeps.refl [b] w9).setCell (.inl (by simp)) _
  have hb10 := HB9.out.set_ 14 (.slice (some ⟨q1,0,none⟩) (L.length + 1) c1)
  have HK9 := Lib.hid hk9
  have HK10 := Lib.hid hk10
  clear hk9 hk10 n14 f14 hbl hH9
  refine (turn_calls (own := own) (a := sl) (u := 2) hb10 rfl rfl rfl (by have := HSL.out; omega) (by have := HSL.out; omega)).mono ?_
  rintro e w11 ⟨rfl,hbz,hkz⟩
  clear hb10
  go_wp2_with fail
  go_ret
  have hkB : Keeps [b] w9 w11 := HK10.out.trans hkz (fun z hz => .inl hz)
  have hkA : Keeps (b :: vblk vv) w8 w11 := (HK9.out.mono (fun z hz => .inl (by simp [hz]))).trans hkB (fun z hz => .inl (by simp at hz; simp [hz]))
  have hvlt : ∀ q,q ∈ vblk vv → q < w.heap.size := fun q hq => tyOf_lt (own_in HL.out.1 q hq)
  have hvG : ∀ q,q ∈ vblk vv → q ∉ G' := fun q hq hg => by
   rcases HN7.out q hg with h1 | h1
   · exact (HL.out.2.1 q hq).2 h1
   · have := hvlt q hq; omega
  have hp11 := HP8.out.away hkA (fun z hz => by
   rcases List.mem_cons.1 hz with h1 | h1
   · subst h1; exact ⟨HB.out.2.2,HBG1.out,fun t ht => by rw [HB8.out.tyOf] at ht; injection ht with ht; subst ht; decide⟩
   · exact ⟨(HL.out.2.1 z h1).1,hvG z h1,fun t ht => by rw [own_in HLX.out z h1] at ht; injection ht with ht; subst ht; decide⟩)
  have hq1b : q1 ≠ b := fun e => by
   have h1 := own_in HOW9.out q1 (by simp [vblk,Value.ownBlock])
   rw [e,HB9.out.tyOf] at h1
   injection h1 with h1
   exact absurd h1 (by decide)
  have ho11 := own_keeps HOW9.out hkB (fun q hq hx => by simp [Value.ownBlock] at hq; simp at hx; exact hq1b (hq.trans hx))
  have hLL := HLL.out
  rw [HMT.out,if_pos rfl] at hLL
  subst hLL
  refine ⟨rfl,G',_,hp11,hbz,?_,(HK8.out.mono (fun z hz => .inl (by simp at hz ⊢; rcases hz with h1 | h1 <;> simp [h1]))).trans hkA (fun z hz => .inl (by simp at hz ⊢; rcases hz with h1 | h1 <;> simp [h1])),HN7.out,fun q hq => ?_,?_⟩
  · rw [vcCells_snoc,List.length_append]
    exact ho11
  · simp [vblk,Value.ownBlock] at hq
    subst hq
    rcases HAT.out.1 with ⟨h1,_⟩ | ⟨h1,_⟩
    · exact .inl (by simp [vblk,h1])
    · have h2 : w8.heap.size ≤ q := by rw [h1]; simp
      exact .inr ⟨Nat.le_trans HK8.out.size h2,fun hg => by have := HP8.out.lt q hg; omega⟩
  · rcases HAT.out.1 with ⟨h1,_⟩ | ⟨_,h1⟩
    · exact Olds.of ho11 (by rw [h1]; rfl) (fun i u hu => by rw [List.getElem?_append_left (by exact (List.getElem?_eq_some_iff.1 hu).1)]; exact hu)
    · have hkn : Keeps [] w8 w9 := ((Keeps.refl [] w8).drew.alloc _).grown h1 (by simp)
      exact Olds.own (own_keeps HLX.out ((hkn.mono (T := [b]) (by simp)).trans hkB (fun z hz => .inl hz)) (fun q hq hx => by
       simp at hx
       exact hbV.out q (by simp [vblk,hq]) hx))
 ·
  subst hm
  go_wp2_with fail
  refine (turn_calls (own := own) (a := sl) (u := 2) HB8.out rfl rfl rfl (by have := HSL.out; omega) (by have := HSL.out; omega)).mono ?_
  rintro e w9 ⟨rfl,hbz,hkz⟩
  go_wp2_with fail
  go_ret
  have hp9 := HP8.out.away hkz (fun z hz => by simp at hz; subst hz; exact ⟨HB.out.2.2,HBG1.out,fun t ht => by rw [HB8.out.tyOf] at ht; injection ht with ht; subst ht; decide⟩)
  have hk9 : Keeps (b :: G) w w9 := HK8.out.trans hkz (fun z hz => .inl (by simp at hz; simp [hz]))
  have hl9 := own_keeps HL.out.1 hk9 (fun q hq hx => by
   have hq' : q ∈ vblk vv := by simp [vblk,hq]
   rcases List.mem_cons.1 hx with h1 | h1
   · exact hbV.out q hq' h1
   · exact (HL.out.2.1 q hq').2 h1)
  have hLL := HLL.out
  rw [HMT.out,if_neg (by decide)] at hLL
  subst hLL
  exact ⟨rfl,G',vv,hp9,hbz,hl9,hk9.mono (fun z hz => .inl (by simp at hz ⊢; rcases hz with h1 | h1 <;> simp [h1])),HN7.out,fun q hq => .inl hq,Olds.own hl9⟩
end
end Ld
open Go.RowKit
namespace Ld
def Went (w0 w w' : World) (y : Rb) (G : List Nat) (n b : Nat) (vv : Value) (L : List Vc) (S' : Sp) (x' : Lk) : Prop :=
 ∃ G' vv',RP w0 w' y G' S' ∧ At w' y n b x' vv' ∧ Keeps (b :: (vblk vv ++ G)) w w' ∧ (∀ z,z ∈ G' → z ∈ G ∨ w.heap.size ≤ z) ∧ (∀ q,q ∈ vblk vv' → q ∈ vblk vv ∨ w.heap.size ≤ q ∧ q ∉ G') ∧ Olds w' vv L
section
variable {w0 w w' : World} {y : Rb} {G : List Nat} {S : Sp} {n b k : Nat} {x : Lk} {vv : Value}
theorem step_idle (h : RP w0 w y G S) (hd : At w y n b x vv) (hn : S.c.slots = (n : Int)) (ht : x.turns = []) :
 Calls Tryz.prog 50 #[PT b] w fun e w' => e = .returned (.int .i64 3) ∧ Went w0 w w' y G n b vv x.victims S x := by
 have QD := Lib.hid (done hd h hn)
 have HR := Lib.hid h
 have HA := Lib.hid hd
 have hx : x.turns.isEmpty = true := by rw [ht]; rfl
 rw [hx] at QD
 clear h hd hn ht hx
 go_enter Tryz.func50,Tryz.ntmps50
 go_wp2_with fail
 refine QD.out.mono ?_
 rintro e wd ⟨rfl,hk⟩
 have HK := Lib.hid hk
 clear hk
 go_wp2_with fail
 go_ret
 exact ⟨rfl,G,vv,HR.out.calm HK.out,HA.out.calm HK.out,HK.out.mono (by simp),fun z hz => .inl hz,fun q hq => .inl hq,Olds.own (HA.out.calm HK.out).own⟩
theorem step_head (h : RP w0 w y G S) (hf : Fit k S) (hk : k ≤ 1099511627776) (hd : At w y n b x vv) (hn : S.c.slots = (n : Int)) (hb0 : w0.heap.size ≤ b) (hbG : b ∉ G) (hv : ∀ q,q ∈ vblk vv → q ∉ G) {t : Int} {l : List Int} (ht : x.turns = t :: l) (hl : x.looked = false) :
 Calls Tryz.prog 50 #[PT b] w fun e w' => e = .returned (.int .i64 (x.step S).1) ∧ Went w0 w w' y G n b vv x.victims (x.step S).2.2 (x.step S).2.1 := by
 have hD := done hd h hn
 have hxe : x.turns.isEmpty = false := by rw [ht]; rfl
 rw [hxe] at hD
 obtain ⟨⟨own,at_,wn,p0,p1,hj,hb⟩,ho⟩ := hd
 have hlt : at_ < n := by
  rcases Nat.lt_or_ge at_ n with h1 | h1
  · exact h1
  · rw [hj.done.2 h1] at ht; cases ht
 have hh := hj.head hlt
 rw [ht] at hh
 injection hh with h1 h2
 subst h1
 have hwn : wn = -1 := by rw [hj.hw,hl]; rfl
 have hVb : ∀ q,q ∈ vblk vv → q ≠ b := fun q hq e => by
  subst e
  have h1 := own_in ho q hq
  rw [hb.tyOf] at h1
  injection h1 with h1
  exact absurd h1 (by decide)
 have hb' := hb
 unfold vals at hb'
 rw [hwn] at hb'
 have n8 := hj.n8
 have hst : x.step S = (1,if (S.look at_).1.1.state ≠ 2 ∨ (S.look at_).1.1.doomed = true then (x.at_ (S.look at_).1.1).turn else x.at_ (S.look at_).1.1,(S.look at_).2) := by
  unfold Lk.step
  rw [ht]
  simp only [hl,if_true]
 rw [hst]
 refine (head_walk h hf hk hb' hb0 hbG ⟨by omega,by omega⟩ hD).mono ?_
 rintro e w' ⟨he,G',hp,hbz,hkz,hnz⟩
 have ho' := own_keeps ho hkz (fun q hq hx => by
  have hq' : q ∈ vblk vv := by simp [vblk,hq]
  rcases List.mem_cons.1 hx with h1 | h1
  · exact hVb q hq' h1
  · exact hv q hq' h1)
 refine ⟨he,G',vv,hp,?_,hkz.mono (fun z hz => .inl (by simp at hz ⊢; rcases hz with h1 | h1 <;> simp [h1])),hnz,fun q hq => .inl hq,Olds.own ho'⟩
 by_cases hc : (S.look at_).1.1.state ≠ 2 ∨ (S.look at_).1.1.doomed = true
 ·
  rw [if_pos hc] at hbz ⊢
  refine ⟨⟨own,nxt own at_,-1,p0,p1,⟨hj.ho,hj.o8,hj.n8,by unfold nxt; split <;> omega,nxt_ne own at_,?_,rfl,by simp [Lk.turn],fun _ => rfl,fun h => by simp [Lk.turn] at h,hj.lt0,hj.lt1⟩,?_⟩,ho'⟩
  · show x.turns.tail = _
    rw [ht]; exact h2
  · rw [hj.ho,nx_nxt] at hbz
    unfold vals
    show Blk w' b 135 #[PT y.p,.int .i64 x.own,_,_,_,_,_,_,_,_,_,_,_,_,_]
    rw [hj.ho]
    exact hbz
 · rw [if_neg hc] at hbz ⊢
   refine ⟨⟨own,at_,0,p0,p1,⟨hj.ho,hj.o8,hj.n8,hj.a9,hj.ne,hj.turns,?_,hj.len,(fun h => by cases h),hj.w0,hj.lt0,hj.lt1⟩,hbz⟩,ho'⟩
   show (0 : Int) = if true then (x.words.length : Int) else -1
   rw [if_pos rfl,hj.nl hl]; rfl
theorem step_word0 (h : RP w0 w y G S) (hf : Fit k S) (hk : k ≤ 1099511627776) (hu : S.wu) (hd : At w y n b x vv) (hn : S.c.slots = (n : Int)) (hb0 : w0.heap.size ≤ b) (hbG : b ∉ G) (hv : ∀ q,q ∈ vblk vv → q ∉ G) {t : Int} {l : List Int} (ht : x.turns = t :: l) (hl : x.looked = true) (hw : x.words = []) :
 Calls Tryz.prog 50 #[PT b] w fun e w' => e = .returned (.int .i64 (x.step S).1) ∧ Went w0 w w' y G n b vv x.victims (x.step S).2.2 (x.step S).2.1 := by
 have hD := done hd h hn
 have hxe : x.turns.isEmpty = false := by rw [ht]; rfl
 rw [hxe] at hD
 obtain ⟨⟨own,at_,wn,p0,p1,hj,hb⟩,ho⟩ := hd
 have hlt : at_ < n := by
  rcases Nat.lt_or_ge at_ n with h1 | h1
  · exact h1
  · rw [hj.done.2 h1] at ht; cases ht
 have hh := hj.head hlt
 rw [ht] at hh
 injection hh with h1 h2
 subst h1
 have hwn : wn = 0 := by rw [hj.hw,hl,hw]; rfl
 have hVb : ∀ q,q ∈ vblk vv → q ≠ b := fun q hq e => by
  subst e
  have h1 := own_in ho q hq
  rw [hb.tyOf] at h1
  injection h1 with h1
  exact absurd h1 (by decide)
 have hb' := hb
 unfold vals at hb'
 rw [hwn] at hb'
 have n8 := hj.n8
 have hst : x.step S = (1,x.word (S.word at_ 0).1.1,(S.word at_ 0).2) := by
  unfold Lk.step
  rw [ht]
  simp [hl,hw]
 rw [hst]
 obtain ⟨v0,v1⟩ := hu.word at_ 0
 refine (word0_walk h hf hk hb' hb0 hbG ⟨by omega,by omega⟩ hD).mono ?_
 rintro e w' ⟨he,G',hp,hbz,hkz,hnz⟩
 have ho' := own_keeps ho hkz (fun q hq hx => by
  have hq' : q ∈ vblk vv := by simp [vblk,hq]
  rcases List.mem_cons.1 hx with h1 | h1
  · exact hVb q hq' h1
  · exact hv q hq' h1)
 refine ⟨he,G',vv,hp,?_,hkz.mono (fun z hz => .inl (by simp at hz ⊢; rcases hz with h1 | h1 <;> simp [h1])),hnz,fun q hq => .inl hq,Olds.own ho'⟩
 obtain ⟨v,hvv⟩ : ∃ v : Nat,(S.word at_ 0).1.1 = v := ⟨(S.word at_ 0).1.1.toNat,by omega⟩
 rw [hvv] at hbz v1 ⊢
 refine ⟨⟨own,at_,1,v,p1,⟨hj.ho,hj.o8,hj.n8,hj.a9,hj.ne,hj.turns,?_,by simp [Lk.word,hw],(fun h => by simp [Lk.word,hl] at h),(fun _ => by simp [Lk.word,hw]),by omega,hj.lt1⟩,hbz⟩,ho'⟩
 simp [Lk.word,hl,hw]
theorem step_word1 (h : RP w0 w y G S) (hf : Fit k S) (hk : k ≤ 1099511627776) (hu : S.wu) (hd : At w y n b x vv) (hn : S.c.slots = (n : Int)) (hb0 : w0.heap.size ≤ b) (hbG : b ∉ G) (hv : ∀ q,q ∈ vblk vv → w0.heap.size ≤ q ∧ q ∉ G) (ow : x.writes.ok) (hll : x.victims.length ≤ 1099511627776) {t : Int} {l : List Int} (ht : x.turns = t :: l) (hl : x.looked = true) (hw : x.words.length = 1) :
 Calls Tryz.prog 50 #[PT b] w fun e w' => e = .returned (.int .i64 (x.step S).1) ∧ Went w0 w w' y G n b vv x.victims (x.step S).2.2 (x.step S).2.1 := by
 have hD := done hd h hn
 have hxe : x.turns.isEmpty = false := by rw [ht]; rfl
 rw [hxe] at hD
 obtain ⟨⟨own,at_,wn,p0,p1,hj,hb⟩,ho⟩ := hd
 have hlt : at_ < n := by
  rcases Nat.lt_or_ge at_ n with h1 | h1
  · exact h1
  · rw [hj.done.2 h1] at ht; cases ht
 have hh := hj.head hlt
 rw [ht] at hh
 injection hh with h1 h2
 subst h1
 have hwn : wn = 1 := by rw [hj.hw,hl,hw]; rfl
 have hws : x.words = [(p0 : Int)] := by
  have h1 := hj.w0 hw
  cases hx : x.words with
  | nil => rw [hx] at hw; cases hw
  | cons a r =>
    rw [hx] at hw h1
    have : r = [] := by cases r with | nil => rfl | cons c d => simp at hw
    subst this
    simp at h1
    rw [h1]
 have hb' := hb
 unfold vals at hb'
 rw [hwn] at hb'
 have n8 := hj.n8
 obtain ⟨v0,v1⟩ := hu.word at_ 1
 obtain ⟨v,hvv⟩ : ∃ v : Nat,(S.word at_ 1).1.1 = v := ⟨(S.word at_ 1).1.1.toNat,by omega⟩
 rw [hvv] at v1
 have hlt1 : v < 18446744073709551616 := by omega
 have hsg : sgOf (x.word (v : Int)).words = ⟨p0,v⟩ := by simp [Lk.word,hws,sgOf]
 have hst : x.step S = (1,if (!((⟨p0,v⟩ : Sg).meet x.writes).none) = true then ((x.word (v : Int)).meets at_).turn else (x.word (v : Int)).turn,(S.word at_ 1).2) := by
  unfold Lk.step
  rw [ht]
  simp only [hl,hw]
  rw [if_neg (by decide),if_neg (by decide),show (((1 : Nat) : Int)) = (1 : Int) from rfl,hvv]
  unfold Lk.met
  rw [hsg]
  rfl
 rw [hst]
 refine (word1_walk (L' := if (!((⟨p0,v⟩ : Sg).meet x.writes).none) = true then x.victims ++ [⟨at_,x.head.gen,x.head.stamp,x.head.thread⟩] else x.victims) h hf hk hb' hb0 hbG ⟨by omega,by omega⟩ ho hv hvv ow ⟨hj.lt0,hlt1⟩ rfl hll hD).mono ?_
 rintro e w' ⟨he,G',vv',hp,hbz,ho',hkz,hnz,hqz,hoz⟩
 refine ⟨he,G',vv',hp,?_,hkz,hnz,hqz,hoz⟩
 have hJ : ∀ z : Lk,z.own = x.own → z.turns = x.turns.tail → z.words = [] → z.looked = false → J n z own (nxt own at_) (-1) p0 v := fun z e1 e2 e3 e4 => ⟨e1.trans hj.ho,hj.o8,hj.n8,by unfold nxt; split <;> omega,nxt_ne own at_,by rw [e2,ht]; exact h2,by rw [e4]; rfl,by rw [e3]; simp,(fun _ => e3),(fun h => by rw [e3] at h; simp at h),hj.lt0,hlt1⟩
 rw [hj.ho,nx_nxt] at hbz
 by_cases hc : (!((⟨p0,v⟩ : Sg).meet x.writes).none) = true
 · rw [if_pos hc] at ho' ⊢
   refine ⟨⟨own,nxt own at_,-1,p0,v,hJ _ rfl rfl rfl rfl,?_⟩,ho'⟩
   show Blk w' b 135 #[PT y.p,.int .i64 x.own,_,_,_,_,_,_,_,_,_,_,_,_,_]
   rw [hj.ho]
   exact hbz
 · rw [if_neg hc] at ho' ⊢
   refine ⟨⟨own,nxt own at_,-1,p0,v,hJ _ rfl rfl rfl rfl,?_⟩,ho'⟩
   show Blk w' b 135 #[PT y.p,.int .i64 x.own,_,_,_,_,_,_,_,_,_,_,_,_,_]
   rw [hj.ho]
   exact hbz
theorem doc_step (h : RP w0 w y G S) (hf : Fit k S) (hk : k ≤ 1099511627776) (hu : S.wu) (hd : At w y n b x vv) (hn : S.c.slots = (n : Int)) (hb0 : w0.heap.size ≤ b) (hbG : b ∉ G) (hv : ∀ q,q ∈ vblk vv → w0.heap.size ≤ q ∧ q ∉ G) (ow : x.writes.ok) (hll : x.victims.length ≤ 1099511627776) :
 Calls Tryz.prog 50 #[PT b] w fun e w' => e = .returned (.int .i64 (x.step S).1) ∧ Went w0 w w' y G n b vv x.victims (x.step S).2.2 (x.step S).2.1 := by
 have hlen : x.words.length ≤ 1 := by
  obtain ⟨⟨own,at_,wn,p0,p1,hj,hb⟩,ho⟩ := hd
  exact hj.len
 cases ht : x.turns with
 | nil =>
   have e : x.step S = (3,x,S) := by unfold Lk.step; rw [ht]
   rw [e]
   exact step_idle h hd hn ht
 | cons t l =>
   cases hl : x.looked with
   | false => exact step_head h hf hk hd hn hb0 hbG (fun q hq => (hv q hq).2) ht hl
   | true =>
     rcases Nat.lt_or_ge x.words.length 1 with h1 | h1
     · exact step_word0 h hf hk hu hd hn hb0 hbG (fun q hq => (hv q hq).2) ht hl (List.eq_nil_of_length_eq_zero (by omega))
     · exact step_word1 h hf hk hu hd hn hb0 hbG hv ow hll ht hl (by omega)
end
end Ld
end Go.Proofs.YtmlnedilbneekaaGreat