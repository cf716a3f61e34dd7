/- Layer 12: the document's dooming: Done, Step. -/
import Derived.Test.YtmlnedilbneekaaGreatLdB
import Derived.Test.YtmlnedilbneekaaGreatLookE
import Derived.Test.YtmlnedilbneekaaGreatRegT
import Derived.Test.YtmlnedilbneekaaGreatMake
set_option linter.unusedVariables false
set_option linter.unusedSimpArgs false
namespace Go.Proofs.YtmlnedilbneekaaGreat
open Go.RowKit
namespace Ld
def Vs (w : World) (A : Option Addr) (L : List Vc) : Prop := 0 < L.length → ∃ q off,A = some ⟨q,off,none⟩ ∧ ∀ i u,(vcCells L)[i]? = some u → w.cell? ⟨q,off + i,none⟩ = some u
structure DAt (w : World) (y : Rb) (b : Nat) (x : Dm) (A : Option Addr) (c : Nat) (L : List Vc) (dv : Value) : Prop where
 ex : ∃ a : Nat,a ≤ L.length ∧ x.left = L.drop a ∧ Blk w b 142 #[PT y.p,.int .i64 x.who,.slice A L.length c,.int .i64 (a : Int),dv]
 own : w.ownsRow 0 113 4 dv x.doomed.length (vcCells x.doomed)
 lst : Vs w A L
 cap : L.length ≤ c ∧ c ≤ maxLen
section
variable {w0 w w' : World} {y : Rb} {G X : List Nat} {S : Sp} {n b k c : Nat} {x : Dm} {A : Option Addr} {L : List Vc} {dv : Value}
theorem Vs.lt (h : Vs w A L) (hL : 0 < L.length) {q off : Nat} (hA : A = some ⟨q,off,none⟩) : q < w.heap.size := by
 obtain ⟨q',off',e,hc⟩ := h hL
 rw [hA] at e
 injection e with e
 injection e with e1 e2
 subst e1 e2
 cases hx : L with
 | nil => rw [hx] at hL; simp at hL
 | cons v l =>
   have := hc 0 (.int .i64 v.slot) (by rw [hx]; rfl)
   exact World.block_lt_of_cell? w _ this
theorem Vs.keeps (h : Vs w A L) (hk : Keeps X w w') (hX : 0 < L.length → ∀ q off,A = some ⟨q,off,none⟩ → q ∉ X) : Vs w' A L := fun hL => by
 obtain ⟨q,off,e,hc⟩ := h hL
 have hlt := h.lt hL e
 exact ⟨q,off,e,fun i u hu => (World.cell?_of_block (hk.block q hlt (hX hL q off e))).trans (hc i u hu)⟩
theorem DAt.keeps (h : DAt w y b x A c L dv) (hk : Keeps X w w') (h1 : b ∉ X) (h2 : ∀ q,q ∈ vblk dv → q ∉ X) (h3 : 0 < L.length → ∀ q off,A = some ⟨q,off,none⟩ → q ∉ X) : DAt w' y b x A c L dv := by
 obtain ⟨⟨a,ha,hl,hb⟩,ho,hv,hc⟩ := h
 exact ⟨⟨a,ha,hl,hb.keeps hk h1⟩,own_keeps ho hk (fun q hq => h2 q (by simp [vblk,hq])),hv.keeps hk h3,hc⟩
theorem DAt.calm (h : DAt w y b x A c L dv) (hk : Keeps [] w w') : DAt w' y b x A c L dv := h.keeps hk (by simp) (by simp) (by simp)
theorem DAt.ty (h : DAt w y b x A c L dv) : tyOf w b = some 142 := by
 obtain ⟨⟨a,ha,hl,hb⟩,ho,hv⟩ := h
 exact hb.tyOf
theorem At.ty {x : Lk} {vv : Value} (h : At w y n b x vv) : tyOf w b = some 135 := by
 obtain ⟨⟨own,at_,wn,p0,p1,hj,hb⟩,ho⟩ := h
 exact hb.tyOf
end
end Ld
open Go.RowKit
namespace Ld
def DWent (w0 w w' : World) (y : Rb) (G : List Nat) (b : Nat) (A : Option Addr) (c : Nat) (L : List Vc) (dv : Value) (D : List Vc) (S' : Sp) (x' : Dm) : Prop :=
 ∃ G' dv',RP w0 w' y G' S' ∧ DAt w' y b x' A c L dv' ∧ Keeps (b :: (vblk dv ++ G)) w w' ∧ (∀ z,z ∈ G' → z ∈ G ∨ w.heap.size ≤ z) ∧ (∀ q,q ∈ vblk dv' → q ∈ vblk dv ∨ w.heap.size ≤ q ∧ q ∉ G') ∧ Olds w' dv D
section
variable {w0 w w' : World} {y : Rb} {G X : List Nat} {S : Sp} {n b k c : Nat} {x : Dm} {A : Option Addr} {L : List Vc} {dv : Value}
theorem ddone (h : DAt w y b x A c L dv) : Calls Tryz.prog 55 #[PT b] w fun e w' => e = .returned (.bool x.left.isEmpty) ∧ Keeps [] w w' := by
 obtain ⟨⟨a,ha,hl,hb⟩,ho,hv,hc⟩ := h
 have c2 : w.cell? ⟨b,2,none⟩ = some (.slice A L.length c) := (hb.cell 2).trans rfl
 have c3 : w.cell? ⟨b,3,none⟩ = some (.int .i64 (a : Int)) := (hb.cell 3).trans rfl
 have he : x.left.isEmpty = decide ((L.length : Int) ≤ (a : Int)) := by
  rw [hl]
  by_cases h1 : L.length ≤ a
  · rw [List.drop_eq_nil_of_le h1]; simp; omega
  · have h2 : (L.drop a).length ≠ 0 := by rw [List.length_drop]; omega
    cases hx : L.drop a with
    | nil => rw [hx] at h2; exact absurd rfl h2
    | cons _ _ => simp; omega
 rw [he]
 generalize L.length = n at *
 clear hb ho hv hl he
 go_enter Tryz.func55,Tryz.ntmps55
 go_wp2_with fail
 go_quiet (fail)
 go_wp2_with fail
 go_ret
 exact ⟨by simp,(Keeps.refl [] w).drewN _⟩
set_option maxRecDepth 100000 in
set_option maxHeartbeats 4000000 in
theorem doom_step_cons (h : RP w0 w y G S) (hf : Fit k S) (hk : k ≤ 1099511627776) (hd : DAt w y b x A c L dv) (hb0 : w0.heap.size ≤ b) (hbG : b ∉ G) (hv : ∀ q,q ∈ vblk dv → w0.heap.size ≤ q ∧ q ∉ G) (hA : 0 < L.length → ∀ q off,A = some ⟨q,off,none⟩ → q ∉ G ∧ q ≠ b ∧ q ∉ vblk dv) (hll : x.doomed.length ≤ 1099511627776) {v : Vc} {l : List Vc} (ht : x.left = v :: l) :
 Calls Tryz.prog 51 #[PT b] w fun e w' => e = .returned (.int .i64 1) ∧ DWent w0 w w' y G b A c L dv x.doomed (S.doom v.slot v.gen x.who).2 (if (S.doom v.slot v.gen x.who).1 = 0 then ⟨x.who,l,x.doomed ++ [v]⟩ else ⟨x.who,l,x.doomed⟩) := by
 have hD := ddone hd
 rw [show x.left.isEmpty = false from by rw [ht]; rfl] at hD
 obtain ⟨⟨a,ha,hl,hb⟩,ho,hvs,hc⟩ := hd
 have hal : a < L.length := by
  rcases Nat.lt_or_ge a L.length with h1 | h1
  · exact h1
  · rw [ht,List.drop_eq_nil_of_le h1] at hl; cases hl
 have hLa : L[a]? = some v := by
  have : (L.drop a)[0]? = some v := by rw [← hl,ht]; rfl
  rwa [List.getElem?_drop,Nat.add_zero] at this
 have hdl : L.drop (a + 1) = l := by
  have : (L.drop a).drop 1 = l := by rw [← hl,ht]; rfl
  rwa [List.drop_drop] at this
 obtain ⟨q,off,rfl,hcell⟩ := hvs (by omega)
 obtain ⟨hqG,hqb,hqv⟩ := hA (by omega) q off rfl
 have hqlt : q < w.heap.size := hvs.lt (by omega) rfl
 obtain ⟨v0,v1,v2,v3⟩ := vc_at L a v hLa
 have HV : Hid (∀ w',Keeps [] w w' → w'.cell? ⟨q,off + a * 4,none⟩ = some (.int .i64 v.slot) ∧ w'.cell? ⟨q,off + a * 4 + 1,none⟩ = some (.int .i64 v.gen) ∧ w'.cell? ⟨q,off + a * 4 + 2,none⟩ = some (.int .i64 v.stamp) ∧ w'.cell? ⟨q,off + a * 4 + 3,none⟩ = some (.int .i64 v.thread)) := fun w' hk => by
  have e : ∀ o,w'.cell? ⟨q,o,none⟩ = w.cell? ⟨q,o,none⟩ := fun o => World.cell?_of_block (hk.block q hqlt (by simp))
  exact ⟨(e _).trans (hcell _ _ v0),(e _).trans (by rw [Nat.add_assoc]; exact hcell _ _ v1),(e _).trans (by rw [Nat.add_assoc]; exact hcell _ _ v2),(e _).trans (by rw [Nat.add_assoc]; exact hcell _ _ v3)⟩
 have HD := Lib.hid hD
 have HR := Lib.hid h
 have HBB := Lib.hid hb
 have HO := Lib.hid (And.intro ho (And.intro hv hll))
 have HVS := Lib.hid hvs
 have HQ := Lib.hid (And.intro hqG (And.intro hqb hqv))
 have HC0 := Lib.hid hc
 have HDL := Lib.hid (And.intro hdl hal)
 obtain ⟨er,her⟩ : ∃ u,(S.doom v.slot v.gen x.who).1 = u := ⟨_,rfl⟩
 obtain ⟨S',hS'⟩ : ∃ u,(S.doom v.slot v.gen x.who).2 = u := ⟨_,rfl⟩
 have QD5 : Hid (∀ w',RP w0 w' y G S → Calls Tryz.prog 89 #[PT y.t,.int .i64 v.slot,.int .i64 v.gen,.int .i64 x.who] w' fun e w'' => e = .returned (.int .i64 er) ∧ RWent w0 w' w'' y G S') := fun w' hx => by
  have := rp_doom hx hf hk v.slot v.gen x.who
  rw [her,hS'] at this
  exact this
 rw [her,hS']
 have HBG := Lib.hid (And.intro hbG hb0)
 obtain ⟨m,hm⟩ : ∃ m,L.length = m := ⟨_,rfl⟩
 have HM := Lib.hid hm
 rw [hm] at hal hb HBB
 have q0 : (0 : Int) ≤ (a : Int) := by omega
 have q1 : (a : Int) < (m : Int) := by omega
 have hcm : m ≤ c := by rw [← hm]; exact hc.1
 have hw : IntKind.i64.wrap ((a : Int) + 1) = (a : Int) + 1 := by have := hc.1; have := hc.2; unfold maxLen at this; rw [IntKind.wrap_i64]; omega
 clear h hf hk hb hb0 hbG hv hA hll ht hl hLa hdl hvs hcell hqG hqb hqv v0 v1 v2 v3 hD ho hc her hS' hm ha
 go_enter Tryz.func51,Tryz.ntmps51
 go_wp2_with fail
 refine HD.out.mono ?_
 rintro e wd ⟨rfl,hkd⟩
 have hbd := HBB.out.keeps hkd (by simp)
 have c2 : wd.cell? ⟨b,2,none⟩ = some (.slice (some ⟨q,off,none⟩) m c) := (hbd.cell 2).trans rfl
 have c3 : wd.cell? ⟨b,3,none⟩ = some (.int .i64 (a : Int)) := (hbd.cell 3).trans rfl
 obtain ⟨t0,t1,t2,t3⟩ := HV.out wd hkd
 have hbl := hbd.lt
 have hql : q < wd.heap.size := Nat.lt_of_lt_of_le hqlt hkd.size
 have HB := Lib.hid hbd
 have HKD := Lib.hid hkd
 clear hbd hkd
 go_upto_region 3 with fail
 have HS3 : Hid (∀ w',Keeps [] wd w' → w'.cell? ⟨b,2,none⟩ = some (.slice (some ⟨q,off,none⟩) m c) ∧ w'.cell? ⟨b,3,none⟩ = some (.int .i64 (a : Int)) ∧ w'.cell? ⟨q,off + a * 4,none⟩ = some (.int .i64 v.slot) ∧ w'.cell? ⟨q,off + a * 4 + 1,none⟩ = some (.int .i64 v.gen) ∧ w'.cell? ⟨q,off + a * 4 + 2,none⟩ = some (.int .i64 v.stamp) ∧ w'.cell? ⟨q,off + a * 4 + 3,none⟩ = some (.int .i64 v.thread)) := fun w' hk => ⟨((HB.out.keeps hk (by simp)).cell 2).trans rfl,((HB.out.keeps hk (by simp)).cell 3).trans rfl,HV.out w' (HKD.out.trans hk (by simp))⟩
 refine wp_region_noPanic ?_
 refine wp_region_L 11 (fun w' => w'.cell? ⟨b,2,none⟩ = some (.slice (some ⟨q,off,none⟩) m c) ∧ w'.cell? ⟨b,3,none⟩ = some (.int .i64 (a : Int)) ∧ w'.cell? ⟨q,off + a * 4,none⟩ = some (.int .i64 v.slot) ∧ w'.cell? ⟨q,off + a * 4 + 1,none⟩ = some (.int .i64 v.gen) ∧ w'.cell? ⟨q,off + a * 4 + 2,none⟩ = some (.int .i64 v.stamp) ∧ w'.cell? ⟨q,off + a * 4 + 3,none⟩ = some (.int .i64 v.thread)) (by kernel_rfl) ?_
 have hHeld := (HS3.out _ (Keeps.refl [] wd).drew)
 refine Sq.kT (i := 0) (v := ?rv0) rfl ?ry0 hHeld ?rr0
 case ry0 => (intro w' hSw; (try dsimp only at hSw); go_simp; first | done | with_reducible rfl)
 try simp only [Act.put,Sq.t,Sq.z,Sq.s]
 refine Sq.kT (i := 1) (v := ?rv1) rfl ?ry1 hHeld ?rr1
 case ry1 => (intro w' hSw; (try dsimp only at hSw); go_simp; first | done | with_reducible rfl)
 try simp only [Act.put,Sq.t,Sq.z,Sq.s]
 refine Sq.kT (i := 2) (v := ?rv2) rfl ?ry2 hHeld ?rr2
 case ry2 => (intro w' hSw; (try dsimp only at hSw); go_simp; first | done | with_reducible rfl)
 try simp only [Act.put,Sq.t,Sq.z,Sq.s]
 refine Sq.kT (i := 3) (v := ?rv3) rfl ?ry3 hHeld ?rr3
 case ry3 => (intro w' hSw; (try dsimp only at hSw); go_simp; first | done | with_reducible rfl)
 try simp only [Act.put,Sq.t,Sq.z,Sq.s]
 refine Sq.kT (i := 4) (v := ?rv4) rfl ?ry4 hHeld ?rr4
 case ry4 => (intro w' hSw; (try dsimp only at hSw); go_simp; first | done | with_reducible rfl)
 try simp only [Act.put,Sq.t,Sq.z,Sq.s]
 refine Sq.kT (i := 5) (v := ?rv5) rfl ?ry5 hHeld ?rr5
 case ry5 => (intro w' hSw; (try dsimp only at hSw); go_simp; first | done | with_reducible rfl)
 try simp only [Act.put,Sq.t,Sq.z,Sq.s]
 refine Sq.kT (i := 6) (v := ?rv6) rfl ?ry6 hHeld ?rr6
 case ry6 => (intro w' hSw; (try dsimp only at hSw); go_simp; first | done | with_reducible rfl)
 try simp only [Act.put,Sq.t,Sq.z,Sq.s]
 refine Sq.kT (i := 7) (v := ?rv7) rfl ?ry7 hHeld ?rr7
 case ry7 => (intro w' hSw; (try dsimp only at hSw); go_simp; first | done | with_reducible rfl)
 try simp only [Act.put,Sq.t,Sq.z,Sq.s]
 refine Sq.kT (i := 8) (v := ?rv8) rfl ?ry8 hHeld ?rr8
 case ry8 => (intro w' hSw; (try dsimp only at hSw); go_simp; first | done | with_reducible rfl)
 try simp only [Act.put,Sq.t,Sq.z,Sq.s]
 refine Sq.kT (i := 9) (v := ?rv9) rfl ?ry9 hHeld ?rr9
 case ry9 => (intro w' hSw; (try dsimp only at hSw); go_simp; first | done | with_reducible rfl)
 try simp only [Act.put,Sq.t,Sq.z,Sq.s]
 refine Sq.oT (i := 10) rfl fun K hK => ?_
 go_simp
 refine hK.out _ _ (fun _ => HS3.out _ ((Keeps.refl [] wd).drew.alloc _)) ?_
 clear hK K
 try simp only [Act.put,Sq.t,Sq.z,Sq.s]
 refine Sq.oT (i := 11) rfl fun K hK => ?_
 go_simp
 refine hK.out _ _ (fun h => absurd h (by decide)) ?_
 clear hK K
 try simp only [Act.put,Sq.t,Sq.z,Sq.s]
 refine wpAnyL_done (by kernel_rfl) ?_ _
 refine NoPanic.normal ?_
 have hbp := Blk.new wd 113 #[.int .i64 v.slot,.int .i64 v.gen,.int .i64 v.stamp,.int .i64 v.thread]
 have hka : Keeps [] wd (wd.alloc (.cells #[.int .i64 v.slot,.int .i64 v.gen,.int .i64 v.stamp,.int .i64 v.thread] 113)).drew := ((Keeps.refl [] wd).alloc _).drew
 obtain ⟨p,hp⟩ : ∃ p,wd.heap.size = p := ⟨_,rfl⟩
 rw [hp] at hbp
 rw [hp]
 obtain ⟨w3,hw3⟩ : ∃ w3,(wd.alloc (.cells #[.int .i64 v.slot,.int .i64 v.gen,.int .i64 v.stamp,.int .i64 v.thread] 113)).drew = w3 := ⟨_,rfl⟩
 have hbp3 : Blk w3 p 113 #[.int .i64 v.slot,.int .i64 v.gen,.int .i64 v.stamp,.int .i64 v.thread] := hw3 ▸ hbp.drew
 rw [hw3] at hka
 rw [hw3]
 have HBP := Lib.hid hbp3
 have HKA := Lib.hid hka
 have hb3 := HB.out.keeps hka (by simp)
 have HB3 := Lib.hid hb3
 have HPP := Lib.hid hp
 have c3 : w3.cell? ⟨b,3,none⟩ = some (.int .i64 (a : Int)) := (hb3.cell 3).trans rfl
 have f3 := hb3.frozen 3
 clear hbp hka hw3 hbp3 hHeld t0 t1 t2 t3 c2 hbl hql hb3 hp HS3
 go_upto_region 5 with fail
 obtain ⟨w5,hw5⟩ : ∃ w5,w5 = w3.setCell ⟨b,3,none⟩ (.int .i64 ((a : Int) + 1)) := ⟨_,rfl⟩
 rw [← hw5]
 have hkf : Keeps [b] w3 w5 := by rw [hw5]; exact (Keeps.refl [b] w3).setCell (.inl (by simp)) _
 have HB5 : Hid (Blk w5 b 142 #[PT y.p,.int .i64 x.who,.slice (some ⟨q,off,none⟩) m c,.int .i64 ((a : Int) + 1),dv]) := by rw [hw5]; exact HB3.out.set_ 3 (.int .i64 ((a : Int) + 1))
 have hpb : p ≠ b := fun e => by have h1 := HBB.out.lt; have h2 := HKD.out.size; have h3 := HPP.out; omega
 have HBP5 : Hid (Blk w5 p 113 #[.int .i64 v.slot,.int .i64 v.gen,.int .i64 v.stamp,.int .i64 v.thread]) := HBP.out.keeps hkf (by simp; exact hpb)
 have HK5 : Hid (Keeps [b] w w5) := ((HKD.out.trans HKA.out (by simp)).mono (T := [b]) (by simp)).trans hkf (fun z hz => .inl hz)
 have HP5 := Lib.hid (HR.out.away HK5.out (fun z hz => by simp at hz; subst hz; exact ⟨HBG.out.2,HBG.out.1,fun t ht => by rw [HBB.out.tyOf] at ht; injection ht with ht; subst ht; decide⟩))
 clear hw5 hkf c3 f3 HB3
 have QP : Hid (∀ w',Keeps [] w5 w' → Calls Tryz.prog 89 #[PT y.t,.int .i64 v.slot,.int .i64 v.gen,.int .i64 x.who] w' fun e w'' => e = .returned (.int .i64 er) ∧ RWent w0 w' w'' y G S' ∧ Keeps G w5 w'') := fun w' hk' => (QD5.out w' (HP5.out.calm hk')).mono fun e w'' ⟨he,h2⟩ => ⟨he,h2,by obtain ⟨F',_,h3,_⟩ := h2; exact (hk'.mono (by simp)).trans h3 (fun q hq => .inl hq)⟩
 have hpG : p ∉ G := fun hg => by have h1 := HR.out.lt p hg; have h2 := HKD.out.size; have h3 := HPP.out; omega
 have HPG := Lib.hid hpG
 have HC := Lib.hid (show ∀ w',Keeps [] w5 w' → w'.cell? ⟨b,0,none⟩ = some (PT y.p) ∧ w'.cell? ⟨y.p,9,none⟩ = some (PT y.t) ∧ w'.cell? ⟨b,1,none⟩ = some (.int .i64 x.who) ∧ w'.cell? ⟨p,0,none⟩ = some (.int .i64 v.slot) ∧ w'.cell? ⟨p,1,none⟩ = some (.int .i64 v.gen) from fun w' hk => ⟨((HB5.out.keeps hk (by simp)).cell 0).trans rfl,(HP5.out.calm hk).cells.2.2.2.2.2.2,((HB5.out.keeps hk (by simp)).cell 1).trans rfl,((HBP5.out.keeps hk (by simp)).cell 0).trans rfl,((HBP5.out.keeps hk (by simp)).cell 1).trans rfl⟩)
 have hkB : Keeps [] w5 w5 := Keeps.refl _ _
 clear hpb hpG QD5
 go_region_held3 (fun w' => w'.cell? ⟨b,0,none⟩ = some (PT y.p) ∧ w'.cell? ⟨y.p,9,none⟩ = some (PT y.t) ∧ w'.cell? ⟨b,1,none⟩ = some (.int .i64 x.who) ∧ w'.cell? ⟨p,0,none⟩ = some (.int .i64 v.slot) ∧ w'.cell? ⟨p,1,none⟩ = some (.int .i64 v.gen)) (first | with_reducible exact HC.out _ Sq.kp | with_reducible exact d5 | go_keep) ((go_at_call 89; (with_reducible refine (QP.out _ Sq.kp).mono ?_); rintro e w6 ⟨rfl,hW,hk6⟩; obtain ⟨G',hG1,hG2,hG3⟩ := id hW; have hb6 := HB5.out.keeps hk6 HBG.out.1; have hp6 := HBP5.out.keeps hk6 HPG.out; have d5 : w6.cell? ⟨b,0,none⟩ = some (PT y.p) ∧ w6.cell? ⟨y.p,9,none⟩ = some (PT y.t) ∧ w6.cell? ⟨b,1,none⟩ = some (.int .i64 x.who) ∧ w6.cell? ⟨p,0,none⟩ = some (.int .i64 v.slot) ∧ w6.cell? ⟨p,1,none⟩ = some (.int .i64 v.gen) := ⟨(hb6.cell 0).trans rfl,hG1.cells.2.2.2.2.2.2,(hb6.cell 1).trans rfl,(hp6.cell 0).trans rfl,(hp6.cell 1).trans rfl⟩; have HB6 := Lib.hid hb6; have HP6 := Lib.hid hp6; have HG6 := Lib.hid (And.intro hG1 hG3); have HK6 := Lib.hid hk6; clear hW hG1 hG2 hG3 hb6 hp6 hk6))
 have hxx : x.doomed.length ≤ 1099511627776 := HO.out.2.2
 have HOX := Lib.hid (own_keeps HO.out.1 HK5.out (fun u hu hx => by simp at hx; subst hx; exact own_blk_ne HO.out.1 HBB.out (by decide) hu))
 have hvlt : ∀ u,u ∈ vblk dv → u < w.heap.size := fun u hu => tyOf_lt (own_in HO.out.1 u hu)
 have HVB : Hid (∀ u,u ∈ vblk dv → u ≠ b) := fun u hu e => by
  subst e
  have h1 := own_in HO.out.1 u hu
  rw [HBB.out.tyOf] at h1
  injection h1 with h1
  exact absurd h1 (by decide)
 have HO6 := Lib.hid (own_keeps HOX.out HK6.out (fun u hu hx => (HO.out.2.1 u (by simp [vblk,hu])).2 hx))
 have HKG : Hid (Keeps (b :: G) w w6) := (HK5.out.mono (T := b :: G) (fun z hz => .inl (by simp at hz; simp [hz]))).trans HK6.out (fun z hz => .inl (by simp [hz]))
 have HNG : Hid (∀ z,z ∈ G' → z ∈ G ∨ w.heap.size ≤ z) := fun z hz => (HG6.out.2 z hz).imp id (fun h => Nat.le_trans HK5.out.size h)
 have HQ6 : Hid (Vs w6 (some ⟨q,off,none⟩) L) := HVS.out.keeps HKG.out (fun _ q1 off1 e hx => by
  injection e with e
  injection e with e1 e2
  subst e1 e2
  simp only [List.mem_cons] at hx
  exact hx.elim HQ.out.2.1 HQ.out.1)
 clear HC QP hkB
 by_cases he : er = 0
 ·
  subst he
  obtain ⟨j0,hj,hy0,hy1,hy2⟩ := info_parts Tryz.infoVc
  have hmx : Hid (x.doomed.length + 1 ≤ maxLen) := by unfold Hid maxLen; omega
  have hby : Hid ((x.doomed.length + 1) * 32 ≤ 140737488355328) := by unfold Hid; omega
  have hpl := HP6.out.lt
  have hbl := HB6.out.lt
  clear d5
  go_upto_region 7 with fail
  refine wp_region_noPanic ?_
  refine wp_region_L 10 (fun w' => w'.cell? ⟨b,4,none⟩ = some dv ∧ w'.cell? ⟨p,0,none⟩ = some (.int .i64 v.slot) ∧ w'.cell? ⟨p,1,none⟩ = some (.int .i64 v.gen) ∧ w'.cell? ⟨p,2,none⟩ = some (.int .i64 v.stamp) ∧ w'.cell? ⟨p,3,none⟩ = some (.int .i64 v.thread)) (by kernel_rfl) ?_
  have hHeld := (show _ ∧ _ ∧ _ ∧ _ ∧ _ from ⟨(HB6.out.drew.cell 4).trans rfl,(HP6.out.drew.cell 0).trans rfl,(HP6.out.drew.cell 1).trans rfl,(HP6.out.drew.cell 2).trans rfl,(HP6.out.drew.cell 3).trans rfl⟩)
  refine Sq.kT (i := 0) (v := ?rvz0) rfl ?ryz0 hHeld ?rrz0
  case ryz0 => (intro w' hSw; (try dsimp only at hSw); go_simp; first | done | with_reducible rfl)
  try simp only [Act.put,Sq.t,Sq.z,Sq.s]
  refine Sq.kT (i := 1) (v := ?rvz1) rfl ?ryz1 hHeld ?rrz1
  case ryz1 => (intro w' hSw; (try dsimp only at hSw); go_simp; first | done | with_reducible rfl)
  try simp only [Act.put,Sq.t,Sq.z,Sq.s]
  refine Sq.kT (i := 2) (v := ?rvz2) rfl ?ryz2 hHeld ?rrz2
  case ryz2 => (intro w' hSw; (try dsimp only at hSw); go_simp; first | done | with_reducible rfl)
  try simp only [Act.put,Sq.t,Sq.z,Sq.s]
  refine Sq.kT (i := 3) (v := ?rvz3) rfl ?ryz3 hHeld ?rrz3
  case ryz3 => (intro w' hSw; (try dsimp only at hSw); go_simp; first | done | with_reducible rfl)
  try simp only [Act.put,Sq.t,Sq.z,Sq.s]
  refine Sq.kT (i := 4) (v := ?rvz4) rfl ?ryz4 hHeld ?rrz4
  case ryz4 => (intro w' hSw; (try dsimp only at hSw); go_simp; first | done | with_reducible rfl)
  try simp only [Act.put,Sq.t,Sq.z,Sq.s]
  refine Sq.kT (i := 5) (v := ?rvz5) rfl ?ryz5 hHeld ?rrz5
  case ryz5 => (intro w' hSw; (try dsimp only at hSw); go_simp; first | done | with_reducible rfl)
  try simp only [Act.put,Sq.t,Sq.z,Sq.s]
  refine Sq.oT (i := 6) rfl fun K hK => ?_
  go_simp
  refine hK.out _ _ (fun _ => ⟨((Blk.alloc HB6.out.drew _).cell 4).trans rfl,((Blk.alloc HP6.out.drew _).cell 0).trans rfl,((Blk.alloc HP6.out.drew _).cell 1).trans rfl,((Blk.alloc HP6.out.drew _).cell 2).trans rfl,((Blk.alloc HP6.out.drew _).cell 3).trans rfl⟩) ?_
  clear hK K
  try simp only [Act.put,Sq.t,Sq.z,Sq.s]
  refine Sq.oT (i := 7) rfl fun K hK => ?_
  refine step_append_kept _ rfl (.tmp 47) (.tmp 49) 48 rfl 0 113 j0 _ 4 32 Tryz.underlying48 hj hy0 hy1 hy2 rfl (by decide) dv x.doomed.length (vcCells x.doomed) rfl (own_keeps HO6.out ((Keeps.refl [] w6).drew.alloc _) (by simp)) ⟨w6.heap.size,0,none⟩ 1 1 v.cells rfl rfl (by exact World.news_of_block (new_at _ _ _ (by simp))) (by simp [Vc.cells,Value.oneCell']) (by decide) hmx.out hby.out (Nat.zero_le _) ?_
  intro q1 c1 w9 hown1 hat1
  have hb9 := ((HB6.out.drew).alloc _).grown (grown_of_kept hat1) (fun e => own_blk_ne HO6.out HB6.out (by decide) e.symm)
  have hp9 := ((HP6.out.drew).alloc _).grown (grown_of_kept hat1) (fun e => by have h1 := own_lt HO.out.1 e.symm; have h2 := HPP.out; have h3 := HKD.out.size; omega)
  have f4 := hb9.frozen 4
  have n4 : w9.cell? ⟨b,4,none⟩ = some dv := (hb9.cell 4).trans rfl
  have hH9 : _ ∧ _ ∧ _ ∧ _ ∧ _ := ⟨(hb9.cell 4).trans rfl,(hp9.cell 0).trans rfl,(hp9.cell 1).trans rfl,(hp9.cell 2).trans rfl,(hp9.cell 3).trans rfl⟩
  have HP9 := Lib.hid (And.intro hb9 (And.intro hown1 hat1))
  refine hK.out _ _ (fun _ => hH9) ?_
  clear hK K hb9 hown1 hat1 hp9
  try simp only [Act.put,Sq.t,Sq.z,Sq.s]
  replace hHeld := hH9
  refine Sq.oT (i := 8) rfl fun K hK => ?_
  go_simp
  refine hK.out _ _ (fun _ => hH9) ?_
  clear hK K
  try simp only [Act.put,Sq.t,Sq.z,Sq.s]
  refine Sq.oT (i := 9) rfl fun K hK => ?_
  go_simp
  refine hK.out _ _ (fun _ => hH9) ?_
  clear hK K
  try simp only [Act.put,Sq.t,Sq.z,Sq.s]
  refine Sq.oT (i := 10) rfl fun K hK => ?_
  go_simp
  refine hK.out _ _ (fun h => absurd h (by decide)) ?_
  clear hK K
  try simp only [Act.put,Sq.t,Sq.z,Sq.s]
  refine wpAnyL_done (by kernel_rfl) ?_ _
  refine NoPanic.normal ?_
  go_wp2_with fail
  go_ret
  have HB9 := HP9.out.1
  have hk9 : Keeps (vblk dv) w6 w9 := ((((Keeps.refl [] w6).drew).alloc _).mono (by simp)).grown (grown_of_kept HP9.out.2.2) (fun u hu => .inl (by simp [vblk,hu]))
  have hkz : Keeps [b] w9 (w9.setCell ⟨b,4,none⟩ (.slice (some ⟨q1,0,none⟩) (x.doomed.length + 1) c1)) := (Keeps.refl [b] w9).setCell (.inl (by simp)) _
  have hkA : Keeps (b :: vblk dv) w6 (w9.setCell ⟨b,4,none⟩ (.slice (some ⟨q1,0,none⟩) (x.doomed.length + 1) c1)) := (hk9.mono (fun z hz => .inl (by simp [hz]))).trans hkz (fun z hz => .inl (by simp at hz; simp [hz]))
  have hvG : ∀ u,u ∈ vblk dv → u ∉ G' := fun u hu hg => by
   rcases HNG.out u hg with h1 | h1
   · exact (HO.out.2.1 u hu).2 h1
   · have := hvlt u hu; omega
  have hbG' : b ∉ G' := fun hg => by
   rcases HNG.out b hg with h1 | h1
   · exact HBG.out.1 h1
   · have := HBB.out.lt; omega
  have hq1b : q1 ≠ b := fun e => by
   have h1 := own_in HP9.out.2.1 q1 (by simp [vblk,Value.ownBlock])
   rw [e,HB9.tyOf] at h1
   injection h1 with h1
   exact absurd h1 (by decide)
  have hp9 := HG6.out.1.away hkA (fun z hz => by
   rcases List.mem_cons.1 hz with h1 | h1
   · subst h1; exact ⟨HBG.out.2,hbG',fun t ht => by rw [HB6.out.tyOf] at ht; injection ht with ht; subst ht; decide⟩
   · exact ⟨(HO.out.2.1 z h1).1,hvG z h1,fun t ht => by rw [own_in HO6.out z h1] at ht; injection ht with ht; subst ht; decide⟩)
  have ho9 := own_keeps HP9.out.2.1 hkz (fun u hu hx => by simp [Value.ownBlock] at hu; simp at hx; exact hq1b (hu.trans hx))
  have hold : Olds (w9.setCell ⟨b,4,none⟩ (.slice (some ⟨q1,0,none⟩) (x.doomed.length + 1) c1)) dv x.doomed := by
   rcases HP9.out.2.2 with ⟨h1,_⟩ | ⟨_,h1⟩
   · exact Olds.of ho9 (by rw [h1]; rfl) (fun i u hu => by rw [List.getElem?_append_left (by exact (List.getElem?_eq_some_iff.1 hu).1)]; exact hu)
   · have hkn : Keeps [] w6 w9 := ((Keeps.refl [] w6).drew.alloc _).grown h1 (by simp)
     exact Olds.own (own_keeps HO6.out ((hkn.mono (T := [b]) (by simp)).trans hkz (fun z hz => .inl hz)) (fun u hu hx => by
      simp at hx
      exact HVB.out u (by simp [vblk,hu]) hx))
  have hvs : Vs (w9.setCell ⟨b,4,none⟩ (.slice (some ⟨q1,0,none⟩) (x.doomed.length + 1) c1)) (some ⟨q,off,none⟩) L := HQ6.out.keeps hkA (fun _ q1 off1 e hx => by
   injection e with e
   injection e with e1 e2
   subst e1 e2
   simp only [List.mem_cons] at hx
   exact hx.elim HQ.out.2.1 HQ.out.2.2)
  refine ⟨rfl,G',.slice (some ⟨q1,0,none⟩) (x.doomed.length + 1) c1,hp9,?_,(HKG.out.mono (fun z hz => .inl (by simp at hz ⊢; rcases hz with h1 | h1 <;> simp [h1]))).trans hkA (fun z hz => .inl (by simp at hz ⊢; rcases hz with h1 | h1 <;> simp [h1])),HNG.out,fun u hu => ?_,hold⟩
  · have hb9 := HB9.set_ 4 (.slice (some ⟨q1,0,none⟩) (x.doomed.length + 1) c1)
    refine ⟨⟨a + 1,HDL.out.2,HDL.out.1.symm,?_⟩,?_,hvs,HC0.out⟩
    · rw [HM.out]; simpa using hb9
    · rw [vcCells_snoc,List.length_append]
      exact ho9
  · simp [vblk,Value.ownBlock] at hu
    subst hu
    rcases HP9.out.2.2 with ⟨h1,_⟩ | ⟨h1,_⟩
    · exact .inl (by simp [vblk,h1])
    · have h2 : w6.heap.size ≤ u := by rw [h1]; simp
      exact .inr ⟨Nat.le_trans HKG.out.size h2,fun hg => by have := HG6.out.1.lt u hg; omega⟩
 ·
  have e0 : (er == 0) = false := by simpa using he
  have HE := Lib.hid he
  clear he
  go_wp2_with fail
  go_ret
  refine ⟨rfl,G',dv,HG6.out.1,?_,HKG.out.mono (fun z hz => .inl (by simp at hz ⊢; rcases hz with h1 | h1 <;> simp [h1])),HNG.out,fun u hu => .inl hu,Olds.own HO6.out⟩
  exact ⟨⟨a + 1,HDL.out.2,HDL.out.1.symm,by rw [HM.out]; simpa using HB6.out⟩,HO6.out,HQ6.out,HC0.out⟩
theorem doom_step (h : RP w0 w y G S) (hf : Fit k S) (hk : k ≤ 1099511627776) (hd : DAt w y b x A c L dv) (hb0 : w0.heap.size ≤ b) (hbG : b ∉ G) (hv : ∀ q,q ∈ vblk dv → w0.heap.size ≤ q ∧ q ∉ G) (hA : 0 < L.length → ∀ q off,A = some ⟨q,off,none⟩ → q ∉ G ∧ q ≠ b ∧ q ∉ vblk dv) (hll : x.doomed.length ≤ 1099511627776) :
 Calls Tryz.prog 51 #[PT b] w fun e w' => e = .returned (.int .i64 (x.step S).1) ∧ DWent w0 w w' y G b A c L dv x.doomed (x.step S).2.2 (x.step S).2.1 := by
 cases ht : x.left with
 | nil =>
   have e : x.step S = (3,x,S) := by unfold Dm.step; rw [ht]
   rw [e]
   have QD := Lib.hid (ddone hd)
   rw [show x.left.isEmpty = true from by rw [ht]; rfl] at QD
   have HR := Lib.hid h
   have HA := Lib.hid hd
   clear h hd hA ht e
   go_enter Tryz.func51,Tryz.ntmps51
   go_wp2_with fail
   refine QD.out.mono ?_
   rintro e wd ⟨rfl,hk⟩
   have HK := Lib.hid hk
   clear hk
   go_wp2_with fail
   go_ret
   exact ⟨rfl,G,dv,HR.out.calm HK.out,HA.out.calm HK.out,HK.out.mono (by simp),fun z hz => .inl hz,fun q hq => .inl hq,Olds.own (HA.out.calm HK.out).own⟩
 | cons v l =>
   have e : x.step S = (1,if (S.doom v.slot v.gen x.who).1 = 0 then ⟨x.who,l,x.doomed ++ [v]⟩ else ⟨x.who,l,x.doomed⟩,(S.doom v.slot v.gen x.who).2) := by unfold Dm.step; rw [ht]
   rw [e]
   exact doom_step_cons h hf hk hd hb0 hbG hv hA hll ht
end
end Ld
end Go.Proofs.YtmlnedilbneekaaGreat