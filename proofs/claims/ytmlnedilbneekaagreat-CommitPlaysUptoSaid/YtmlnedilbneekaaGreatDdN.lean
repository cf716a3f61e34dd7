/- Layer 9: the document's judge: Verdict, Decide. -/
import Derived.Test.YtmlnedilbneekaaGreatRpNew
import Derived.Test.YtmlnedilbneekaaGreatPolJ
import Derived.Test.YtmlnedilbneekaaGreatDdS
import Derived.Deep.RegionHeld3
import Derived.Test.YtmlnedilbneekaaGreatLookE
import Derived.Deep.QuietTactic
import Derived.BigQuiet
import Derived.Test.YtmlnedilbneekaaGreatMake
set_option linter.unusedVariables false
set_option linter.unusedSimpArgs false
namespace Go.Proofs.YtmlnedilbneekaaGreat
open Go.RowKit Pol
namespace Rj
def jv (c : Cf) (d : Int) : Array Value := #[.int .i64 c.cells,.int .i64 c.slots,.int .i64 c.bits,.int .i64 c.tag,.int .i64 c.bias,.int .i64 c.defer,.int .i64 d]
def JD (w : World) (b : Nat) (c : Cf) (d : Int) : Prop := Blk w b 66 (jv c d)
section
variable {w w' : World} {A : Option Addr} {vs : List Vc}
set_option maxRecDepth 100000 in
set_option maxHeartbeats 4000000 in
theorem verdict_doc (w : World) (c : Cf) (hc : c.ok) (st d : Int) (hd : 0 ≤ d) (A : Option Addr) (cap : Nat) (vs : List Vc) (hv : Ld.Vs w A vs) (hl : vs.length ≤ 1099511627776) :
 Calls Tryz.prog 152 #[.agg #[.int .i64 c.cells,.int .i64 c.slots,.int .i64 c.bits,.int .i64 c.tag,.int .i64 c.bias,.int .i64 c.defer],.int .i64 st,.int .i64 d,.slice A vs.length cap] w fun e w' => e = .returned (.tuple #[.int .i64 (verdict c st d vs),.int .i64 0]) ∧ Keeps [] w w' := by
 have hk : Keeps [] w (w.alloc (.cells c.vals 23)) := Sq.r.alloc _
 have hb : Blk (w.alloc (.cells c.vals 23)) w.heap.size 23 c.vals := Blk.new _ _ _
 have QC : Hid (∀ w',Calls Tryz.prog 44 #[.agg #[.int .i64 c.cells,.int .i64 c.slots,.int .i64 c.bits,.int .i64 c.tag,.int .i64 c.bias,.int .i64 c.defer]] w' fun e w'' => e = .returned (.int .i64 0) ∧ Keeps [] w' w'') := fun w' => by
  have h := rp_check w' c
  rw [if_pos hc] at h
  exact h
 have HV := Lib.hid hv
 obtain ⟨m,hm⟩ : ∃ m,vs.length = m := ⟨_,rfl⟩
 have HM := Lib.hid hm
 have HE : Hid (verdict c st d vs = if c.tag = 2 then (if (m : Int) > c.bias ∧ d < c.defer then 2 else 1) else if c.tag = 3 then (if vs.any (fun v => decide (v.stamp < st)) = true then 3 else 1) else 1) := by unfold Hid verdict; rw [hm]
 rw [hm] at hl ⊢
 obtain ⟨V,hV⟩ : ∃ V,verdict c st d vs = V := ⟨_,rfl⟩
 rw [hV] at HE ⊢
 have d1 : decide (d < 0) = false := decide_eq_false (by omega)
 have hmi : (m : Int) ≤ 1099511627776 := by omega
 clear hv hm hc hd hV hl
 unfold Cf.vals at hk hb
 go_enter Tryz.func152,Tryz.ntmps152
 go_upto_region 1 with fail
 obtain ⟨wB,hwB⟩ : ∃ q,w.alloc (.cells #[.int .i64 c.cells,.int .i64 c.slots,.int .i64 c.bits,.int .i64 c.tag,.int .i64 c.bias,.int .i64 c.defer] 23) = q := ⟨_,rfl⟩
 obtain ⟨zb,hzb⟩ : ∃ q,w.heap.size = q := ⟨_,rfl⟩
 rw [hwB] at hk hb
 rw [hzb] at hb
 try rw [hwB]
 try rw [hzb]
 clear hwB hzb
 have HB := Lib.hid hb
 have HK := Lib.hid hk
 have c0 : wB.cell? ⟨zb,0,none⟩ = some (.int .i64 c.cells) := (hb.cell 0).trans rfl
 have c1 : wB.cell? ⟨zb,1,none⟩ = some (.int .i64 c.slots) := (hb.cell 1).trans rfl
 have c2 : wB.cell? ⟨zb,2,none⟩ = some (.int .i64 c.bits) := (hb.cell 2).trans rfl
 have c3 : wB.cell? ⟨zb,3,none⟩ = some (.int .i64 c.tag) := (hb.cell 3).trans rfl
 have c4 : wB.cell? ⟨zb,4,none⟩ = some (.int .i64 c.bias) := (hb.cell 4).trans rfl
 have c5 : wB.cell? ⟨zb,5,none⟩ = some (.int .i64 c.defer) := (hb.cell 5).trans rfl
 clear hb hk
 go_wp2_with fail
 refine (QC.out _).mono ?_
 rintro e w1 ⟨rfl,hk1⟩
 have HB1 := Lib.hid (HB.out.keeps hk1 (by simp))
 have HK1 := Lib.hid (HK.out.trans hk1 (by simp))
 clear c0 c1 c2 c3 c4 c5 hk1 HB HK QC
 have c3 : w1.cell? ⟨zb,3,none⟩ = some (.int .i64 c.tag) := (HB1.out.cell 3).trans rfl
 have c4 : w1.cell? ⟨zb,4,none⟩ = some (.int .i64 c.bias) := (HB1.out.cell 4).trans rfl
 have c5 : w1.cell? ⟨zb,5,none⟩ = some (.int .i64 c.defer) := (HB1.out.cell 5).trans rfl
 by_cases h2 : c.tag = 2
 ·
  have e2 : (c.tag == 2) = true := by simpa using h2
  have e3 : (c.tag == 3) = false := by simp; omega
  have HE2 : Hid (V = if (m : Int) > c.bias ∧ d < c.defer then 2 else 1) := by have := HE.out; rw [if_pos h2] at this; exact this
  clear HE h2
  by_cases hb : (m : Int) > c.bias
  ·
   have f1 : decide ((m : Int) > c.bias) = true := decide_eq_true hb
   by_cases hd : d < c.defer
   · have f2 : decide (d < c.defer) = true := decide_eq_true hd
     have hv2 : V = 2 := by have := HE2.out; rw [if_pos ⟨hb,hd⟩] at this; exact this
     subst hv2
     clear hb hd
     go_wp2_with fail
     go_ret2
     exact ⟨rfl,HK1.out⟩
   · have f2 : decide (d < c.defer) = false := decide_eq_false hd
     have hv2 : V = 1 := by have := HE2.out; rw [if_neg (fun h => hd h.2)] at this; exact this
     subst hv2
     clear hb hd
     go_wp2_with fail
     go_ret2
     exact ⟨rfl,HK1.out⟩
  · have f1 : decide ((m : Int) > c.bias) = false := decide_eq_false hb
    have hv2 : V = 1 := by have := HE2.out; rw [if_neg (fun h => hb h.1)] at this; exact this
    subst hv2
    clear hb
    go_wp2_with fail
    go_ret2
    exact ⟨rfl,HK1.out⟩
 ·
  have e2 : (c.tag == 2) = false := by simpa using h2
  by_cases h3 : c.tag = 3
  ·
   have e3 : (c.tag == 3) = true := by simpa using h3
   have HE2 : Hid (V = if vs.any (fun v => decide (v.stamp < st)) = true then 3 else 1) := by have := HE.out; rw [if_neg h2,if_pos h3] at this; exact this
   clear HE h2 h3
   go_wp2_with fail
   go_loopw [10] (fun i wr => ∃ j : Nat,j ≤ m ∧ i = .int .i64 j ∧ Keeps [] w wr ∧ ∀ q v,q < j → vs[q]? = some v → ¬ v.stamp < st) (fun i _ => m - (intOf i).toNat)
   case atStart => exact ⟨0,Nat.zero_le _,rfl,HK1.out,fun q v hq => absurd hq (by omega)⟩
   case round =>
    obtain ⟨j,hj,rfl,hk,hsf⟩ := hrel
    have HK := Lib.hid hk
    have HSF := Lib.hid hsf
    clear hk hsf c3 c4 c5
    by_cases hlt : (j : Int) < (m : Int)
    ·
     have q0 : (0 : Int) ≤ (j : Int) := by omega
     obtain ⟨v,hv⟩ : ∃ v,vs[j]? = some v := ⟨_,List.getElem?_eq_getElem (by have := HM.out; omega)⟩
     have HVJ := Lib.hid hv
     obtain ⟨q,off,rfl,hcell⟩ := (HV.out.keeps HK.out (by simp)) (by have := HM.out; omega)
     obtain ⟨v0,v1,v2,v3⟩ := vc_at vs j v hv
     have t2 : wr.cell? ⟨q,off + j * 4 + 2,none⟩ = some (.int .i64 v.stamp) := by rw [Nat.add_assoc]; exact hcell _ _ v2
     have hw : IntKind.i64.wrap ((j : Int) + 1) = (j : Int) + 1 := by rw [IntKind.wrap_i64]; omega
     clear hv hcell v0 v1 v2 v3
     by_cases hs : v.stamp < st
     · have f1 : decide (v.stamp < st) = true := decide_eq_true hs
       have hv2 : V = 3 := by
        have h5 := HE2.out
        rw [if_pos (List.any_eq_true.2 ⟨v,List.mem_of_getElem? HVJ.out,by simpa using hs⟩)] at h5
        exact h5
       subst hv2
       clear hs
       go_wp2_with fail
       go_ret2
       exact ⟨rfl,HK.out⟩
     ·
      have f1 : decide (v.stamp < st) = false := decide_eq_false hs
      have HS := Lib.hid hs
      clear hs
      go_wp2_with fail
      exact ⟨⟨j + 1,by omega,by simp,HK.out,fun q u hq hu => by
       rcases Nat.lt_or_ge q j with h1 | h1
       · exact HSF.out q u h1 hu
       · have h2 : q = j := by omega
         subst h2
         rw [HVJ.out] at hu
         injection hu with hu
         subst hu
         exact HS.out⟩,by simp [intOf]; omega⟩
    ·
     obtain rfl : j = m := by omega
     have hv2 : V = 1 := by
      have h5 := HE2.out
      rw [if_neg (fun he => by
       obtain ⟨v,hv,ho⟩ := List.any_eq_true.1 he
       obtain ⟨q,hq⟩ := List.getElem?_of_mem hv
       have hql := (List.getElem?_eq_some_iff.1 hq).1
       exact HSF.out q v (by have := HM.out; omega) hq (by simpa using ho))] at h5
      exact h5
     subst hv2
     clear hlt
     go_wp2_with fail
     go_ret2
     exact ⟨rfl,HK.out⟩
  · have e3 : (c.tag == 3) = false := by simpa using h3
    have hv2 : V = 1 := by have := HE.out; rw [if_neg h2,if_neg h3] at this; exact this
    subst hv2
    clear HE h2 h3
    go_wp2_with fail
    go_ret2
    exact ⟨rfl,HK1.out⟩
set_option maxRecDepth 100000 in
set_option maxHeartbeats 4000000 in
theorem decide_doc (w : World) (b : Nat) (c : Cf) (hc : c.ok) (st d : Int) (hd : 0 ≤ d) (hd2 : d < 4611686018427387904) (hj : JD w b c d) (A : Option Addr) (cap : Nat) (vs : List Vc) (hv : Ld.Vs w A vs) (hl : vs.length ≤ 1099511627776) :
 Calls Tryz.prog 126 #[PT b,.int .i64 st,.slice A vs.length cap] w fun e w' => e = .returned (.int .i64 (verdict c st d vs)) ∧ JD w' b c (decided c st d vs) ∧ Keeps [b] w w' := by
 have hwr : IntKind.i64.wrap (d + 1) = d + 1 := by rw [IntKind.wrap_i64]; omega
 have HJ := Lib.hid hj
 obtain ⟨V,hV⟩ : ∃ V,verdict c st d vs = V := ⟨_,rfl⟩
 have HD : Hid (decided c st d vs = if V = 2 then d + 1 else d) := by unfold Hid decided; rw [hV]
 have QV : Hid (∀ w',Keeps [] w w' → Calls Tryz.prog 152 #[.agg #[.int .i64 c.cells,.int .i64 c.slots,.int .i64 c.bits,.int .i64 c.tag,.int .i64 c.bias,.int .i64 c.defer],.int .i64 st,.int .i64 d,.slice A vs.length cap] w' fun e w'' => e = .returned (.tuple #[.int .i64 V,.int .i64 0]) ∧ Keeps [] w w'') := fun w' hk => by
  have h5 := verdict_doc w' c hc st d hd A cap vs (hv.keeps hk (by simp)) hl
  rw [hV] at h5
  exact h5.mono fun e w'' ⟨he,h2⟩ => ⟨he,hk.trans h2 (by simp)⟩
 rw [hV,HD.out]
 have HC : Hid (∀ w',Keeps [] w w' → w'.cell? ⟨b,0,none⟩ = some (.int .i64 c.cells) ∧ w'.cell? ⟨b,1,none⟩ = some (.int .i64 c.slots) ∧ w'.cell? ⟨b,2,none⟩ = some (.int .i64 c.bits) ∧ w'.cell? ⟨b,3,none⟩ = some (.int .i64 c.tag) ∧ w'.cell? ⟨b,4,none⟩ = some (.int .i64 c.bias) ∧ w'.cell? ⟨b,5,none⟩ = some (.int .i64 c.defer) ∧ w'.cell? ⟨b,6,none⟩ = some (.int .i64 d)) := fun w' hk => by
  have hb := Blk.keeps hj hk (by simp)
  exact ⟨(hb.cell 0).trans rfl,(hb.cell 1).trans rfl,(hb.cell 2).trans rfl,(hb.cell 3).trans rfl,(hb.cell 4).trans rfl,(hb.cell 5).trans rfl,(hb.cell 6).trans rfl⟩
 have hkB : Keeps [] w w := Keeps.refl _ _
 clear hj hv hc hd hd2 hl hV HD
 go_enter Tryz.func126,Tryz.ntmps126
 go_upto_region 1 with fail
 go_region_held3 (fun w' => w'.cell? ⟨b,0,none⟩ = some (.int .i64 c.cells) ∧ w'.cell? ⟨b,1,none⟩ = some (.int .i64 c.slots) ∧ w'.cell? ⟨b,2,none⟩ = some (.int .i64 c.bits) ∧ w'.cell? ⟨b,3,none⟩ = some (.int .i64 c.tag) ∧ w'.cell? ⟨b,4,none⟩ = some (.int .i64 c.bias) ∧ w'.cell? ⟨b,5,none⟩ = some (.int .i64 c.defer) ∧ w'.cell? ⟨b,6,none⟩ = some (.int .i64 d)) (first | with_reducible exact HC.out _ Sq.kp | go_keep) ((go_at_call 152; (with_reducible refine (QV.out _ Sq.kp).mono ?_); rintro e w1 ⟨rfl,hk1⟩))
 have hb1 := Blk.keeps HJ.out hk1 (by simp)
 have HB1 := Lib.hid hb1
 have HK1 := Lib.hid hk1
 have c6 : w1.cell? ⟨b,6,none⟩ = some (.int .i64 d) := (hb1.cell 6).trans rfl
 have f6 := hb1.frozen 6
 clear hkB hk1 hb1 QV HC HJ
 by_cases hv2 : V = 2
 · subst hv2
   go_wp2_with fail
   go_ret
   refine ⟨rfl,?_,(HK1.out.mono (by simp)).setCell (.inl (by simp)) _⟩
   exact HB1.out.set_ 6 (.int .i64 (d + 1))
 ·
  have e2 : (V == 2) = false := by simpa using hv2
  have HV2 := Lib.hid hv2
  clear hv2
  go_wp2_with fail
  go_ret
  refine ⟨rfl,?_,HK1.out.mono (by simp)⟩
  first | exact HB1.out | (rw [if_neg HV2.out]; exact HB1.out)
end
end Rj
open Go.RowKit
attribute [local go_sem ↓] Go.wp_at_zero Go.wp_at_succ
def Vc.off (n : Int) (v : Vc) : Bool := decide (v.slot < 0) || decide (n ≤ v.slot)
def dmE (n who : Int) (L : List Vc) : Int := if who < 1 ∨ 8 < who then 1 else if L.any (Vc.off n) = true then 2 else 0
section
variable {w0 w w' w'' : World} {z : Sb} {F G : List Nat} {S S' : Sp} {k j b : Nat} {x x' : Lk} {y : Dm} {X : List Nat} {tv wv vv lv dv : Value}
end
open Go.RowKit
namespace Ld
section
variable {w0 w w' : World} {y : Rb} {G X : List Nat} {S : Sp} {n b k c : Nat} {x : Dm} {A : Option Addr} {L : List Vc} {dv : Value}
theorem rthread (w : World) (who : Int) : Calls Tryz.prog 70 #[.int .i64 who] w fun e w' => e = .returned (.bool (!decide (who < 1 ∨ 8 < who))) ∧ Keeps [] w w' := by
 by_cases h1 : 1 ≤ who
 ·
  by_cases h2 : who ≤ 8
  ·
   rw [decide_eq_false (by omega : ¬ (who < 1 ∨ 8 < who))]
   have d1 : decide (who ≥ 1) = true := decide_eq_true h1
   have d2 : decide (who ≤ 8) = true := decide_eq_true h2
   clear h1 h2
   go_enter Tryz.func70,Tryz.ntmps70
   go_wp2_with fail
   go_ret
   exact ⟨rfl,by simp⟩
  ·
   rw [decide_eq_true (by omega : (who < 1 ∨ 8 < who))]
   have d1 : decide (who ≥ 1) = true := decide_eq_true h1
   have d2 : decide (who ≤ 8) = false := decide_eq_false h2
   clear h1 h2
   go_enter Tryz.func70,Tryz.ntmps70
   go_wp2_with fail
   go_ret
   exact ⟨rfl,by simp⟩
 ·
  rw [decide_eq_true (by omega : (who < 1 ∨ 8 < who))]
  have d1 : decide (who ≥ 1) = false := decide_eq_false h1
  clear h1
  go_enter Tryz.func70,Tryz.ntmps70
  go_wp2_with fail
  go_ret
  exact ⟨rfl,by simp⟩
set_option maxRecDepth 100000 in
set_option maxHeartbeats 4000000 in
theorem newDoom (h : RP w0 w y G S) (hn : S.c.slots = (n : Int)) (hv : Vs w A L) (hc : L.length ≤ c ∧ c ≤ maxLen) (hl : L.length ≤ 1099511627776) (who : Int) :
 Calls Tryz.prog 49 #[PT y.p,.int .i64 who,.slice A L.length c] w fun e w' => (dmE n who L = 0 → ∃ b,e = .returned (.tuple #[PT b,.int .i64 0]) ∧ DAt w' y b (Dm.new who L) A c L (.slice none 0 0) ∧ w.heap.size ≤ b) ∧ (dmE n who L ≠ 0 → e = .returned (.tuple #[.pointer none,.int .i64 (dmE n who L)])) ∧ Keeps [] w w' := by
 have HR := Lib.hid h
 have HV := Lib.hid hv
 have HC := Lib.hid hc
 have HNN := Lib.hid hn
 have QT := Lib.hid (rthread w who)
 by_cases hw : who < 1 ∨ 8 < who
 ·
  have hE : dmE n who L = 1 := by unfold dmE; rw [if_pos hw]
  rw [hE]
  rw [decide_eq_true hw] at QT
  clear h hn hv hc hl hw hE
  go_enter Tryz.func49,Tryz.ntmps49
  go_wp2_with fail
  refine QT.out.mono ?_
  rintro e w1 ⟨rfl,hk⟩
  go_wp2_with fail
  go_ret2
  exact ⟨by simp,by simp,hk⟩
 ·
  rw [decide_eq_false hw] at QT
  obtain ⟨m,hm⟩ : ∃ m,L.length = m := ⟨_,rfl⟩
  have HM := Lib.hid hm
  have HE : Hid (∀ b : Bool,L.any (Vc.off n) = b → dmE n who L = if b = true then 2 else 0) := fun b hb => by unfold dmE; rw [if_neg hw,hb]
  rw [hm] at hl ⊢
  have hmi : (m : Int) ≤ 1099511627776 := by omega
  clear h hn hv hc hw hm
  go_enter Tryz.func49,Tryz.ntmps49
  go_wp2_with fail
  refine QT.out.mono ?_
  rintro e w1 ⟨rfl,hk1⟩
  have HK1 := Lib.hid hk1
  clear hk1
  go_wp2_with fail
  go_loopw [8] (fun i wr => ∃ j : Nat,j ≤ m ∧ i = .int .i64 j ∧ Keeps [] w wr ∧ ∀ q v,q < j → L[q]? = some v → Vc.off n v = false) (fun i _ => m - (intOf i).toNat)
  case atStart => exact ⟨0,Nat.zero_le _,rfl,HK1.out,fun q v hq => absurd hq (by omega)⟩
  case round =>
   obtain ⟨j,hj,rfl,hk,hsf⟩ := hrel
   have HK := Lib.hid hk
   have HSF := Lib.hid hsf
   clear hk hsf
   by_cases hlt : (j : Int) < (m : Int)
   ·
    have q0 : (0 : Int) ≤ (j : Int) := by omega
    obtain ⟨v,hv⟩ : ∃ v,L[j]? = some v := ⟨_,List.getElem?_eq_getElem (by have := HM.out; omega)⟩
    have HVJ := Lib.hid hv
    obtain ⟨q,off,rfl,hcell⟩ := (HV.out.keeps HK.out (by simp)) (by have := HM.out; omega)
    obtain ⟨v0,v1,v2,v3⟩ := vc_at L j v hv
    have t0 : wr.cell? ⟨q,off + j * 4,none⟩ = some (.int .i64 v.slot) := hcell _ _ v0
    have c1 : wr.cell? ⟨y.p,1,none⟩ = some (.int .i64 (n : Int)) := by have := (HR.out.calm HK.out).cells.2.1; rw [HNN.out] at this; exact this
    have hw : IntKind.i64.wrap ((j : Int) + 1) = (j : Int) + 1 := by rw [IntKind.wrap_i64]; omega
    clear hv hcell v0 v1 v2 v3
    by_cases k0' : v.slot < 0
    · have k0 : decide (v.slot < 0) = true := decide_eq_true k0'
      have hE : Hid (L.any (Vc.off n) = true) := List.any_eq_true.2 ⟨v,List.mem_of_getElem? HVJ.out,by simp [Vc.off,k0]⟩
      clear k0'
      go_wp2_with fail
      go_quiet (fail)
      go_wp2_with fail
      go_ret2
      rw [HE.out true hE.out]
      exact ⟨by simp,by simp,HK.out.drewN _⟩
    ·
     have k0 : decide (v.slot < 0) = false := decide_eq_false k0'
     by_cases k1' : (n : Int) ≤ v.slot
     · have k1 : decide (v.slot ≥ (n : Int)) = true := decide_eq_true k1'
       have hE : Hid (L.any (Vc.off n) = true) := List.any_eq_true.2 ⟨v,List.mem_of_getElem? HVJ.out,by simp [Vc.off,k1']⟩
       clear k0' k1'
       go_wp2_with fail
       go_quiet (fail)
       go_wp2_with fail
       go_ret2
       rw [HE.out true hE.out]
       exact ⟨by simp,by simp,HK.out.drewN _⟩
     ·
      have k1 : decide (v.slot ≥ (n : Int)) = false := decide_eq_false k1'
      have hof : Hid (Vc.off n v = false) := by unfold Hid Vc.off; simp; omega
      clear k0' k1'
      go_wp2_with fail
      go_quiet (fail)
      go_wp2_with fail
      exact ⟨⟨j + 1,by omega,by simp,HK.out.drewN _,fun q u hq hu => by
       rcases Nat.lt_or_ge q j with h1 | h1
       · exact HSF.out q u h1 hu
       · have h2 : q = j := by omega
         subst h2
         rw [HVJ.out] at hu
         injection hu with hu
         subst hu
         exact hof.out⟩,by simp [intOf]; omega⟩
   ·
    obtain rfl : j = m := by omega
    clear hlt
    go_wp2_with fail
    go_ret2
    have hE : L.any (Vc.off n) = false := by
     cases he : L.any (Vc.off n) with
     | false => rfl
     | true =>
       obtain ⟨v,hv,ho⟩ := List.any_eq_true.1 he
       obtain ⟨q,hq⟩ := List.getElem?_of_mem hv
       have hql := (List.getElem?_eq_some_iff.1 hq).1
       rw [HSF.out q v (by have := HM.out; omega) hq] at ho
       cases ho
    rw [HE.out false hE]
    have hz := HK.out.size
    have hkz : Keeps [] wr (wr.alloc (.cells #[PT y.p,.int .i64 who,.slice A j c,.int .i64 0,.slice none 0 0] 142)) := Sq.r.alloc _
    refine ⟨fun _ => ⟨_,rfl,⟨⟨0,Nat.zero_le _,rfl,?_⟩,World.ownsRow_nil _ _ _ _,HV.out.keeps (HK.out.trans hkz (by simp)) (by simp),HC.out⟩,hz⟩,by simp,HK.out.trans hkz (by simp)⟩
    rw [HM.out]
    exact Blk.new _ _ _
end
end Ld
end Go.Proofs.YtmlnedilbneekaaGreat