/- Layer 8: the space's own calls: Check, New, and the ways to its parts. -/
import Derived.Test.YtmlnedilbneekaaGreatSpAt
import Derived.Deep.RegionHeld3
import Derived.BigRegion
import Derived.Test.YtmlnedilbneekaaGreatMake
set_option linter.unusedVariables false
set_option linter.unusedSimpArgs false
namespace Go.Proofs.YtmlnedilbneekaaGreat
open Go.RowKit
theorem sp_in (w : World) (n lo hi : Int) : Calls Tryz.prog 111 #[.int .i64 n,.int .i64 lo,.int .i64 hi] w fun e w' => e = .returned (.bool (decide (lo ≤ n) && decide (n ≤ hi))) ∧ w = w' := by
 by_cases h1 : lo ≤ n
 ·
  by_cases h2 : n ≤ hi
  · rw [decide_eq_true h1,decide_eq_true h2]
    go_enter Tryz.func111,Tryz.ntmps111
    go_wp2
    go_ret
    exact ⟨rfl,rfl⟩
  · rw [decide_eq_true h1,decide_eq_false h2]
    go_enter Tryz.func111,Tryz.ntmps111
    go_wp2
    go_ret
    exact ⟨rfl,rfl⟩
 · rw [decide_eq_false h1]
   go_enter Tryz.func111,Tryz.ntmps111
   go_wp2
   go_ret
   exact ⟨rfl,rfl⟩
def Cf.val (c : Cf) : Value := .agg c.vals
theorem cf_cells {w : World} {z : Nat} {c : Cf} (h : Blk w z 23 c.vals) : w.cell? ⟨z,0,none⟩ = some (.int .i64 c.cells) ∧ w.cell? ⟨z,1,none⟩ = some (.int .i64 c.slots) ∧ w.cell? ⟨z,2,none⟩ = some (.int .i64 c.bits) ∧ w.cell? ⟨z,3,none⟩ = some (.int .i64 c.tag) ∧ w.cell? ⟨z,4,none⟩ = some (.int .i64 c.bias) ∧ w.cell? ⟨z,5,none⟩ = some (.int .i64 c.defer) :=
 ⟨(h.cell 0).trans rfl,(h.cell 1).trans rfl,(h.cell 2).trans rfl,(h.cell 3).trans rfl,(h.cell 4).trans rfl,(h.cell 5).trans rfl⟩
theorem sp_check (w : World) (c : Cf) : Calls Tryz.prog 39 #[.agg #[.int .i64 c.cells,.int .i64 c.slots,.int .i64 c.bits,.int .i64 c.tag,.int .i64 c.bias,.int .i64 c.defer]] w fun e w' => e = .returned (.int .i64 (if c.ok then 0 else 1)) ∧ Keeps [] w w' := by
 have hk : Keeps [] w (w.alloc (.cells c.vals 23)) := by simp
 have hb : Blk (w.alloc (.cells c.vals 23)) w.heap.size 23 c.vals := Blk.new _ _ _
 obtain ⟨d0,d1,d2,d3,d4,d5⟩ := cf_cells hb
 have HK := Lib.hid hk
 clear hk hb
 unfold Cf.vals at d0 d1 d2 d3 d4 d5
 have hc : c.ok ↔ ((decide (1 ≤ c.cells) && decide (c.cells ≤ 256)) = true ∧ (decide (1 ≤ c.slots) && decide (c.slots ≤ 8)) = true ∧ (decide (1 ≤ c.bits) && decide (c.bits ≤ 128)) = true ∧ (decide (1 ≤ c.tag) && decide (c.tag ≤ 3)) = true ∧ (decide (0 ≤ c.bias) && decide (c.bias ≤ 8)) = true ∧ (decide (0 ≤ c.defer) && decide (c.defer ≤ 64)) = true) := by simp [Cf.ok]
 obtain ⟨rr,hrr⟩ : ∃ rr : Int,(if c.ok then 0 else 1) = rr := ⟨_,rfl⟩
 rw [hrr]
 have HC := Lib.hid (And.intro hc hrr)
 clear hc hrr
 go_enter Tryz.func39,Tryz.ntmps39
 go_wp2_with fail
 refine (sp_in _ _ _ _).mono ?_
 rintro e wq ⟨rfl,rfl⟩
 generalize (decide (1 ≤ c.cells) && decide (c.cells ≤ 256)) = b0 at *
 cases b0
 · go_wp2_with fail
   go_ret
   exact ⟨by rw [← HC.out.2,if_neg (fun h => by have := HC.out.1.1 h; simp at this)]; rfl,HK.out⟩
 go_wp2_with fail
 refine (sp_in _ _ _ _).mono ?_
 rintro e wq ⟨rfl,rfl⟩
 generalize (decide (1 ≤ c.slots) && decide (c.slots ≤ 8)) = b1 at *
 cases b1
 · go_wp2_with fail
   go_ret
   exact ⟨by rw [← HC.out.2,if_neg (fun h => by have := HC.out.1.1 h; simp at this)]; rfl,HK.out⟩
 go_wp2_with fail
 refine (sp_in _ _ _ _).mono ?_
 rintro e wq ⟨rfl,rfl⟩
 generalize (decide (1 ≤ c.bits) && decide (c.bits ≤ 128)) = b2 at *
 cases b2
 · go_wp2_with fail
   go_ret
   exact ⟨by rw [← HC.out.2,if_neg (fun h => by have := HC.out.1.1 h; simp at this)]; rfl,HK.out⟩
 go_wp2_with fail
 refine (sp_in _ _ _ _).mono ?_
 rintro e wq ⟨rfl,rfl⟩
 generalize (decide (1 ≤ c.tag) && decide (c.tag ≤ 3)) = b3 at *
 cases b3
 · go_wp2_with fail
   go_ret
   exact ⟨by rw [← HC.out.2,if_neg (fun h => by have := HC.out.1.1 h; simp at this)]; rfl,HK.out⟩
 go_wp2_with fail
 refine (sp_in _ _ _ _).mono ?_
 rintro e wq ⟨rfl,rfl⟩
 generalize (decide (0 ≤ c.bias) && decide (c.bias ≤ 8)) = b4 at *
 cases b4
 · go_wp2_with fail
   go_ret
   exact ⟨by rw [← HC.out.2,if_neg (fun h => by have := HC.out.1.1 h; simp at this)]; rfl,HK.out⟩
 go_wp2_with fail
 refine (sp_in _ _ _ _).mono ?_
 rintro e wq ⟨rfl,rfl⟩
 generalize (decide (0 ≤ c.defer) && decide (c.defer ≤ 64)) = b5 at *
 cases b5
 · go_wp2_with fail
   go_ret
   exact ⟨by rw [← HC.out.2,if_neg (fun h => by have := HC.out.1.1 h; simp at this)]; rfl,HK.out⟩
 go_wp2_with fail
 go_ret
 exact ⟨by rw [← HC.out.2,if_pos (HC.out.1.2 (by simp))]; rfl,HK.out⟩
theorem newRow_int (w : World) (m : Nat) (i : Int) (h1 : 1 ≤ i) (h2 : i ≤ 256) :
 Calls Tryz.prog 41 #[PT m,.int .i64 1,.int .i64 i] w fun e w' => ∃ r b,e = .returned (.tuple #[PT r,.int .i64 0]) ∧ RowI.At RowI.R w' r b 1 (some m) (List.replicate i.toNat 0) ∧ Keeps [] w w' ∧ w.heap.size ≤ b := by
 obtain ⟨n,rfl⟩ : ∃ n : Nat,i = n := ⟨i.toNat,by omega⟩
 exact (RowI.newRow_ok w (some m) 1 n (by omega) (by omega)).mono fun e w' ⟨he,h3,h4,_⟩ => ⟨_,_,he,by simpa using h3,h4,Nat.le_refl _⟩
theorem newTab_int (w : World) (m : Nat) (i : Int) (h1 : 1 ≤ i) (h2 : i ≤ 8) :
 Calls Tryz.prog 42 #[PT m,.int .i64 i] w fun e w' => ∃ t,e = .returned (.tuple #[PT t.q,.int .i64 0]) ∧ TabAt w' t (some m) (List.replicate i.toNat Hd.zero) (List.replicate (i.toNat * 2) 0) ∧ Keeps [] w w' ∧ w.heap.size ≤ t.b ∧ w.heap.size ≤ t.c := by
 obtain ⟨n,rfl⟩ : ∃ n : Nat,i = n := ⟨i.toNat,by omega⟩
 exact (slots_new w (some m) n (by omega) (by omega)).mono fun e w' ⟨he,h3,h4⟩ => ⟨Tb.new w.heap.size,he,by simpa using h3,h4,Nat.le_refl _,by simp [Tb.new]⟩
theorem newGate_held {wB w : World} (m : Nat) (hk : Keeps [] wB w) :
 Calls Tryz.prog 43 #[PT m] w fun e w' => ∃ q r b,e = .returned (PT q) ∧ GateAt w' q r b (some m) Gt.zero ∧ Keeps [] wB w' ∧ wB.heap.size ≤ b :=
 (gate_new w (some m)).mono fun e w' ⟨he,h3,h4⟩ => ⟨_,_,_,he,h3,hk.trans h4 (by simp),hk.size⟩
theorem sp_new_bad (w : World) (c : Cf) (h : ¬ c.ok) : Calls Tryz.prog 6 #[.agg #[.int .i64 c.cells,.int .i64 c.slots,.int .i64 c.bits,.int .i64 c.tag,.int .i64 c.bias,.int .i64 c.defer]] w fun e w' => e = .returned (.tuple #[.pointer none,.int .i64 1]) ∧ Keeps [] w w' := by
 have hk : Keeps [] w (w.alloc (.cells c.vals 23)) := by simp
 have hb : Blk (w.alloc (.cells c.vals 23)) w.heap.size 23 c.vals := Blk.new _ _ _
 obtain ⟨d0,d1,d2,d3,d4,d5⟩ := cf_cells hb
 have HK := Lib.hid hk
 clear hk hb
 unfold Cf.vals at d0 d1 d2 d3 d4 d5
 have HQ : Hid (∀ w : World,Calls Tryz.prog 39 #[.agg #[.int .i64 c.cells,.int .i64 c.slots,.int .i64 c.bits,.int .i64 c.tag,.int .i64 c.bias,.int .i64 c.defer]] w fun e w' => e = .returned (.int .i64 1) ∧ Keeps [] w w') := fun w => by
  have := sp_check w c
  rw [if_neg h] at this
  exact this
 go_enter Tryz.func6,Tryz.ntmps6
 go_wp2_with fail
 refine (HQ.out _).mono ?_
 rintro e w1 ⟨rfl,hk1⟩
 have HK1 := Lib.hid (HK.out.trans hk1 (by simp))
 clear hk1 HQ
 go_wp2_with fail
 go_ret2
 exact ⟨rfl,HK1.out⟩
set_option maxRecDepth 100000 in
set_option maxHeartbeats 4000000 in
theorem sp_new (w : World) (c : Cf) (h : c.ok) : Calls Tryz.prog 6 #[.agg #[.int .i64 c.cells,.int .i64 c.slots,.int .i64 c.bits,.int .i64 c.tag,.int .i64 c.bias,.int .i64 c.defer]] w fun e w' => ∃ z F,e = .returned (.tuple #[PT z.p,.int .i64 0]) ∧ SP w w' z F (Sp.new c) := by
 have hk : Keeps [] w (w.alloc (.cells c.vals 23)) := by simp
 have hb : Blk (w.alloc (.cells c.vals 23)) w.heap.size 23 c.vals := Blk.new _ _ _
 obtain ⟨d0,d1,d2,d3,d4,d5⟩ := cf_cells hb
 have HK := Lib.hid hk
 have HB := Lib.hid hb
 clear hk hb
 unfold Cf.vals at d0 d1 d2 d3 d4 d5
 have HQ : Hid (∀ w : World,Calls Tryz.prog 39 #[.agg #[.int .i64 c.cells,.int .i64 c.slots,.int .i64 c.bits,.int .i64 c.tag,.int .i64 c.bias,.int .i64 c.defer]] w fun e w' => e = .returned (.int .i64 0) ∧ Keeps [] w w') := fun w => by
  have := sp_check w c
  rw [if_pos h] at this
  exact this
 have HC := Lib.hid h
 obtain ⟨⟨h1,h2⟩,⟨h3,h4⟩,_⟩ := h
 go_enter Tryz.func6,Tryz.ntmps6
 go_wp2_with fail
 refine (HQ.out _).mono ?_
 rintro e w1 ⟨rfl,hk1⟩
 have HK1 := Lib.hid (HK.out.trans hk1 (by simp))
 have HB1 := Lib.hid (HB.out.keeps hk1 (by simp))
 clear hk1 HQ d0 d1 d2 d3 d4 d5 HK HB
 go_wp2_with fail
 refine (newMeter w1).mono ?_
 rintro e w2 ⟨m,rfl,hm,hk2,hm2⟩
 have HM := Lib.hid hm
 have HML : Hid (w.heap.size ≤ m) := by have := HK1.out.size; unfold Hid; omega
 have HK2 := Lib.hid (HK1.out.trans hk2 (by simp))
 have HB2 := Lib.hid (HB1.out.keeps hk2 (by simp))
 clear hk2 hm hm2 HK1 HB1
 obtain ⟨d0,d1,d2,d3,d4,d5⟩ := cf_cells HB2.out
 go_wp2_with fail
 refine (newRow_int w2 m c.cells h1 h2).mono ?_
 rintro e w3 ⟨r,b,rfl,hr,hk3,hlb⟩
 have HR := Lib.hid hr
 have HRL : Hid (w.heap.size ≤ b) := by have := HK2.out.size; unfold Hid; omega
 have HM3 := Lib.hid (HM.out.keeps hk3 (by simp))
 have HK3 := Lib.hid (HK2.out.trans hk3 (by simp))
 have HB3 := Lib.hid (HB2.out.keeps hk3 (by simp))
 clear hk3 hr hlb HM HK2 HB2 d0 d1 d2 d3 d4 d5
 obtain ⟨d0,d1,d2,d3,d4,d5⟩ := cf_cells HB3.out
 go_wp2_with fail
 refine (newTab_int w3 m c.slots h3 h4).mono ?_
 rintro e w4 ⟨t,rfl,ht,hk4,htb,htc⟩
 have HT := Lib.hid ht
 have HTL : Hid (w.heap.size ≤ t.b ∧ w.heap.size ≤ t.c) := by have := HK3.out.size; unfold Hid; omega
 have HM4 := Lib.hid (HM3.out.keeps hk4 (by simp))
 have HR4 := Lib.hid (HR.out.keeps hk4 (by simp) (by simp))
 have HK4 := Lib.hid (HK3.out.trans hk4 (by simp))
 have HB4 := Lib.hid (HB3.out.keeps hk4 (by simp))
 clear hk4 ht htb htc HM3 HR HK3 HB3 d0 d1 d2 d3 d4 d5
 have hkB : Keeps [] w4 w4 := Keeps.refl _ _
 have HCL := Lib.hid (show ∀ w',Keeps [] w4 w' → w'.cell? ⟨w.heap.size,0,none⟩ = some (.int .i64 c.cells) ∧ w'.cell? ⟨w.heap.size,1,none⟩ = some (.int .i64 c.slots) ∧ w'.cell? ⟨w.heap.size,2,none⟩ = some (.int .i64 c.bits) ∧ w'.cell? ⟨w.heap.size,3,none⟩ = some (.int .i64 c.tag) ∧ w'.cell? ⟨w.heap.size,4,none⟩ = some (.int .i64 c.bias) ∧ w'.cell? ⟨w.heap.size,5,none⟩ = some (.int .i64 c.defer) from fun w' hk => cf_cells (HB4.out.keeps hk (by simp)))
 go_wp2_with fail
 go_region_held3 (fun w' => w'.cell? ⟨w.heap.size,0,none⟩ = some (.int .i64 c.cells) ∧ w'.cell? ⟨w.heap.size,1,none⟩ = some (.int .i64 c.slots) ∧ w'.cell? ⟨w.heap.size,2,none⟩ = some (.int .i64 c.bits) ∧ w'.cell? ⟨w.heap.size,3,none⟩ = some (.int .i64 c.tag) ∧ w'.cell? ⟨w.heap.size,4,none⟩ = some (.int .i64 c.bias) ∧ w'.cell? ⟨w.heap.size,5,none⟩ = some (.int .i64 c.defer)) (first | exact HCL.out _ Sq.kq | go_keep) ((go_at_call 43; refine (newGate_held (wB := w4) m Sq.kq).mono ?_; rintro e w5 ⟨q,gr,gb,rfl,hg,hkc,hgb⟩))
 all_goals
  go_wp2_with fail
  go_ret2
  have hz4 := HK4.out.size
  have hz5 := hkc.size
  have hm0 := HML.out
  have hr0 := HRL.out
  have ht0 := HTL.out
  refine ⟨⟨w5.heap.size,m,r,b,q,gr,gb,t⟩,_,rfl,⟨⟨m,.slice none 0 0,⟨Blk.new _ _ _,(HM4.out.keeps hkc (by simp)).keeps ((Keeps.refl [] w5).alloc _) (by simp),HR4.out.keeps (hkc.alloc _) (by simp) (by simp),hg.keeps ((Keeps.refl [] w5).alloc _) (by simp) (by simp) (by simp),HT.out.calm (hkc.alloc _),World.ownsRow_nil _ _ _ _⟩,rfl⟩,?_,HK4.out.trans (hkc.alloc _) (by simp)⟩⟩
  intro x hx
  simp only [footS,Value.ownBlock,Option.toList,List.mem_cons,List.not_mem_nil,or_false] at hx
  omega
end Go.Proofs.YtmlnedilbneekaaGreat