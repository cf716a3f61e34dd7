/- A block that holds one head: told in one word, 'rd w z = some x'. -/
import Derived.Test.YtmlnedilbneekaaGreatRowH
import Derived.Test.YtmlnedilbneekaaGreatMeter
import Derived.Test.YtmlnedilbneekaaGreatMake
import Derived.Deep.RegionHeld3
import Derived.RegionTactic
import Derived.BigRegion
import Derived.Outline
import Derived.Handy
namespace Go.Proofs.YtmlnedilbneekaaGreat
open Go.RowKit
set_option linter.unusedVariables false
def hcs (x : Hd) : Array Value := #[.int .i64 x.gen,.int .i64 x.state,.int .i64 x.stamp,.int .i64 x.thread,.bool x.doomed,.int .i64 x.who]
theorem hcs_inj {x y : Hd} (h : hcs x = hcs y) : x = y := by
 obtain ⟨a,b,c,d,e,f⟩ := x
 obtain ⟨a',b',c',d',e',f'⟩ := y
 simp [hcs] at h
 simp [h]
open Classical in
noncomputable def rd (w : World) (z : Nat) : Option Hd := if h : ∃ x,Blk w z 115 (hcs x) then some (Classical.choose h) else none
theorem rd_iff {w : World} {z : Nat} {x : Hd} : rd w z = some x ↔ Blk w z 115 (hcs x) := by
 unfold rd
 split
 ·
  rename_i h
  have h1 := Classical.choose_spec h
  constructor
  · intro e; injection e with e; rw [← e]; exact h1
  · intro hx
    have e : some (Obj.cells (hcs (Classical.choose h)) 115 (0,0)) = some (Obj.cells (hcs x) 115 (0,0)) := h1.symm.trans hx
    injection e with e
    injection e with e
    rw [hcs_inj e]
 · rename_i h
   constructor
   · intro e; cases e
   · intro hx; exact absurd ⟨x,hx⟩ h
theorem rd_of {w : World} {z : Nat} {x : Hd} (h : Blk w z 115 #[.int .i64 x.gen,.int .i64 x.state,.int .i64 x.stamp,.int .i64 x.thread,.bool x.doomed,.int .i64 x.who]) : rd w z = some x := rd_iff.2 h
theorem rd_some {w : World} {z : Nat} (h : (rd w z).isSome = true) : Blk w z 115 (hcs ((rd w z).getD Hd.zero)) := by
 obtain ⟨x,hx⟩ := Option.isSome_iff_exists.1 h
 rw [hx]
 exact rd_iff.1 hx
section
variable {w : World} {z : Nat}
theorem rd_c0 (h : (rd w z).isSome = true) : w.cell? ⟨z,0,none⟩ = some (.int .i64 ((rd w z).getD Hd.zero).gen) := ((rd_some h).cell 0).trans rfl
theorem rd_c1 (h : (rd w z).isSome = true) : w.cell? ⟨z,1,none⟩ = some (.int .i64 ((rd w z).getD Hd.zero).state) := ((rd_some h).cell 1).trans rfl
theorem rd_c2 (h : (rd w z).isSome = true) : w.cell? ⟨z,2,none⟩ = some (.int .i64 ((rd w z).getD Hd.zero).stamp) := ((rd_some h).cell 2).trans rfl
theorem rd_c3 (h : (rd w z).isSome = true) : w.cell? ⟨z,3,none⟩ = some (.int .i64 ((rd w z).getD Hd.zero).thread) := ((rd_some h).cell 3).trans rfl
theorem rd_c4 (h : (rd w z).isSome = true) : w.cell? ⟨z,4,none⟩ = some (.bool ((rd w z).getD Hd.zero).doomed) := ((rd_some h).cell 4).trans rfl
theorem rd_c5 (h : (rd w z).isSome = true) : w.cell? ⟨z,5,none⟩ = some (.int .i64 ((rd w z).getD Hd.zero).who) := ((rd_some h).cell 5).trans rfl
theorem rd_free (j : Nat) (h : (rd w z).isSome = true) : w.frozen? ⟨z,j,none⟩ = false := (rd_some h).frozen j
end
theorem rd_keeps {S : List Nat} {w w' : World} {z : Nat} {x : Hd} (h : rd w z = some x) (hk : Keeps S w w') (hz : z ∉ S) : rd w' z = some x := rd_iff.2 ((rd_iff.1 h).keeps hk hz)
theorem rd_new (w : World) (x : Hd) : rd (w.alloc (.cells #[.int .i64 x.gen,.int .i64 x.state,.int .i64 x.stamp,.int .i64 x.thread,.bool x.doomed,.int .i64 x.who] 115)) w.heap.size = some x := rd_of (Blk.new _ _ _)
theorem rd_lt {w : World} {z : Nat} {x : Hd} (h : rd w z = some x) : z < w.heap.size := (rd_iff.1 h).lt
def put6 (w : World) (z : Nat) (x : Hd) : World := (((((w.setCell ⟨z,0,none⟩ (.int .i64 x.gen)).setCell ⟨z,1,none⟩ (.int .i64 x.state)).setCell ⟨z,2,none⟩ (.int .i64 x.stamp)).setCell ⟨z,3,none⟩ (.int .i64 x.thread)).setCell ⟨z,4,none⟩ (.bool x.doomed)).setCell ⟨z,5,none⟩ (.int .i64 x.who)
theorem put6_keeps (w : World) (z : Nat) (x : Hd) : Keeps [z] w (put6 w z x) := (((((Sq.r.setCell (.inl (by simp)) _).setCell (.inl (by simp)) _).setCell (.inl (by simp)) _).setCell (.inl (by simp)) _).setCell (.inl (by simp)) _).setCell (.inl (by simp)) _
theorem rd_put6 (w : World) (z : Nat) (x y : Hd) (h : rd w z = some y) : rd (put6 w z x) z = some x := by
 refine rd_of ?_
 have h1 := (((((((rd_iff.1 h).set_ 0 (.int .i64 x.gen)).set_ 1 (.int .i64 x.state)).set_ 2 (.int .i64 x.stamp)).set_ 3 (.int .i64 x.thread)).set_ 4 (.bool x.doomed)).set_ 5 (.int .i64 x.who))
 simpa [hcs,put6] using h1
namespace RowH
open Go.RowKit
attribute [local go_sem ↓] Go.wp_at_zero Go.wp_at_succ
attribute [local go_sem] rd_c0 rd_c1 rd_c2 rd_c3 rd_c4 rd_c5 rd_free Option.isSome_some Option.getD_some
theorem eq_run (w : World) (x y : Hd) : (Op.equalIn 10000 115 (.agg #[.int .i64 x.gen,.int .i64 x.state,.int .i64 x.stamp,.int .i64 x.thread,.bool x.doomed,.int .i64 x.who]) (.agg #[.int .i64 y.gen,.int .i64 y.state,.int .i64 y.stamp,.int .i64 y.thread,.bool y.doomed,.int .i64 y.who])).run Tryz.prog w = .ok (decide (x = y)) w := by
 have e : decide (x = y) = ((x.gen == y.gen) && (x.state == y.state) && (x.stamp == y.stamp) && (x.thread == y.thread) && (x.doomed == y.doomed) && (x.who == y.who)) := by
  obtain ⟨x0,x1,x2,x3,x4,x5⟩ := x
  obtain ⟨y0,y1,y2,y3,y4,y5⟩ := y
  by_cases h0 : x0 = y0 <;> by_cases h1 : x1 = y1 <;> by_cases h2 : x2 = y2 <;> by_cases h3 : x3 = y3 <;> by_cases h4 : x4 = y4 <;> by_cases h5 : x5 = y5 <;> simp [h0,h1,h2,h3,h4,h5]
 rw [e]
 simp [go_sem]
 repeat' split
 all_goals simp_all
def TW (w : World) (old new x : Hd) : World := ((((w.alloc (.cells #[.int .i64 old.gen,.int .i64 old.state,.int .i64 old.stamp,.int .i64 old.thread,.bool old.doomed,.int .i64 old.who] 115)).alloc (.cells #[.int .i64 new.gen,.int .i64 new.state,.int .i64 new.stamp,.int .i64 new.thread,.bool new.doomed,.int .i64 new.who] 115)).alloc (.cells #[.int .i64 0,.int .i64 0,.int .i64 0,.int .i64 0,.bool false,.int .i64 0] 115)).alloc (.cells #[.int .i64 0,.int .i64 0,.int .i64 0,.int .i64 0,.bool false,.int .i64 0] 115)).alloc (.cells #[.int .i64 x.gen,.int .i64 x.state,.int .i64 x.stamp,.int .i64 x.thread,.bool x.doomed,.int .i64 x.who] 115)
theorem TW.rds (w : World) (old new x : Hd) : rd (TW w old new x) w.heap.size = some old ∧ rd (TW w old new x) (w.heap.size + 1) = some new ∧ rd (TW w old new x) (w.heap.size + 1 + 1) = some Hd.zero ∧ rd (TW w old new x) (w.heap.size + 1 + 1 + 1 + 1) = some x :=
 ⟨rd_of (((((Blk.new _ _ _).alloc _).alloc _).alloc _).alloc _),rd_of (((Blk.alloc (new_at _ _ _ (by simp)) _).alloc _).alloc _),rd_of ((Blk.alloc (new_at _ _ _ (by simp)) _).alloc _),rd_of (new_at _ _ _ (by simp))⟩
theorem rd_noted {T' : TypeId} {mp : Option Nat} {lb : Nat} {s s0 : MS} {w0 w w1 : World} {z : Nat} {x : Hd} (hm : MetAt T' w0 mp lb s0) (hn : Noted T' mp lb s w w1) (h : rd w z = some x) (hz : w0.heap.size ≤ z) : rd w1 z = some x := rd_iff.2 (kept_note hm hn (rd_iff.1 h) hz)
set_option maxHeartbeats 4000000 in
theorem trade_not (w : World) (r b : Nat) (kind : Int) (mp : Option Nat) (l : List Hd) (hr : At R w r b kind mp l) (lb : Nat) (s : MS) (hm : MetAt MT w mp lb s) (hl : Room mp s)
 (k : Nat) (x old new : Hd) (hx : l[k]? = some x) (hne : x ≠ old) :
 Calls Tryz.prog 140 #[.pointer (some ⟨r,0,none⟩),.int .i64 k,.agg #[.int .i64 old.gen,.int .i64 old.state,.int .i64 old.stamp,.int .i64 old.thread,.bool old.doomed,.int .i64 old.who],.agg #[.int .i64 new.gen,.int .i64 new.state,.int .i64 new.stamp,.int .i64 new.thread,.bool new.doomed,.int .i64 new.who]] w fun e w' =>
  e = .returned (.tuple #[.agg #[.int .i64 x.gen,.int .i64 x.state,.int .i64 x.stamp,.int .i64 x.thread,.bool x.doomed,.int .i64 x.who],.bool false,.int .i64 0]) ∧ Left R MT r b kind mp l lb (s.note kind k 3 false) w w' := by
 have hk : k < l.length := (List.getElem?_eq_some_iff.1 hx).1
 have he : ∀ w,(Op.equalIn 10000 115 (.agg #[.int .i64 x.gen,.int .i64 x.state,.int .i64 x.stamp,.int .i64 x.thread,.bool x.doomed,.int .i64 x.who]) (.agg #[.int .i64 old.gen,.int .i64 old.state,.int .i64 old.stamp,.int .i64 old.thread,.bool old.doomed,.int .i64 old.who])).run Tryz.prog w = .ok false w := fun w => by rw [eq_run,decide_eq_false hne]
 have kw4 : Keeps [] w ((((w.alloc (.cells #[.int .i64 old.gen,.int .i64 old.state,.int .i64 old.stamp,.int .i64 old.thread,.bool old.doomed,.int .i64 old.who] 115)).alloc (.cells #[.int .i64 new.gen,.int .i64 new.state,.int .i64 new.stamp,.int .i64 new.thread,.bool new.doomed,.int .i64 new.who] 115)).alloc (.cells #[.int .i64 0,.int .i64 0,.int .i64 0,.int .i64 0,.bool false,.int .i64 0] 115)).alloc (.cells #[.int .i64 0,.int .i64 0,.int .i64 0,.int .i64 0,.bool false,.int .i64 0] 115)) := ((((Keeps.refl [] w).alloc _).alloc _).alloc _).alloc _
 have kwa : Keeps [] w (TW w old new x) := kw4.alloc _
 have bT := Lib.hid (TW.rds w old new x)
 have a2 : ((((w.alloc (.cells #[.int .i64 old.gen,.int .i64 old.state,.int .i64 old.stamp,.int .i64 old.thread,.bool old.doomed,.int .i64 old.who] 115)).alloc (.cells #[.int .i64 new.gen,.int .i64 new.state,.int .i64 new.stamp,.int .i64 new.thread,.bool new.doomed,.int .i64 new.who] 115)).alloc (.cells #[.int .i64 0,.int .i64 0,.int .i64 0,.int .i64 0,.bool false,.int .i64 0] 115)).alloc (.cells #[.int .i64 0,.int .i64 0,.int .i64 0,.int .i64 0,.bool false,.int .i64 0] 115)).cell? ⟨r,2,none⟩ = some (.slice (some ⟨b,0,none⟩) l.length l.length) := ((hr.keeps kw4 (by simp) (by simp)).blk.cell 2).trans rfl
 obtain ⟨q0,q1,q2,q3,q4,q5⟩ := (hr.keeps kw4 (by simp) (by simp)).cell hx
 have HR1 := Lib.hid (hr.keeps kwa (by simp) (by simp))
 have HM1 := Lib.hid (hm.keeps kwa (by simp))
 have KWA := Lib.hid kwa
 have HR := Lib.hid hr
 have HM := Lib.hid hm
 have HL := Lib.hid hl
 have HX := Lib.hid hx
 have hf := hr.fits
 have hki : (k : Int) < (l.length : Int) := by omega
 clear hr hm hl hx kwa kw4
 go_enter Tryz.func140,Tryz.ntmps140
 go_wp2
 clear a2 q0 q1 q2 q3 q4 q5
 rw [show ((((w.alloc (.cells #[.int .i64 old.gen,.int .i64 old.state,.int .i64 old.stamp,.int .i64 old.thread,.bool old.doomed,.int .i64 old.who] 115)).alloc (.cells #[.int .i64 new.gen,.int .i64 new.state,.int .i64 new.stamp,.int .i64 new.thread,.bool new.doomed,.int .i64 new.who] 115)).alloc (.cells #[.int .i64 0,.int .i64 0,.int .i64 0,.int .i64 0,.bool false,.int .i64 0] 115)).alloc (.cells #[.int .i64 0,.int .i64 0,.int .i64 0,.int .i64 0,.bool false,.int .i64 0] 115)).alloc (.cells #[.int .i64 x.gen,.int .i64 x.state,.int .i64 x.stamp,.int .i64 x.thread,.bool x.doomed,.int .i64 x.who] 115) = TW w old new x from rfl]
 have hsz : Hid (w.heap.size + 1 + 1 < (TW w old new x).heap.size) := by unfold Hid TW; simp <;> omega
 generalize TW w old new x = wa at *
 have HC := Lib.hid (show ∀ w',Keeps [] wa w' → w'.cell? ⟨r,0,none⟩ = some (PM mp) ∧ w'.cell? ⟨r,1,none⟩ = some (.int .i64 kind) ∧ rd w' w.heap.size = some old ∧ rd w' (w.heap.size + 1 + 1 + 1 + 1) = some x from fun w' hk' => ⟨((HR1.out.blk.keeps hk' (by simp)).cell 0).trans rfl,((HR1.out.blk.keeps hk' (by simp)).cell 1).trans rfl,rd_keeps bT.out.1 hk' (by simp),rd_keeps bT.out.2.2.2 hk' (by simp)⟩)
 obtain ⟨i0,i1,i2,i3⟩ := HC.out wa Sq.r
 go_region_held3 (fun w' => w'.cell? ⟨r,0,none⟩ = some (PM mp) ∧ w'.cell? ⟨r,1,none⟩ = some (.int .i64 kind) ∧ rd w' w.heap.size = some old ∧ rd w' (w.heap.size + 1 + 1 + 1 + 1) = some x) (first | exact HC.out _ Sq.r.drew | exact ⟨d0,d1,u0,u4⟩) ((go_at_call 142; refine (note_any _ mp lb s HM1.out.drew _ _ _ _ HL.out).mono ?_; rintro e w1 ⟨rfl,hn1⟩; have hr1 := HR1.out.noted (HR1.out.foot ty HM1.out) hn1.undrew; have d0 : w1.cell? ⟨r,0,none⟩ = some (PM mp) := (hr1.blk.cell 0).trans rfl; have d1 : w1.cell? ⟨r,1,none⟩ = some (.int .i64 kind) := (hr1.blk.cell 1).trans rfl; have u0 := rd_noted HM.out hn1.undrew bT.out.1 (Nat.le_refl _); have u4 := rd_noted HM.out hn1.undrew bT.out.2.2.2 (by omega); have HR2 := Lib.hid hr1; have HN := Lib.hid hn1.undrew; clear hn1 hr1))
 have U1 := Lib.hid (rd_noted HM.out HN.out bT.out.2.1 (by omega))
 have U2 := Lib.hid (rd_noted HM.out HN.out bT.out.2.2.1 (by omega))
 have U0 := Lib.hid u0
 have U4 := Lib.hid u4
 clear i0 i1 i2 i3 d0 d1
 go_wp2
 have u2 := U2.out
 have hlt := Lib.hid (rd_lt u2)
 go_region
 go_wp2
 show bodyPost _ _ _ _ _ ((put6 w1 (w.heap.size + 1 + 1) x).drew)
 have v2 := rd_keeps (rd_put6 w1 (w.heap.size + 1 + 1) x _ u2) ((Keeps.refl [] _).drew) (by simp)
 have hkz : Keeps [(w.heap.size + 1 + 1)] w1 ((put6 w1 (w.heap.size + 1 + 1) x).drew) := (put6_keeps _ _ _).drew
 generalize (put6 w1 (w.heap.size + 1 + 1) x).drew = w3 at *
 refine bodyPost_ret (v := .tuple #[.agg #[.int .i64 x.gen,.int .i64 x.state,.int .i64 x.stamp,.int .i64 x.thread,.bool x.doomed,.int .i64 x.who],.bool false,.int .i64 0]) (by simp [results,Tryz.results140,go_sem,v2]) rfl ⟨rfl,?_⟩
 exact Left.post HR.out HM.out KWA.out (left_noted ty HR1.out HM1.out HN.out) (S := [(w.heap.size + 1 + 1)]) (fun z hz => by simp at hz; subst hz; exact ⟨by omega,hsz.out⟩) hkz
set_option maxHeartbeats 4000000 in
theorem trade_yes (w : World) (r b : Nat) (kind : Int) (mp : Option Nat) (l : List Hd) (hr : At R w r b kind mp l) (lb : Nat) (s : MS) (hm : MetAt MT w mp lb s) (hl : Room mp s)
 (k : Nat) (x new : Hd) (hx : l[k]? = some x) :
 Calls Tryz.prog 140 #[.pointer (some ⟨r,0,none⟩),.int .i64 k,.agg #[.int .i64 x.gen,.int .i64 x.state,.int .i64 x.stamp,.int .i64 x.thread,.bool x.doomed,.int .i64 x.who],.agg #[.int .i64 new.gen,.int .i64 new.state,.int .i64 new.stamp,.int .i64 new.thread,.bool new.doomed,.int .i64 new.who]] w fun e w' =>
  e = .returned (.tuple #[.agg #[.int .i64 x.gen,.int .i64 x.state,.int .i64 x.stamp,.int .i64 x.thread,.bool x.doomed,.int .i64 x.who],.bool true,.int .i64 0]) ∧ Left R MT r b kind mp (l.set k new) lb (s.note kind k 3 true) w w' := by
 have hk : k < l.length := (List.getElem?_eq_some_iff.1 hx).1
 have he : ∀ w,(Op.equalIn 10000 115 (.agg #[.int .i64 x.gen,.int .i64 x.state,.int .i64 x.stamp,.int .i64 x.thread,.bool x.doomed,.int .i64 x.who]) (.agg #[.int .i64 x.gen,.int .i64 x.state,.int .i64 x.stamp,.int .i64 x.thread,.bool x.doomed,.int .i64 x.who])).run Tryz.prog w = .ok true w := fun w => by rw [eq_run,decide_eq_true rfl]
 have kw4 : Keeps [] w ((((w.alloc (.cells #[.int .i64 x.gen,.int .i64 x.state,.int .i64 x.stamp,.int .i64 x.thread,.bool x.doomed,.int .i64 x.who] 115)).alloc (.cells #[.int .i64 new.gen,.int .i64 new.state,.int .i64 new.stamp,.int .i64 new.thread,.bool new.doomed,.int .i64 new.who] 115)).alloc (.cells #[.int .i64 0,.int .i64 0,.int .i64 0,.int .i64 0,.bool false,.int .i64 0] 115)).alloc (.cells #[.int .i64 0,.int .i64 0,.int .i64 0,.int .i64 0,.bool false,.int .i64 0] 115)) := ((((Keeps.refl [] w).alloc _).alloc _).alloc _).alloc _
 have kwa : Keeps [] w (TW w x new x) := kw4.alloc _
 have bT := Lib.hid (TW.rds w x new x)
 have a2 : ((((w.alloc (.cells #[.int .i64 x.gen,.int .i64 x.state,.int .i64 x.stamp,.int .i64 x.thread,.bool x.doomed,.int .i64 x.who] 115)).alloc (.cells #[.int .i64 new.gen,.int .i64 new.state,.int .i64 new.stamp,.int .i64 new.thread,.bool new.doomed,.int .i64 new.who] 115)).alloc (.cells #[.int .i64 0,.int .i64 0,.int .i64 0,.int .i64 0,.bool false,.int .i64 0] 115)).alloc (.cells #[.int .i64 0,.int .i64 0,.int .i64 0,.int .i64 0,.bool false,.int .i64 0] 115)).cell? ⟨r,2,none⟩ = some (.slice (some ⟨b,0,none⟩) l.length l.length) := ((hr.keeps kw4 (by simp) (by simp)).blk.cell 2).trans rfl
 obtain ⟨q0,q1,q2,q3,q4,q5⟩ := (hr.keeps kw4 (by simp) (by simp)).cell hx
 have HR1 := Lib.hid (hr.keeps kwa (by simp) (by simp))
 have HM1 := Lib.hid (hm.keeps kwa (by simp))
 have KWA := Lib.hid kwa
 have HR := Lib.hid hr
 have HM := Lib.hid hm
 have HL := Lib.hid hl
 have HX := Lib.hid hx
 have hf := hr.fits
 have hki : (k : Int) < (l.length : Int) := by omega
 clear hr hm hl hx kwa kw4
 go_enter Tryz.func140,Tryz.ntmps140
 go_wp2
 clear a2 q0 q1 q2 q3 q4 q5
 rw [show ((((w.alloc (.cells #[.int .i64 x.gen,.int .i64 x.state,.int .i64 x.stamp,.int .i64 x.thread,.bool x.doomed,.int .i64 x.who] 115)).alloc (.cells #[.int .i64 new.gen,.int .i64 new.state,.int .i64 new.stamp,.int .i64 new.thread,.bool new.doomed,.int .i64 new.who] 115)).alloc (.cells #[.int .i64 0,.int .i64 0,.int .i64 0,.int .i64 0,.bool false,.int .i64 0] 115)).alloc (.cells #[.int .i64 0,.int .i64 0,.int .i64 0,.int .i64 0,.bool false,.int .i64 0] 115)).alloc (.cells #[.int .i64 x.gen,.int .i64 x.state,.int .i64 x.stamp,.int .i64 x.thread,.bool x.doomed,.int .i64 x.who] 115) = TW w x new x from rfl]
 have hsz : Hid (w.heap.size + 1 + 1 < (TW w x new x).heap.size) := by unfold Hid TW; simp <;> omega
 generalize TW w x new x = wa at *
 have HC := Lib.hid (show ∀ w',Keeps [] wa w' → w'.cell? ⟨r,0,none⟩ = some (PM mp) ∧ w'.cell? ⟨r,1,none⟩ = some (.int .i64 kind) ∧ rd w' w.heap.size = some x ∧ rd w' (w.heap.size + 1 + 1 + 1 + 1) = some x from fun w' hk' => ⟨((HR1.out.blk.keeps hk' (by simp)).cell 0).trans rfl,((HR1.out.blk.keeps hk' (by simp)).cell 1).trans rfl,rd_keeps bT.out.1 hk' (by simp),rd_keeps bT.out.2.2.2 hk' (by simp)⟩)
 obtain ⟨i0,i1,i2,i3⟩ := HC.out wa Sq.r
 go_region_held3 (fun w' => w'.cell? ⟨r,0,none⟩ = some (PM mp) ∧ w'.cell? ⟨r,1,none⟩ = some (.int .i64 kind) ∧ rd w' w.heap.size = some x ∧ rd w' (w.heap.size + 1 + 1 + 1 + 1) = some x) (first | exact HC.out _ Sq.r.drew | exact ⟨d0,d1,u0,u4⟩) ((go_at_call 142; refine (note_any _ mp lb s HM1.out.drew _ _ _ _ HL.out).mono ?_; rintro e w1 ⟨rfl,hn1⟩; have hr1 := HR1.out.noted (HR1.out.foot ty HM1.out) hn1.undrew; have d0 : w1.cell? ⟨r,0,none⟩ = some (PM mp) := (hr1.blk.cell 0).trans rfl; have d1 : w1.cell? ⟨r,1,none⟩ = some (.int .i64 kind) := (hr1.blk.cell 1).trans rfl; have u0 := rd_noted HM.out hn1.undrew bT.out.1 (Nat.le_refl _); have u4 := rd_noted HM.out hn1.undrew bT.out.2.2.2 (by omega); have HR2 := Lib.hid hr1; have HN := Lib.hid hn1.undrew; clear hn1 hr1))
 have U1 := Lib.hid (rd_noted HM.out HN.out bT.out.2.1 (by omega))
 have U2 := Lib.hid (rd_noted HM.out HN.out bT.out.2.2.1 (by omega))
 have U0 := Lib.hid u0
 have U4 := Lib.hid u4
 clear i0 i1 i2 i3 d0 d1
 go_wp2
 have hrb : r ≠ b := HR2.out.blk.ne_ HR2.out.row ty.re
 have hb1 : (w.heap.size + 1) ≠ b := by have := HR.out.row.lt; omega
 clear u0 u4
 clear HC
 obtain ⟨q0,q1,q2,q3,q4,q5⟩ := HR2.out.cell HX.out
 have f0 := HR2.out.row.frozen (k * 6)
 have f1 := HR2.out.row.frozen (k * 6 + 1)
 have f2 := HR2.out.row.frozen (k * 6 + 2)
 have f3 := HR2.out.row.frozen (k * 6 + 3)
 have f4 := HR2.out.row.frozen (k * 6 + 4)
 have f5 := HR2.out.row.frozen (k * 6 + 5)
 have i0 : w1.cell? ⟨r,2,none⟩ = some (.slice (some ⟨b,0,none⟩) l.length l.length) := (HR2.out.blk.cell 2).trans rfl
 have u1 := U1.out
 go_region
 clear i0 u1 q0 q1 q2 q3 q4 q5 f0 f1 f2 f3 f4 f5
 have hb0 : w.heap.size ≠ b := by have := HR.out.row.lt; omega
 have hb2 : (w.heap.size + 1 + 1) ≠ b := by have := HR.out.row.lt; omega
 have hb4 : (w.heap.size + 1 + 1 + 1 + 1) ≠ b := by have := HR.out.row.lt; omega
 have hkb : Keeps [b] w1 (((((((w1.setCell ⟨b,k * 6,none⟩ (.int .i64 new.gen)).setCell ⟨b,k * 6 + 1,none⟩ (.int .i64 new.state)).setCell ⟨b,k * 6 + 2,none⟩ (.int .i64 new.stamp)).setCell ⟨b,k * 6 + 3,none⟩ (.int .i64 new.thread)).setCell ⟨b,k * 6 + 4,none⟩ (.bool new.doomed)).setCell ⟨b,k * 6 + 5,none⟩ (.int .i64 new.who)).drew) := ((((((Sq.r.setCell (.inl (by simp)) _).setCell (.inl (by simp)) _).setCell (.inl (by simp)) _).setCell (.inl (by simp)) _).setCell (.inl (by simp)) _).setCell (.inl (by simp)) _).drew
 have HLS := Lib.hid ((left_set ty HR1.out HM1.out HN.out k new).keeps ty Sq.r.drew)
 have u0 := rd_keeps U0.out hkb (by simpa using hb0)
 have u2 := rd_keeps U2.out hkb (by simpa using hb2)
 have u4 := rd_keeps U4.out hkb (by simpa using hb4)
 clear hkb
 have hlt := Lib.hid (rd_lt u2)
 generalize ((((((w1.setCell ⟨b,k * 6,none⟩ (.int .i64 new.gen)).setCell ⟨b,k * 6 + 1,none⟩ (.int .i64 new.state)).setCell ⟨b,k * 6 + 2,none⟩ (.int .i64 new.stamp)).setCell ⟨b,k * 6 + 3,none⟩ (.int .i64 new.thread)).setCell ⟨b,k * 6 + 4,none⟩ (.bool new.doomed)).setCell ⟨b,k * 6 + 5,none⟩ (.int .i64 new.who)).drew = w2 at *
 go_wp2
 go_region
 go_wp2
 show bodyPost _ _ _ _ _ ((put6 w2 (w.heap.size + 1 + 1) x).drew)
 have v2 := rd_keeps (rd_put6 w2 (w.heap.size + 1 + 1) x _ u2) ((Keeps.refl [] _).drew) (by simp)
 have hkz : Keeps [(w.heap.size + 1 + 1)] w2 ((put6 w2 (w.heap.size + 1 + 1) x).drew) := (put6_keeps _ _ _).drew
 generalize (put6 w2 (w.heap.size + 1 + 1) x).drew = w3 at *
 refine bodyPost_ret (v := .tuple #[.agg #[.int .i64 x.gen,.int .i64 x.state,.int .i64 x.stamp,.int .i64 x.thread,.bool x.doomed,.int .i64 x.who],.bool true,.int .i64 0]) (by simp [results,Tryz.results140,go_sem,v2]) rfl ⟨rfl,?_⟩
 exact Left.post HR.out HM.out KWA.out HLS.out (S := [(w.heap.size + 1 + 1)]) (fun z hz => by simp at hz; subst hz; exact ⟨by omega,hsz.out⟩) hkz
end RowH
end Go.Proofs.YtmlnedilbneekaaGreat