/- The document's meter (quashref01): Begin, Note. -/
import Derived.Test.YtmlnedilbneekaaGreatMeter
import Derived.Deep.AppendLies
import Derived.Deep.RegionLaw
import Derived.Deep.DeepCutAuto
import Derived.BigRegion
import Derived.Outline
import Derived.Handy
import Derived.Deep.DrawnRows
import Derived.Test.YtmlnedilbneekaaGreatRowIb
import Derived.Test.YtmlnedilbneekaaGreatMake
import Derived.Deep.RegionHeld3
import Derived.Test.YtmlnedilbneekaaGreatSigTouched
import Derived.BigQuiet
import Derived.Deep.QuietTactic
import Derived.RegionTactic
set_option linter.unusedVariables false
set_option linter.unusedSimpArgs false
namespace Go.Proofs.YtmlnedilbneekaaGreat
namespace RefM
open Go.RowKit
attribute [local go_sem ↓] Go.wp_at_zero Go.wp_at_succ
theorem note_close {T : TypeId} {w W0 w1 : World} {g lb g1 cap : Nat} {s : MS} {v : Value} {o : Obj} {k p q : Int} {b : Bool} (hneT : 216 ≠ T)
 (hc : (v.ownBlock = none ∧ lb = g) ∨ v.ownBlock = some lb) (k0 : Keeps [g] w W0)
 (hat : v.ownBlock = some g1 ∨ g1 = (W0.alloc o).drew.heap.size)
 (hb1 : Blk w1 g T #[.int .i64 s.steps,.int .i64 s.thread,.int .i64 (wrap64 (s.done + 1)),.int .i64 (imax s.most (wrap64 (s.done + 1))),v])
 (ho1 : w1.ownsRow 0 216 6 (.slice (some ⟨g1,0,none⟩) (s.log.length + 1) cap) (s.log.length + 1) (logCells s.log ++ Acc.cells ⟨s.steps,s.thread,k,p,q,b⟩))
 (hg : (W0.alloc o).drew.grownBy w1 v.ownBlock) :
 Noted T (some g) lb (s.note k p q b) w (w1.setCell ⟨g,4,none⟩ (.slice (some ⟨g1,0,none⟩) (s.log.length + 1) cap)) := by
 have hne1 : g ≠ g1 := fun e => own_blk_ne ho1 hb1 hneT (by simp [Value.ownBlock,e])
 refine ⟨g1,⟨.slice (some ⟨g1,0,none⟩) (s.log.length + 1) cap,?_,?_,.inr rfl⟩,?_,?_⟩
 · have := hb1.set_ 4 (.slice (some ⟨g1,0,none⟩) (s.log.length + 1) cap)
   simpa [MS.note] using this
 · have := own_keeps ho1 (S := [g]) ((Keeps.refl [g] w1).setCell (p := ⟨g,4,none⟩) (.inl (by simp)) (.slice (some ⟨g1,0,none⟩) (s.log.length + 1) cap)) (by simp [Value.ownBlock,Ne.symm hne1])
   simpa [MS.note,logCells_snoc] using this
 · have k1 : Keeps [g,lb] w (W0.alloc o).drew := ((k0.mono (by simp)).alloc _).drew
   refine (k1.grown hg (fun q hq => .inl ?_)).setCell (.inl (by simp)) _
   rcases hc with ⟨hc,_⟩ | hc
   · rw [hc] at hq; cases hq
   · rw [hc] at hq; injection hq with hq; subst hq; simp
 ·
  rcases hat with h | h
  · rcases hc with ⟨hc,_⟩ | hc
    · rw [hc] at h; cases h
    · rw [hc] at h; injection h with h; exact .inl h.symm
  · have := k0.size
    refine .inr ?_
    rw [h]
    simp only [World.size_drew,World.size_alloc]
    omega
theorem begin_any (w : World) (g lb : Nat) (s : MS) (hm : MetAt XT w (some g) lb s) (t : Int) :
 Calls Tryz.prog 14 #[PM (some g),.int .i64 t] w fun e w' => e = .returned (.tuple #[]) ∧ MetAt XT w' (some g) lb (s.begin t) ∧ Keeps [g,lb] w w' := by
 obtain ⟨v,hb,hown,hloc⟩ := hm
 have c0 : w.cell? ⟨g,0,none⟩ = some (.int .i64 s.steps) := (hb.cell 0).trans rfl
 have c1 : w.cell? ⟨g,1,none⟩ = some (.int .i64 s.thread) := (hb.cell 1).trans rfl
 have c2 : w.cell? ⟨g,2,none⟩ = some (.int .i64 s.done) := (hb.cell 2).trans rfl
 have f0 := hb.frozen 0
 have f1 := hb.frozen 1
 have f2 := hb.frozen 2
 have HB := Lib.hid hb
 have HO := Lib.hid hown
 have HC := Lib.hid hloc
 clear hb hown hloc
 show Calls _ _ #[.pointer (some ⟨g,0,none⟩),.int .i64 t] _ _
 go_enter Tryz.func14,Tryz.ntmps14
 go_wp2
 go_end0
 have k0 : Keeps [g] w (((w.setCell ⟨g,0,none⟩ (.int .i64 (wrap64 (s.steps + 1)))).setCell ⟨g,1,none⟩ (.int .i64 t)).setCell ⟨g,2,none⟩ (.int .i64 0)) := ((Sq.r.setCell (.inl (by simp)) _).setCell (.inl (by simp)) _).setCell (.inl (by simp)) _
 refine ⟨rfl,⟨v,?_,?_,HC.out⟩,k0.mono (by simp)⟩
 · simpa [MS.begin] using ((HB.out.set_ 0 (.int .i64 (wrap64 (s.steps + 1)))).set_ 1 (.int .i64 t)).set_ 2 (.int .i64 0)
 · exact own_keeps HO.out k0 (fun q hq hq' => by simp at hq'; subst hq'; exact own_blk_ne HO.out HB.out (by decide) hq)
def Upto (w : World) (g : Nat) (s : MS) (v : Value) (wx : World) : Prop :=
 Blk wx g XT #[.int .i64 s.steps,.int .i64 s.thread,.int .i64 (wrap64 (s.done + 1)),.int .i64 (imax s.most (wrap64 (s.done + 1))),v] ∧ Keeps [g] w wx
set_option maxHeartbeats 2000000 in
theorem note_any (w : World) (g lb : Nat) (s : MS) (hm : MetAt XT w (some g) lb s) (k p o : Int) (b : Bool) (hl : s.log.length < 2199023255552) :
 Calls Tryz.prog 153 #[PM (some g),.int .i64 k,.int .i64 p,.int .i64 o,.bool b] w fun e w' =>
  e = .returned (.tuple #[]) ∧ Noted XT (some g) lb (s.note k p o b) w w' := by
 obtain ⟨v,hb,hown,hloc⟩ := hm
 have c0 : w.cell? ⟨g,0,none⟩ = some (.int .i64 s.steps) := (hb.cell 0).trans rfl
 have c1 : w.cell? ⟨g,1,none⟩ = some (.int .i64 s.thread) := (hb.cell 1).trans rfl
 have c2 : w.cell? ⟨g,2,none⟩ = some (.int .i64 s.done) := (hb.cell 2).trans rfl
 have c3 : w.cell? ⟨g,3,none⟩ = some (.int .i64 s.most) := (hb.cell 3).trans rfl
 have f2 := hb.frozen 2
 have f3 := hb.frozen 3
 have HL := Lib.hid hl
 have HB := Lib.hid hb
 have HO := Lib.hid hown
 have HC := Lib.hid hloc
 clear hl hb hown hloc
 show Calls _ _ #[.pointer (some ⟨g,0,none⟩),.int .i64 k,.int .i64 p,.int .i64 o,.bool b] _ _
 go_enter Tryz.func153,Tryz.ntmps153
 go_wp2_with fail
 go_region
 go_upto_if 26 with fail
 go_cut [] (fun wx => Upto w g s v wx)
 case first =>
  go_wp2_with fail
  all_goals go_meet
  all_goals have k0 : Keeps [g] w (w.setCell ⟨g,2,none⟩ (.int .i64 (wrap64 (s.done + 1)))).drew := (Sq.r.setCell (.inl (by simp)) _).drew
  · have e : imax s.most (wrap64 (s.done + 1)) = wrap64 (s.done + 1) := if_pos (by assumption)
    refine ⟨?_,((Sq.r.setCell (.inl (by simp)) _).setCell (.inl (by simp)) _).drew⟩
    rw [e]
    simpa using ((HB.out.set_ 2 (.int .i64 (wrap64 (s.done + 1)))).set_ 3 (.int .i64 (wrap64 (s.done + 1)))).drew
  · have e : imax s.most (wrap64 (s.done + 1)) = s.most := if_neg (by omega)
    refine ⟨?_,k0⟩
    rw [e]
    simpa using (HB.out.set_ 2 (.int .i64 (wrap64 (s.done + 1)))).drew
 case rest =>
  obtain ⟨hbc,hkc⟩ := hcut
  have hoc : wc.ownsRow 0 216 6 v s.log.length (logCells s.log) := own_keeps HO.out hkc (fun q hq hq' => by simp at hq'; subst hq'; exact own_blk_ne HO.out HB.out (by decide) hq)
  clear c0 c1 c2 c3 f2 f3
  have d0 : wc.cell? ⟨g,0,none⟩ = some (.int .i64 s.steps) := (hbc.cell 0).trans rfl
  have d1 : wc.cell? ⟨g,1,none⟩ = some (.int .i64 s.thread) := (hbc.cell 1).trans rfl
  have d4 : wc.cell? ⟨g,4,none⟩ = some v := (hbc.cell 4).trans rfl
  have hglt := hbc.lt
  have HBC := Lib.hid hbc
  have HKC := Lib.hid hkc
  have HOC := Lib.hid hoc
  clear hbc hkc hoc
  obtain ⟨i0,hi,hz0,hz1,hz2⟩ := info_parts Tryz.infoAcc
  have HMX : Hid (s.log.length + 1 ≤ maxLen) := by have := HL.out; unfold Hid maxLen; omega
  have HBY : Hid ((s.log.length + 1) * 48 ≤ 140737488355328) := by have := HL.out; unfold Hid; omega
  have hne : Hid ((216 : TypeId) ≠ XT) := by unfold Hid; decide
  go_wp2_with fail
  go_region_law (refine step_append_lies _ rfl (.tmp 38) (.tmp 52) 93 rfl 0 216 i0 _ 6 48 Tryz.underlying93 hi hz0 hz1 hz2 rfl (by decide) v s.log.length (logCells s.log) rfl (HOC.out.alloc _) ⟨wc.heap.size,0,none⟩ 1 1 (Acc.cells ⟨s.steps,s.thread,k,p,o,b⟩) rfl rfl (by exact World.news_of_block (new_at _ _ _ rfl)) (by simp [Acc.cells,Value.oneCell']) (by decide) HMX.out HBY.out (Nat.zero_le _) _ rfl ?_; intro g1 cap w1 hown1 hgrow1 hat1 hlt1; have hb1 := (HBC.out.alloc _).drew.grown hgrow1 (fun e => own_blk_ne HOC.out HBC.out hne.out e.symm); have x4 : w1.cell? ⟨g,4,none⟩ = some v := (hb1.cell 4).trans rfl; have e4 := hb1.frozen 4; have HB1 := Lib.hid hb1; clear hb1)
  all_goals
   go_wp2_with fail
   go_end0
   refine ⟨rfl,note_close hne.out HC.out HKC.out hat1 HB1.out hown1 hgrow1⟩
end RefM
namespace RefI
open Go.RowKit RowI
attribute [local go_sem ↓] Go.wp_at_zero Go.wp_at_succ
abbrev R : TypeId := 209
theorem ty : Ty R XT := ⟨by decide,by decide,by decide,by decide,by decide⟩
theorem Tryz.infoI : (Tryz.prog.info? 2).map (fun i => (i.zero,i.size,i.bytes)) = some (some (.int .i64 0),1,8) := by kernel_rfl
theorem new_ok (w : World) (g : Nat) (kind : Int) (n : Nat) (h1 : 1 ≤ n) (h2 : n ≤ 4096) :
 Calls Tryz.prog 46 #[PM (some g),.int .i64 kind,.int .i64 n] w fun e w' =>
  e = .returned (.pointer (some ⟨w.heap.size + 1,0,none⟩)) ∧ At R w' (w.heap.size + 1) w.heap.size kind (some g) (List.replicate n 0) ∧ Keeps [] w w' ∧ w'.heap.size = w.heap.size + 2 := by
 obtain ⟨i0,hi,hz0,hz1,hz2⟩ := info_parts RefI.Tryz.infoI
 have hmk : ∀ w : World,(Instr.makeSlice 144 (.int .i64 (n : Int)) (.int .i64 (n : Int))).run Tryz.prog w = .ok (.slice (some ⟨w.heap.size,0,none⟩) n n) (w.alloc (.cells ((List.replicate n 0).flatMap cells).toArray 2)) := fun w => by
  have := run_make (P := Tryz.prog) w 144 2 i0 _ Tryz.underlying144 hi hz0 .i64 .i64 n n (by omega) (Int.le_refl _) (by rw [hz2]; omega) (by omega)
  simp only [Int.toNat_natCast] at this
  rw [this,hz1,madeCells_rep cells 1 (by decide) (fun _ => rfl) 0 n (z := (Value.int .i64 0).cells) rfl]
 clear hi hz0 hz1 hz2
 show Calls _ _ #[.pointer (some ⟨g,0,none⟩),.int .i64 kind,.int .i64 n] _ _
 go_enter Tryz.func46,Tryz.ntmps46
 go_wp2
 go_ret
 exact ⟨rfl,⟨by have h := new_at (w.alloc (.cells ((List.replicate n 0).flatMap cells).toArray 2)) (.cells #[.pointer (some ⟨g,0,none⟩),.int .i64 kind,.slice (some ⟨w.heap.size,0,none⟩) n n] R) (w.heap.size + 1) (by simp); simpa [Blk,PM] using h,(Blk.new _ _ _).alloc _,by simpa using h2⟩,by simp,by simp⟩
theorem note_row (w : World) (r b : Nat) (kind : Int) (g : Nat) (l : List Int) (hr : At R w r b kind (some g) l) (lb : Nat) (s : MS) (hm : MetAt XT w (some g) lb s) (hl : Room (some g) s)
 (i o : Int) (y : Bool) :
 Calls Tryz.prog 132 #[.pointer (some ⟨r,0,none⟩),.int .i64 i,.int .i64 o,.bool y] w fun e w' => e = .returned (.tuple #[]) ∧ Noted XT (some g) lb (s.note kind i o y) w w' := by
 have c0 : w.cell? ⟨r,0,none⟩ = some (.pointer (some ⟨g,0,none⟩)) := (hr.blk.cell 0).trans rfl
 have c1 : w.cell? ⟨r,1,none⟩ = some (.int .i64 kind) := (hr.blk.cell 1).trans rfl
 have HR := Lib.hid hr
 have HM := Lib.hid hm
 have HL := Lib.hid hl
 clear hr hm hl
 go_enter Tryz.func132,Tryz.ntmps132
 go_wp2
 go_region_held3 (fun w' => w'.cell? ⟨r,0,none⟩ = some (.pointer (some ⟨g,0,none⟩)) ∧ w'.cell? ⟨r,1,none⟩ = some (.int .i64 kind)) (first | exact ⟨d0,d1⟩ | go_keep) ((go_at_call 153; refine (RefM.note_any _ g lb s HM.out.drew _ _ _ _ (HL.out (by simp))).mono ?_; rintro e w1 ⟨rfl,hn1⟩; have hr1 := HR.out.noted (HR.out.foot ty HM.out) hn1.undrew; have d0 : w1.cell? ⟨r,0,none⟩ = some (.pointer (some ⟨g,0,none⟩)) := (hr1.blk.cell 0).trans rfl; have d1 : w1.cell? ⟨r,1,none⟩ = some (.int .i64 kind) := (hr1.blk.cell 1).trans rfl; have HN := Lib.hid hn1.undrew; clear hn1 hr1))
 go_wp2
 go_end0
 exact ⟨rfl,HN.out⟩
theorem there_yes (w : World) (r b : Nat) (k n : Nat) (hk : k < n) (hn : n ≤ 4096) (c2 : w.cell? ⟨r,2,none⟩ = some (.slice (some ⟨b,0,none⟩) n n)) :
 Calls Tryz.prog 131 #[.pointer (some ⟨r,0,none⟩),.int .i64 k] w fun e w' => e = .returned (.bool true) ∧ w = w' := by
 have hki : (k : Int) < (n : Int) := by omega
 go_enter Tryz.func131,Tryz.ntmps131
 go_wp2
 go_ret
 exact ⟨rfl,rfl⟩
theorem store_at (w : World) (r b : Nat) (kind : Int) (g : Nat) (l : List Int) (hr : At R w r b kind (some g) l) (lb : Nat) (s : MS) (hm : MetAt XT w (some g) lb s) (hl : Room (some g) s)
 (k : Nat) (x y : Int) (hx : l[k]? = some x) :
 Calls Tryz.prog 81 #[.pointer (some ⟨r,0,none⟩),.int .i64 k,.int .i64 y] w fun e w' =>
  e = .returned (.int .i64 0) ∧ RowI.Left R XT r b kind (some g) (l.set k y) lb (s.note kind k 2 true) w w' := by
 have hk : k < l.length := (List.getElem?_eq_some_iff.1 hx).1
 have c2 : w.cell? ⟨r,2,none⟩ = some (.slice (some ⟨b,0,none⟩) l.length l.length) := (hr.blk.cell 2).trans rfl
 have c3 : w.cell? ⟨b,k,none⟩ = some (.int .i64 x) := hr.cell hx
 have HR := Lib.hid hr
 have HM := Lib.hid hm
 have HL := Lib.hid hl
 have HX := Lib.hid hx
 have hf := hr.fits
 have hki : (k : Int) < (l.length : Int) := by omega
 clear hr hm hl hx
 go_enter Tryz.func81,Tryz.ntmps81
 go_wp2_with (first | (go_at_call 131; refine (there_yes _ r b k l.length hk hf c2).mono ?_; rintro e w0 ⟨rfl,rfl⟩) | (go_at_call 132; refine (note_row _ r b kind g l HR.out lb s HM.out HL.out _ _ _).mono ?_; rintro e w1 ⟨rfl,hn1⟩; have hr1 := HR.out.noted (HR.out.foot ty HM.out) hn1; have d2 : w1.cell? ⟨r,2,none⟩ = some (.slice (some ⟨b,0,none⟩) l.length l.length) := (hr1.blk.cell 2).trans rfl; have d3 : w1.cell? ⟨b,k,none⟩ = some (.int .i64 x) := hr1.cell HX.out; have e3 : w1.frozen? ⟨b,k,none⟩ = false := hr1.row.frozen k; have HN := Lib.hid hn1; clear hn1 hr1))
 go_ret
 exact ⟨rfl,left_set ty HR.out HM.out HN.out k y⟩
theorem store_no (w : World) (r b : Nat) (kind : Int) (mp : Option Nat) (l : List Int) (hr : At R w r b kind mp l) (i x : Int) (hi : i < 0 ∨ (l.length : Int) ≤ i) :
 Calls Tryz.prog 81 #[.pointer (some ⟨r,0,none⟩),.int .i64 i,.int .i64 x] w fun e w' => e = .returned (.int .i64 2) ∧ w = w' := by
 have c2 : w.cell? ⟨r,2,none⟩ = some (.slice (some ⟨b,0,none⟩) l.length l.length) := (hr.blk.cell 2).trans rfl
 have hf := hr.fits
 clear hr
 rcases hi with hi | hi
 · go_enter Tryz.func81,Tryz.ntmps81
   go_wp2
   go_ret
   exact ⟨rfl,rfl⟩
 ·
  by_cases h0 : 0 ≤ i
  · have hd : decide (i < (l.length : Int)) = false := by simp; omega
    go_enter Tryz.func81,Tryz.ntmps81
    go_wp2
    go_ret
    exact ⟨rfl,rfl⟩
  · omega
end RefI
namespace RefI
open Go.RowKit RowI
end RefI
end Go.Proofs.YtmlnedilbneekaaGreat