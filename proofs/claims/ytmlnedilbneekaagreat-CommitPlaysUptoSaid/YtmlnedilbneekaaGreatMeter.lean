/- The meter's other methods: NewMeter, Begin, Steps, Done, Most, Log. -/
import Derived.Test.YtmlnedilbneekaaGreatMake
import Derived.Test.YtmlnedilbneekaaGreatProg
import Derived.RegionTactic
import Derived.Deep.AppendLies
import Derived.Deep.RegionLaw
import Derived.BigRegion
import Derived.Outline
import Derived.Handy
import Derived.Deep.DrawnRows
import Derived.Maps.AppendAt
import Derived.Deep.AppendSrc
namespace Go.Proofs.YtmlnedilbneekaaGreat
open Go.RowKit
set_option linter.unusedVariables false
structure Acc where
 step : Int
 thread : Int
 kind : Int
 place : Int
 op : Int
 ok : Bool
def Acc.cells (x : Acc) : List Value := [.int .i64 x.step,.int .i64 x.thread,.int .i64 x.kind,.int .i64 x.place,.int .i64 x.op,.bool x.ok]
structure MS where
 steps : Int
 thread : Int
 done : Int
 most : Int
 log : List Acc
def MS.zero : MS := ⟨0,0,0,0,[]⟩
def MS.begin (s : MS) (t : Int) : MS := { s with steps := wrap64 (s.steps + 1),thread := t,done := 0 }
def imax (a b : Int) : Int := if a < b then b else a
theorem imax_eq (a b : Int) : (if a < b then b else a) = imax a b := rfl
def MS.note (s : MS) (k p o : Int) (b : Bool) : MS := { s with done := wrap64 (s.done + 1),most := imax s.most (wrap64 (s.done + 1)),log := s.log ++ [⟨s.steps,s.thread,k,p,o,b⟩] }
def logCells (l : List Acc) : List Value := l.flatMap Acc.cells
theorem logCells_snoc (l : List Acc) (x : Acc) : logCells (l ++ [x]) = logCells l ++ x.cells := by simp [logCells]
theorem logCells_length (l : List Acc) : (logCells l).length = l.length * 6 := by
 induction l with
 | nil => rfl
 | cons x l ih => simp only [logCells,List.flatMap_cons,List.length_append] at ih ⊢; simp [Acc.cells,ih]; omega
structure MeterAt (T : TypeId) (w : World) (g lb : Nat) (s : MS) (v : Value) : Prop where
 blk : Blk w g T #[.int .i64 s.steps,.int .i64 s.thread,.int .i64 s.done,.int .i64 s.most,v]
 own : w.ownsRow 0 216 6 v s.log.length (logCells s.log)
 loc : (v.ownBlock = none ∧ lb = g) ∨ v.ownBlock = some lb
theorem Tryz.infoAcc : (Tryz.prog.info? 216).map (fun i => (i.zero,i.size,i.bytes)) = some (some (.agg #[.int .i64 0,.int .i64 0,.int .i64 0,.int .i64 0,.int .i64 0,.bool false]),6,48) := by kernel_rfl
abbrev MT : TypeId := 172
abbrev XT : TypeId := 95
def PM (mp : Option Nat) : Value := .pointer (mp.map fun g => ⟨g,0,none⟩)
def MetAt (T : TypeId) (w : World) (mp : Option Nat) (lb : Nat) (s : MS) : Prop :=
 match mp with
 | none => True
 | some g => ∃ v,MeterAt T w g lb s v
def foot (mp : Option Nat) (lb : Nat) : List Nat :=
 match mp with
 | none => []
 | some g => [g,lb]
def Room (mp : Option Nat) (s : MS) : Prop := mp ≠ none → s.log.length < 2199023255552
theorem apart {T : TypeId} {w : World} {mp : Option Nat} {lb : Nat} {s : MS} (hm : MetAt T w mp lb s) {k : Nat} {t : TypeId} {cs : Array Value} (hb : Blk w k t cs) (h1 : t ≠ T) (h2 : t ≠ 216) : k ∉ foot mp lb := by
 cases mp with
 | none => simp [foot]
 | some g =>
   obtain ⟨v,hg,ho,hc⟩ := hm
   have e1 : k ≠ g := hb.ne_ hg h1
   have e2 : k ≠ lb := by
    rcases hc with ⟨_,hc⟩ | hc
    · rw [hc]; exact e1
    · intro e; exact own_blk_ne ho hb (Ne.symm h2) (by rw [hc,e])
   simp [foot,e1,e2]
theorem MeterAt.keeps {T : TypeId} {w w' : World} {S : List Nat} {g lb : Nat} {s : MS} {v : Value} (h : MeterAt T w g lb s v) (hk : Keeps S w w') (h1 : g ∉ S) (h2 : lb ∉ S) : MeterAt T w' g lb s v :=
 ⟨h.blk.keeps hk h1,own_keeps h.own hk (fun k hv => by
  rcases h.loc with ⟨h3,_⟩ | h3
  · rw [h3] at hv; cases hv
  · rw [h3] at hv; injection hv with hv; rw [← hv]; exact h2),h.loc⟩
theorem MetAt.keeps {T : TypeId} {w w' : World} {S : List Nat} {mp : Option Nat} {lb : Nat} {s : MS} (h : MetAt T w mp lb s) (hk : Keeps S w w') (h1 : ∀ k,k ∈ foot mp lb → k ∉ S) : MetAt T w' mp lb s := by
 cases mp with
 | none => trivial
 | some g =>
   obtain ⟨v,hv⟩ := h
   exact ⟨v,hv.keeps hk (h1 g (by simp [foot])) (h1 lb (by simp [foot]))⟩
theorem MetAt.drew {T : TypeId} {w : World} {mp : Option Nat} {lb : Nat} {s : MS} (h : MetAt T w mp lb s) : MetAt T w.drew mp lb s := h.keeps (S := []) Sq.r.drew (by simp)
def Noted (T : TypeId) (mp : Option Nat) (lb : Nat) (s : MS) (w w' : World) : Prop := ∃ lb',MetAt T w' mp lb' s ∧ Keeps (foot mp lb) w w' ∧ (lb' = lb ∨ w.heap.size ≤ lb')
theorem Noted.undrew {T : TypeId} {mp : Option Nat} {lb : Nat} {s : MS} {w w' : World} (h : Noted T mp lb s w.drew w') : Noted T mp lb s w w' := by
 obtain ⟨lb',h1,h2,h3⟩ := h
 exact ⟨lb',h1,h2.undrew,h3⟩
theorem foot_lt {T : TypeId} {w : World} {mp : Option Nat} {lb : Nat} {s : MS} (h : MetAt T w mp lb s) {k : Nat} (hk : k ∈ foot mp lb) : k < w.heap.size := by
 cases mp with
 | none => simp [foot] at hk
 | some g =>
   obtain ⟨v,hb,ho,hc⟩ := h
   simp only [foot,List.mem_cons,List.not_mem_nil,or_false] at hk
   rcases hk with rfl | rfl
   · exact hb.lt
   · rcases hc with ⟨_,rfl⟩ | hc
     · exact hb.lt
     · exact own_lt ho hc
open Go.RowKit
attribute [local go_sem ↓] Go.wp_at_zero Go.wp_at_succ
theorem after1 {w w1 : World} {g : Nat} {t e : TypeId} {cs : Array Value} {size n : Nat} {v a b : Value} {xs : List Value} {o : Obj} (hb : Blk w g t cs) (ho : w.ownsRow 0 e size v n xs) (hne : e ≠ t) {i j : Nat}
 (hg : (((w.setCell ⟨g,i,none⟩ a).setCell ⟨g,j,none⟩ b).alloc o).drew.drew.grownBy w1 v.ownBlock) :
 Blk w1 g t ((cs.setIfInBounds i a).setIfInBounds j b) := by
 have h1 := ((((hb.set_ i a).set_ j b).alloc o).drew.drew)
 exact h1.grown hg (fun e => own_blk_ne ho hb hne e.symm)
theorem own_after0 {w : World} {g : Nat} {t e : TypeId} {cs : Array Value} {size n : Nat} {v a b : Value} {xs : List Value} {o : Obj} (hb : Blk w g t cs) (ho : w.ownsRow 0 e size v n xs) (hne : e ≠ t) {i j : Nat} :
 (((w.setCell ⟨g,i,none⟩ a).setCell ⟨g,j,none⟩ b).alloc o).drew.drew.ownsRow 0 e size v n xs :=
 own_keeps ho (S := [g]) (((((Keeps.refl [g] w).setCell (by simp) _).setCell (by simp) _).alloc _).drew.drew) (fun q hq hq' => by simp at hq'; subst hq'; exact own_blk_ne ho hb hne hq)
theorem note_end {w w1 : World} {g lb g1 cap : Nat} {s : MS} {v x y : Value} {o : Obj} {k p q : Int} {b : Bool}
 (hb : Blk w g 172 #[.int .i64 s.steps,.int .i64 s.thread,.int .i64 s.done,.int .i64 s.most,v]) (ho : w.ownsRow 0 216 6 v s.log.length (logCells s.log)) (hne : (216 : TypeId) ≠ 172)
 (hc : (v.ownBlock = none ∧ lb = g) ∨ v.ownBlock = some lb) (hlt : g1 < w1.heap.size) (hat : v.ownBlock = some g1 ∨ g1 = (((w.setCell ⟨g,2,none⟩ (.int .i64 (wrap64 (s.done + 1)))).setCell ⟨g,3,none⟩ (.int .i64 (imax s.most (wrap64 (s.done + 1))))).alloc o).drew.drew.heap.size)
 (hb1 : Blk w1 g 172 #[.int .i64 s.steps,.int .i64 s.thread,x,y,v])
 (ho1 : w1.ownsRow 0 216 6 (.slice (some ⟨g1,0,none⟩) (s.log.length + 1) cap) (s.log.length + 1) (logCells s.log ++ Acc.cells ⟨s.steps,s.thread,k,p,q,b⟩))
 (hg : (((w.setCell ⟨g,2,none⟩ (.int .i64 (wrap64 (s.done + 1)))).setCell ⟨g,3,none⟩ (.int .i64 (imax s.most (wrap64 (s.done + 1))))).alloc o).drew.drew.grownBy w1 v.ownBlock)
 (hx : x = .int .i64 (wrap64 (s.done + 1))) (hy : y = .int .i64 (imax s.most (wrap64 (s.done + 1)))) :
 MeterAt MT (w1.setCell ⟨g,4,none⟩ (.slice (some ⟨g1,0,none⟩) (s.log.length + 1) cap)) g g1 (s.note k p q b) (.slice (some ⟨g1,0,none⟩) (s.log.length + 1) cap) ∧
 Keeps [g,lb] w (w1.setCell ⟨g,4,none⟩ (.slice (some ⟨g1,0,none⟩) (s.log.length + 1) cap)) ∧ (g1 = lb ∨ w.heap.size ≤ g1) := by
 subst hx hy
 have hne1 : g ≠ g1 := fun e => own_blk_ne ho1 hb1 hne (by simp [Value.ownBlock,e])
 refine ⟨⟨?_,?_,.inr rfl⟩,?_,?_⟩
 · have := hb1.set_ 4 (.slice (some ⟨g1,0,none⟩) (s.log.length + 1) cap)
   simpa [MS.note] using this
 · have := own_keeps ho1 (S := [g]) ((Keeps.refl [g] w1).setCell (p := ⟨g,4,none⟩) (.inl (by simp)) (.slice (some ⟨g1,0,none⟩) (s.log.length + 1) cap)) (by simp [Value.ownBlock,Ne.symm hne1])
   simpa [MS.note,logCells_snoc] using this
 · have k0 : Keeps [g,lb] w (((w.setCell ⟨g,2,none⟩ (.int .i64 (wrap64 (s.done + 1)))).setCell ⟨g,3,none⟩ (.int .i64 (imax s.most (wrap64 (s.done + 1))))).alloc o).drew.drew :=
    (((Sq.r.setCell (.inl (by simp)) _).setCell (.inl (by simp)) _).alloc _).drew.drew
   refine (k0.grown hg (fun q hq => .inl ?_)).setCell (.inl (by simp)) _
   rcases hc with ⟨hc,_⟩ | hc
   · rw [hc] at hq; cases hq
   · rw [hc] at hq; injection hq with hq; subst hq; simp
 · rcases hat with h | h
   · rcases hc with ⟨hc,_⟩ | hc
     · rw [hc] at h; cases h
     · rw [hc] at h; injection h with h; exact .inl h.symm
   · exact .inr (by rw [h]; simp only [World.size_drew,World.size_alloc,World.size_setCell]; omega)
set_option maxHeartbeats 2000000 in
theorem note_some (w : World) (g lb : Nat) (s : MS) (v : Value) (hm : MeterAt MT w g lb s v) (k p o : Int) (b : Bool) (hl : s.log.length < 2199023255552) :
 Calls Tryz.prog 142 #[.pointer (some ⟨g,0,none⟩),.int .i64 k,.int .i64 p,.int .i64 o,.bool b] w fun e w' =>
  e = .returned (.tuple #[]) ∧ ∃ lb' v',MeterAt MT w' g lb' (s.note k p o b) v' ∧ Keeps [g,lb] w w' ∧ (lb' = lb ∨ w.heap.size ≤ lb') := by
 obtain ⟨hb,hown,hloc⟩ := hm
 have c0 : w.cell? ⟨g,0,none⟩ = some (.int .i64 s.steps) := (hb.cell 0).trans rfl
 have c1 : w.cell? ⟨g,1,none⟩ = some (.int .i64 s.thread) := (hb.cell 1).trans rfl
 have c2 : w.cell? ⟨g,2,none⟩ = some (.int .i64 s.done) := (hb.cell 2).trans rfl
 have c3 : w.cell? ⟨g,3,none⟩ = some (.int .i64 s.most) := (hb.cell 3).trans rfl
 have c4 : w.cell? ⟨g,4,none⟩ = some v := (hb.cell 4).trans rfl
 have f2 := hb.frozen 2
 have f3 := hb.frozen 3
 have f4 := hb.frozen 4
 have hglt := hb.lt
 have HL := Lib.hid hl
 have HB := Lib.hid hb
 have HO := Lib.hid hown
 have HC := Lib.hid hloc
 clear hl hb hown hloc
 go_enter Tryz.func142,Tryz.ntmps142
 go_wp2_with fail
 go_region
 simp only [imax_eq]
 go_wp2_with fail
 obtain ⟨i0,hi,hz0,hz1,hz2⟩ := info_parts Tryz.infoAcc
 have hmx : s.log.length + 1 ≤ maxLen := by have := HL.out; unfold maxLen; omega
 have hby : (s.log.length + 1) * 48 ≤ 140737488355328 := by have := HL.out; omega
 have hne : Hid ((216 : TypeId) ≠ 172) := by unfold Hid; decide
 have HMX := Lib.hid hmx
 have HBY := Lib.hid hby
 clear hmx hby
 go_region_law (refine step_append_lies _ rfl (.tmp 35) (.tmp 49) 93 rfl 0 216 i0 _ 6 48 Tryz.underlying93 hi hz0 hz1 hz2 rfl (by decide) v s.log.length (logCells s.log) rfl (own_after0 HB.out HO.out hne.out) ⟨w.heap.size,0,none⟩ 1 1 (Acc.cells ⟨s.steps,s.thread,k,p,o,b⟩) rfl rfl (by exact World.news_of_block (new_at _ _ _ (by simp))) (by simp [Acc.cells,Value.oneCell']) (by decide) HMX.out HBY.out (Nat.zero_le _) _ rfl ?_; intro g1 cap w1 hown1 hgrow1 hat1 hlt1; have hb1 := after1 HB.out HO.out hne.out hgrow1; have d4 : w1.cell? ⟨g,4,none⟩ = some v := (hb1.cell 4).trans rfl; have e4 := hb1.frozen 4; have HB1 := Lib.hid hb1; clear hb1)
 all_goals
  go_wp2_with fail
  go_end0
  refine ⟨rfl,g1,_,note_end HB.out HO.out hne.out HC.out hlt1 hat1 HB1.out hown1 hgrow1 rfl rfl⟩
theorem note_nil (w : World) (k p o : Int) (b : Bool) :
 Calls Tryz.prog 142 #[.pointer none,.int .i64 k,.int .i64 p,.int .i64 o,.bool b] w fun e w' => e = .returned (.tuple #[]) ∧ w = w' := by
 go_enter Tryz.func142,Tryz.ntmps142
 go_wp2
 go_returns
 exact ⟨rfl,rfl⟩
theorem note_any (w : World) (mp : Option Nat) (lb : Nat) (s : MS) (hm : MetAt MT w mp lb s) (k p o : Int) (b : Bool) (hl : Room mp s) :
 Calls Tryz.prog 142 #[PM mp,.int .i64 k,.int .i64 p,.int .i64 o,.bool b] w fun e w' =>
  e = .returned (.tuple #[]) ∧ Noted MT mp lb (s.note k p o b) w w' := by
 cases mp with
 | none => exact (note_nil w k p o b).mono fun e w' ⟨he,hw⟩ => ⟨he,lb,trivial,hw ▸ Keeps.refl _ _,.inl rfl⟩
 | some g =>
   obtain ⟨v,hv⟩ := hm
   exact (note_some w g lb s v hv k p o b (hl (by simp))).mono fun e w' ⟨he,lb',v',h1,h2,h3⟩ => ⟨he,lb',⟨v',h1⟩,h2,h3⟩
open Go.RowKit
theorem newMeter (w : World) :
 Calls Tryz.prog 40 #[] w fun e w' => ∃ g,e = .returned (.pointer (some ⟨g,0,none⟩)) ∧ MetAt MT w' (some g) g MS.zero ∧ Keeps [] w w' ∧ g = w.heap.size := by
 go_enter Tryz.func40,Tryz.ntmps40
 go_wp2
 go_ret
 exact ⟨w.heap.size,rfl,⟨_,Blk.new _ _ _,World.ownsRow_nil _ _ _ _,.inl ⟨rfl,rfl⟩⟩,by simp,rfl⟩
theorem begin_nil (w : World) (t : Int) :
 Calls Tryz.prog 68 #[.pointer none,.int .i64 t] w fun e w' => e = .returned (.tuple #[]) ∧ w = w' := by
 go_enter Tryz.func68,Tryz.ntmps68
 go_wp2
 go_returns
 exact ⟨rfl,rfl⟩
theorem begin_some (w : World) (g lb : Nat) (s : MS) (v : Value) (hm : MeterAt MT w g lb s v) (t : Int) :
 Calls Tryz.prog 68 #[.pointer (some ⟨g,0,none⟩),.int .i64 t] w fun e w' =>
  e = .returned (.tuple #[]) ∧ MeterAt MT w' g lb (s.begin t) v ∧ Keeps [g] w w' := by
 obtain ⟨hb,hown,hloc⟩ := hm
 have c0 : w.cell? ⟨g,0,none⟩ = some (.int .i64 s.steps) := (hb.cell 0).trans rfl
 have c1 : w.cell? ⟨g,1,none⟩ = some (.int .i64 s.thread) := (hb.cell 1).trans rfl
 have c2 : w.cell? ⟨g,2,none⟩ = some (.int .i64 s.done) := (hb.cell 2).trans rfl
 have f0 := hb.frozen 0
 have f1 := hb.frozen 1
 have f2 := hb.frozen 2
 have HB := Lib.hid hb
 have HO := Lib.hid hown
 have HC := Lib.hid hloc
 clear hb hown hloc
 go_enter Tryz.func68,Tryz.ntmps68
 go_wp2
 go_end0
 have k0 : Keeps [g] w (((w.setCell ⟨g,0,none⟩ (.int .i64 (wrap64 (s.steps + 1)))).setCell ⟨g,1,none⟩ (.int .i64 t)).setCell ⟨g,2,none⟩ (.int .i64 0)) := ((Sq.r.setCell (.inl (by simp)) _).setCell (.inl (by simp)) _).setCell (.inl (by simp)) _
 refine ⟨rfl,⟨?_,?_,HC.out⟩,k0⟩
 · simpa [MS.begin] using ((HB.out.set_ 0 (.int .i64 (wrap64 (s.steps + 1)))).set_ 1 (.int .i64 t)).set_ 2 (.int .i64 0)
 · exact own_keeps HO.out k0 (fun q hq hq' => by simp at hq'; subst hq'; exact own_blk_ne HO.out HB.out (by decide) hq)
theorem begin_any (w : World) (mp : Option Nat) (lb : Nat) (s : MS) (hm : MetAt MT w mp lb s) (t : Int) :
 Calls Tryz.prog 68 #[PM mp,.int .i64 t] w fun e w' => e = .returned (.tuple #[]) ∧ MetAt MT w' mp lb (s.begin t) ∧ Keeps (foot mp lb) w w' := by
 cases mp with
 | none => exact (begin_nil w t).mono fun e w' ⟨he,hw⟩ => ⟨he,trivial,hw ▸ Keeps.refl _ _⟩
 | some g =>
   obtain ⟨v,hv⟩ := hm
   exact (begin_some w g lb s v hv t).mono fun e w' ⟨he,h1,h2⟩ => ⟨he,⟨v,h1⟩,h2.mono (by simp [foot])⟩
theorem done_some (w : World) (g lb : Nat) (s : MS) (hm : MetAt MT w (some g) lb s) :
 Calls Tryz.prog 19 #[PM (some g)] w fun e w' => e = .returned (.int .i64 s.done) ∧ w = w' := by
 obtain ⟨v,hb,hown,hloc⟩ := hm
 have c0 : w.cell? ⟨g,2,none⟩ = some (.int .i64 s.done) := (hb.cell 2).trans rfl
 clear hb hown hloc
 unfold PM
 go_enter Tryz.func19,Tryz.ntmps19
 go_wp2
 go_ret
 exact ⟨rfl,rfl⟩
theorem most_some (w : World) (g lb : Nat) (s : MS) (hm : MetAt MT w (some g) lb s) :
 Calls Tryz.prog 60 #[PM (some g)] w fun e w' => e = .returned (.int .i64 s.most) ∧ w = w' := by
 obtain ⟨v,hb,hown,hloc⟩ := hm
 have c0 : w.cell? ⟨g,3,none⟩ = some (.int .i64 s.most) := (hb.cell 3).trans rfl
 clear hb hown hloc
 unfold PM
 go_enter Tryz.func60,Tryz.ntmps60
 go_wp2
 go_ret
 exact ⟨rfl,rfl⟩
theorem logOne (l : List Acc) : ∀ u ∈ logCells l,u.oneCell' = true := by
 intro u hu
 simp only [logCells,List.mem_flatMap] at hu
 obtain ⟨x,_,hx⟩ := hu
 simp only [Acc.cells,List.mem_cons,List.not_mem_nil,or_false] at hx
 rcases hx with rfl | rfl | rfl | rfl | rfl | rfl <;> rfl
theorem log_some (w : World) (g lb : Nat) (s : MS) (hm : MetAt MT w (some g) lb s) (hl : s.log.length ≤ 2199023255552) :
 Calls Tryz.prog 59 #[PM (some g)] w fun e w' => ∃ v,e = .returned v ∧ NewRow 216 6 s.log.length (logCells s.log) [] w w' v := by
 obtain ⟨v,hb,hown,hloc⟩ := hm
 have c0 : w.cell? ⟨g,4,none⟩ = some v := (hb.cell 4).trans rfl
 have hglt := hb.lt
 have HO := Lib.hid hown
 have HL := Lib.hid hl
 clear hb hown hloc hl
 obtain ⟨i0,hi,hz0,hz1,hz2⟩ := info_parts Tryz.infoAcc
 unfold PM
 go_enter Tryz.func59,Tryz.ntmps59
 have hmx : Hid (0 + s.log.length ≤ maxLen) := by have := HL.out; unfold Hid maxLen; omega
 have hby : Hid ((0 + s.log.length) * 48 ≤ 140737488355328) := by have := HL.out; unfold Hid; omega
 go_wp2_with (at_builtin; refine wpList_append_row rfl (.tmp 5) (.tmp 9) 93 rfl 216 i0 _ 6 48 Tryz.underlying93 hi hz0 hz1 hz2 rfl (by decide) (.slice (some ⟨w.heap.size,0,none⟩) 0 0) 0 [] rfl (World.ownsRow_made _ _ _ (Nat.zero_le _) (by decide) rfl) v s.log.length (logCells s.log) rfl (HO.out.alloc _) (logOne _) hmx.out hby.out ?_; intro v1 w1 hown1 hg1 hat1)
 go_ret
 refine ⟨v1,rfl,own_base (by simpa using hown1) ?_,Sq.r.alloc _ |>.grown hg1 ?_⟩
 · intro k hk
   rcases hat1 with e | e <;> rw [e] at hk <;> simp [Value.ownBlock] at hk <;> omega
 · simp [Value.ownBlock]
end Go.Proofs.YtmlnedilbneekaaGreat