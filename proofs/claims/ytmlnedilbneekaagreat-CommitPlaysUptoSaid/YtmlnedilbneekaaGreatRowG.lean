/- Rows of api.Gate: contracts of their methods. -/
import Derived.Test.YtmlnedilbneekaaGreatMeter
import Derived.Test.YtmlnedilbneekaaGreatMake
import Derived.Deep.RegionHeld3
import Derived.RegionTactic
import Derived.BigRegion
import Derived.Outline
import Derived.Handy
namespace Go.Proofs.YtmlnedilbneekaaGreat
structure Gt where
 number : Int
 owner : Int
deriving DecidableEq
def Gt.zero : Gt := ⟨0,0⟩
namespace RowG
open Go.RowKit
set_option linter.unusedVariables false
def cells (x : Gt) : List Value := [.int .i64 x.number,.int .i64 x.owner]
structure Ty (R T : TypeId) : Prop where
 rt : R ≠ T
 ra : R ≠ 216
 re : R ≠ 129
 et : 129 ≠ T
 ea : 129 ≠ 216
structure At (R : TypeId) (w : World) (r b : Nat) (kind : Int) (mp : Option Nat) (l : List Gt) : Prop where
 blk : Blk w r R #[PM mp,.int .i64 kind,.slice (some ⟨b,0,none⟩) l.length l.length]
 row : Blk w b 129 (l.flatMap cells).toArray
 fits : l.length ≤ 4096
theorem cells_length (l : List Gt) : (l.flatMap cells).length = l.length * 2 := by
 induction l with
 | nil => rfl
 | cons x l ih => simp only [List.flatMap_cons,List.length_append,List.length_cons,ih]; simp [cells]; omega
theorem cells_get (l : List Gt) (i : Nat) (x : Gt) (h : l[i]? = some x) (j : Nat) (u : Value) (hu : (cells x)[j]? = some u) : (l.flatMap cells)[i * 2 + j]? = some u := by
 induction l generalizing i with
 | nil => simp at h
 | cons y l ih =>
   have hj : j < (cells x).length := (List.getElem?_eq_some_iff.1 hu).1
   rw [List.flatMap_cons]
   cases i with
   | zero =>
     simp at h; subst h
     rw [Nat.zero_mul,Nat.zero_add,List.getElem?_append_left hj]
     exact hu
   | succ i =>
     have e : (i + 1) * 2 + j = (cells y).length + (i * 2 + j) := by simp [cells]; omega
     rw [e,List.getElem?_append_right (by omega),Nat.add_sub_cancel_left]
     exact ih i (by simpa using h)
theorem cells_set (l : List Gt) (i : Nat) (x : Gt) : ((l.flatMap cells).set (i * 2) (.int .i64 x.number)).set (i * 2 + 1) (.int .i64 x.owner) = (l.set i x).flatMap cells := by
 induction l generalizing i with
 | nil => simp
 | cons y l ih =>
   cases i with
   | zero => simp [cells]
   | succ i =>
     have e : (i + 1) * 2 = i * 2 + 1 + 1 := by omega
     rw [e]
     simp only [List.flatMap_cons,cells,List.cons_append,List.nil_append,List.set_cons_succ]
     rw [← ih i]
     skip
theorem At.keeps {R : TypeId} {w w' : World} {S : List Nat} {r b : Nat} {kind : Int} {mp : Option Nat} {l : List Gt} (h : At R w r b kind mp l) (hk : Keeps S w w') (h1 : r ∉ S) (h2 : b ∉ S) : At R w' r b kind mp l :=
 ⟨h.blk.keeps hk h1,h.row.keeps hk h2,h.fits⟩
theorem At.foot {R T : TypeId} (ty : Ty R T) {w : World} {r b : Nat} {kind : Int} {mp : Option Nat} {l : List Gt} (h : At R w r b kind mp l) {mp' : Option Nat} {lb : Nat} {s : MS} (hm : MetAt T w mp' lb s) : r ∉ foot mp' lb ∧ b ∉ foot mp' lb :=
 ⟨apart hm h.blk ty.rt ty.ra,apart hm h.row ty.et ty.ea⟩
theorem At.noted {R T : TypeId} {w w' : World} {r b : Nat} {kind : Int} {mp : Option Nat} {l : List Gt} (h : At R w r b kind mp l) {mp' : Option Nat} {lb : Nat} {s : MS} (ha : r ∉ Go.Proofs.YtmlnedilbneekaaGreat.foot mp' lb ∧ b ∉ Go.Proofs.YtmlnedilbneekaaGreat.foot mp' lb) (hn : Noted T mp' lb s w w') : At R w' r b kind mp l := by
 obtain ⟨_,_,hk,_⟩ := hn
 exact h.keeps hk ha.1 ha.2
theorem At.cell {R : TypeId} {w : World} {r b : Nat} {kind : Int} {mp : Option Nat} {l : List Gt} (h : At R w r b kind mp l) {k : Nat} {x : Gt} (hx : l[k]? = some x) :
 w.cell? ⟨b,k * 2,none⟩ = some (.int .i64 x.number) ∧ w.cell? ⟨b,k * 2 + 1,none⟩ = some (.int .i64 x.owner) := by
 have hc := fun j u (hu : (cells x)[j]? = some u) => (h.row.cell (k * 2 + j)).trans (by simpa using cells_get l k x hx j u hu)
 exact ⟨hc 0 _ rfl,hc 1 _ rfl⟩
def Left (R T : TypeId) (r b : Nat) (kind : Int) (mp : Option Nat) (l : List Gt) (lb : Nat) (s : MS) (w w' : World) : Prop :=
 At R w' r b kind mp l ∧ ∃ lb',MetAt T w' mp lb' s ∧ Keeps (b :: foot mp lb) w w' ∧ (lb' = lb ∨ w.heap.size ≤ lb')
theorem left_noted {R T : TypeId} (ty : Ty R T) {w w' : World} {r b : Nat} {kind : Int} {mp : Option Nat} {l : List Gt} {lb : Nat} {s s' : MS} (hr : At R w r b kind mp l) (hm : MetAt T w mp lb s) (hn : Noted T mp lb s' w w') : Left R T r b kind mp l lb s' w w' := by
 have h1 := hr.noted (hr.foot ty hm) hn
 obtain ⟨lb',h2,h3,h4⟩ := hn
 exact ⟨h1,lb',h2,h3.mono (by simp +contextual),h4⟩
theorem Left.keeps {R T : TypeId} (ty : Ty R T) {w w' w2 : World} {r b : Nat} {kind : Int} {mp : Option Nat} {l : List Gt} {lb : Nat} {s : MS} (h : Left R T r b kind mp l lb s w w') (hk : Keeps [] w' w2) : Left R T r b kind mp l lb s w w2 := by
 obtain ⟨h1,lb',h2,h3,h4⟩ := h
 exact ⟨h1.keeps hk (by simp) (by simp),lb',h2.keeps hk (by simp),h3.trans hk (by simp),h4⟩
theorem left_set {R T : TypeId} (ty : Ty R T) {w w' : World} {r b : Nat} {kind : Int} {mp : Option Nat} {l : List Gt} {lb : Nat} {s s' : MS} (hr : At R w r b kind mp l) (hm : MetAt T w mp lb s) (hn : Noted T mp lb s' w w') (k : Nat) (x : Gt) :
 Left R T r b kind mp (l.set k x) lb s' w ((w'.setCell ⟨b,k * 2,none⟩ (.int .i64 x.number)).setCell ⟨b,k * 2 + 1,none⟩ (.int .i64 x.owner)) := by
 have h1 := hr.noted (hr.foot ty hm) hn
 have hne := (hr.foot ty hm).2
 obtain ⟨lb',h2,h3,h4⟩ := hn
 have hbr : r ≠ b := h1.blk.ne_ h1.row ty.re
 have hkb : Keeps [b] w' ((w'.setCell ⟨b,k * 2,none⟩ (.int .i64 x.number)).setCell ⟨b,k * 2 + 1,none⟩ (.int .i64 x.owner)) := (Sq.r.setCell (.inl (by simp)) _).setCell (.inl (by simp)) _
 have hb' : b ∉ foot mp lb' := (h1.foot ty h2).2
 refine ⟨⟨?_,?_,?_⟩,lb',?_,?_,h4⟩
 · have := h1.blk.keeps hkb (by simpa using hbr)
   simpa using this
 · have e : ((l.flatMap cells).toArray.setIfInBounds (k * 2) (.int .i64 x.number)).setIfInBounds (k * 2 + 1) (.int .i64 x.owner) = ((l.set k x).flatMap cells).toArray := by
    rw [← cells_set]; simp
   refine (congrArg (Blk _ b 129) e).mp ?_
   exact (h1.row.set_ (k * 2) (.int .i64 x.number)).set_ (k * 2 + 1) (.int .i64 x.owner)
 · simpa using h1.fits
 · exact h2.keeps hkb (fun q hq hq' => by simp at hq'; subst hq'; exact hb' hq)
 · exact (h3.mono (T := b :: foot mp lb) (by simp +contextual)).trans hkb (fun q hq => .inl (by simp at hq; simp [hq]))
theorem cells_one (l : List Gt) : ∀ u ∈ l.flatMap cells,u.oneCell' = true := by
 intro u hu
 rw [List.mem_flatMap] at hu
 obtain ⟨x,_,hx⟩ := hu
 simp only [cells,List.mem_cons,List.not_mem_nil,or_false] at hx
 rcases hx with rfl | rfl <;> rfl
theorem At.own {R : TypeId} {w : World} {r b : Nat} {kind : Int} {mp : Option Nat} {l : List Gt} (h : At R w r b kind mp l) : w.ownsRow 0 129 2 (.slice (some ⟨b,0,none⟩) l.length l.length) l.length (l.flatMap cells) :=
 ⟨cells_length l,.inr ⟨b,l.length,_,rfl,Nat.zero_le _,h.row,Nat.le_refl _,by have := h.fits; unfold maxLen; omega,by simpa using cells_length l,List.take_of_length_le (by simpa using Nat.le_of_eq (cells_length l))⟩⟩
abbrev R : TypeId := 241
end RowG
namespace RowG
open Go.RowKit
attribute [local go_sem ↓] Go.wp_at_zero Go.wp_at_succ
theorem ty : Ty R MT := ⟨by decide,by decide,by decide,by decide,by decide⟩
theorem Tryz.info : (Tryz.prog.info? 129).map (fun i => (i.zero,i.size,i.bytes)) = some (some (.agg #[.int .i64 0,.int .i64 0]),2,16) := by kernel_rfl
theorem newRow_ptr (w : World) (p : Option Addr) (kind : Int) (n : Nat) (h1 : 1 ≤ n) (h2 : n ≤ 4096) :
 Calls Tryz.prog 114 #[.pointer p,.int .i64 kind,.int .i64 n] w fun e w' =>
  e = .returned (.tuple #[.pointer (some ⟨w.heap.size + 1,0,none⟩),.int .i64 0]) ∧ (Blk w' (w.heap.size + 1) 241 #[.pointer p,.int .i64 kind,.slice (some ⟨w.heap.size,0,none⟩) n n] ∧ Blk w' w.heap.size 129 ((List.replicate n Gt.zero).flatMap cells).toArray) ∧ Keeps [] w w' ∧ w'.heap.size = w.heap.size + 2 := by
 obtain ⟨i0,hi,hz0,hz1,hz2⟩ := info_parts Tryz.info
 have hmk : ∀ w : World,(Instr.makeSlice 239 (.int .i64 (n : Int)) (.int .i64 (n : Int))).run Tryz.prog w = .ok (.slice (some ⟨w.heap.size,0,none⟩) n n) (w.alloc (.cells ((List.replicate n Gt.zero).flatMap cells).toArray 129)) := fun w => by
  have := run_make (P := Tryz.prog) w 239 129 i0 _ Tryz.underlying239 hi hz0 .i64 .i64 n n (by omega) (Int.le_refl _) (by rw [hz2]; omega) (by omega)
  simp only [Int.toNat_natCast] at this
  rw [this,hz1,madeCells_rep cells 2 (by decide) (fun _ => rfl) Gt.zero n (z := (Value.agg #[.int .i64 0,.int .i64 0]).cells) rfl]
 clear hi hz0 hz1 hz2
 have g1 : decide ((n : Int) < 1) = false := by simp; omega
 have g2 : decide ((4096 : Int) < (n : Int)) = false := by simp; omega
 go_enter Tryz.func114,Tryz.ntmps114
 go_wp2
 go_ret2
 exact ⟨rfl,⟨new_at _ _ _ (by simp),(Blk.new _ _ _).alloc _⟩,by simp,by simp⟩
theorem newRow_ok (w : World) (mp : Option Nat) (kind : Int) (n : Nat) (h1 : 1 ≤ n) (h2 : n ≤ 4096) :
 Calls Tryz.prog 114 #[PM mp,.int .i64 kind,.int .i64 n] w fun e w' =>
  e = .returned (.tuple #[.pointer (some ⟨w.heap.size + 1,0,none⟩),.int .i64 0]) ∧ At R w' (w.heap.size + 1) w.heap.size kind mp (List.replicate n Gt.zero) ∧ Keeps [] w w' ∧ w'.heap.size = w.heap.size + 2 :=
 (newRow_ptr w _ kind n h1 h2).mono fun e w' ⟨he,⟨h3,h4⟩,h5,h6⟩ => ⟨he,⟨by simpa [PM] using h3,h4,by simpa using h2⟩,h5,h6⟩
theorem all_any (w : World) (r b : Nat) (kind : Int) (mp : Option Nat) (l : List Gt) (hr : At R w r b kind mp l) :
 Calls Tryz.prog 148 #[.pointer (some ⟨r,0,none⟩)] w fun e w' => ∃ v,e = .returned v ∧ NewRow 129 2 l.length (l.flatMap cells) [] w w' v := by
 have c2 : w.cell? ⟨r,2,none⟩ = some (.slice (some ⟨b,0,none⟩) l.length l.length) := (hr.blk.cell 2).trans rfl
 have hrl := hr.blk.lt
 have HO := Lib.hid hr.own
 have hf := hr.fits
 clear hr
 obtain ⟨i0,hi,hz0,hz1,hz2⟩ := info_parts Tryz.info
 have hmx : Hid (0 + l.length ≤ maxLen) := by unfold Hid maxLen; omega
 have hby : Hid ((0 + l.length) * 16 ≤ 140737488355328) := by unfold Hid; omega
 go_enter Tryz.func148,Tryz.ntmps148
 go_wp2_with (at_builtin; refine wpList_append_row rfl (.tmp 3) (.tmp 7) 239 rfl 129 i0 _ 2 16 Tryz.underlying239 hi hz0 hz1 hz2 rfl (by decide) (.slice (some ⟨w.heap.size,0,none⟩) 0 0) 0 [] rfl (World.ownsRow_made _ _ _ (Nat.zero_le _) (by decide) rfl) (.slice (some ⟨b,0,none⟩) l.length l.length) l.length (l.flatMap cells) rfl (HO.out.alloc _) (cells_one _) hmx.out hby.out ?_; intro v1 w1 hown1 hg1 hat1)
 go_ret
 refine ⟨v1,rfl,own_base (by simpa using hown1) ?_,Sq.r.alloc _ |>.grown hg1 ?_⟩
 · intro k hk
   rcases hat1 with e | e <;> rw [e] at hk <;> simp [Value.ownBlock] at hk <;> omega
 · simp [Value.ownBlock]
def ZW (w : World) : World := (w.alloc (.cells #[.int .i64 0,.int .i64 0] 129)).alloc (.cells #[.int .i64 0,.int .i64 0] 129)
theorem kept_note {T : TypeId} {mp : Option Nat} {lb : Nat} {s s0 : MS} {w0 w w1 : World} {g : Nat} {t : TypeId} {cs : Array Value} (hm : MetAt T w0 mp lb s0) (hn : Noted T mp lb s w w1) (hb : Blk w g t cs) (hg : w0.heap.size ≤ g) : Blk w1 g t cs := by
 obtain ⟨_,_,hk,_⟩ := hn
 exact hb.keeps hk (fun h => by have := foot_lt hm h; omega)
theorem Left.post {R T : TypeId} {w wa w1 w2 : World} {r b : Nat} {kind : Int} {mp : Option Nat} {l0 l : List Gt} {lb : Nat} {s0 s : MS} (hr : At R w r b kind mp l0) (hm : MetAt T w mp lb s0) (hk : Keeps [] w wa) (h : Left R T r b kind mp l lb s wa w1)
 {S : List Nat} (hS : ∀ z,z ∈ S → w.heap.size ≤ z ∧ z < wa.heap.size) (hk2 : Keeps S w1 w2) : Left R T r b kind mp l lb s w w2 := by
 obtain ⟨h1,lb',h2,h3,h4⟩ := h
 have r0 := hr.blk.lt
 have r1 := hr.row.lt
 have hz := hk.size
 refine ⟨h1.keeps hk2 (fun q => by have := hS _ q; omega) (fun q => by have := hS _ q; omega),lb',h2.keeps hk2 ?_,((hk.mono (T := b :: foot mp lb) (by simp)).trans h3 (fun x hx => .inl hx)).trans hk2 (fun x hx => .inr (hS x hx).1),by omega⟩
 intro q hq hq2
 have h5 := hS q hq2
 cases mp with
 | none => simp [foot] at hq
 | some g =>
   have h6 := foot_lt hm (k := g) (by simp [foot])
   have h7 := foot_lt hm (k := lb) (by simp [foot])
   simp only [foot,List.mem_cons,List.not_mem_nil,or_false] at hq
   omega
theorem eq_run (w : World) (x y : Gt) : (Op.equalIn 10000 129 (.agg #[.int .i64 x.number,.int .i64 x.owner]) (.agg #[.int .i64 y.number,.int .i64 y.owner])).run Tryz.prog w = .ok (decide (x = y)) w := by
 have e : decide (x = y) = ((x.number == y.number) && (x.owner == y.owner)) := by
  obtain ⟨x0,x1⟩ := x
  obtain ⟨y0,y1⟩ := y
  by_cases h0 : x0 = y0 <;> by_cases h1 : x1 = y1 <;> simp [h0,h1]
 rw [e]
 simp [go_sem]
 repeat' split
 all_goals simp_all
def TW (w : World) (old new x : Gt) : World := ((((w.alloc (.cells #[.int .i64 old.number,.int .i64 old.owner] 129)).alloc (.cells #[.int .i64 new.number,.int .i64 new.owner] 129)).alloc (.cells #[.int .i64 0,.int .i64 0] 129)).alloc (.cells #[.int .i64 0,.int .i64 0] 129)).alloc (.cells #[.int .i64 x.number,.int .i64 x.owner] 129)
def TB (z : Nat) (old new x : Gt) (wr : World) : Prop := Blk wr z 129 #[.int .i64 old.number,.int .i64 old.owner] ∧ Blk wr (z + 1) 129 #[.int .i64 new.number,.int .i64 new.owner] ∧ Blk wr (z + 1 + 1) 129 #[.int .i64 0,.int .i64 0] ∧ Blk wr (z + 1 + 1 + 1 + 1) 129 #[.int .i64 x.number,.int .i64 x.owner]
theorem TB.start (w : World) (old new x : Gt) : TB w.heap.size old new x (TW w old new x) :=
 ⟨((((Blk.new _ _ _).alloc _).alloc _).alloc _).alloc _,((Blk.alloc (new_at _ _ _ (by simp)) _).alloc _).alloc _,(Blk.alloc (new_at _ _ _ (by simp)) _).alloc _,new_at _ _ _ (by simp)⟩
theorem TB.noted {T' : TypeId} {mp : Option Nat} {lb : Nat} {s s0 : MS} {w0 w w1 : World} {old new x : Gt} (hm : MetAt T' w0 mp lb s0) (hn : Noted T' mp lb s w w1) (h : TB w0.heap.size old new x w) : TB w0.heap.size old new x w1 :=
 ⟨kept_note hm hn h.1 (by omega),kept_note hm hn h.2.1 (by omega),kept_note hm hn h.2.2.1 (by omega),kept_note hm hn h.2.2.2 (by omega)⟩
theorem TB.cells {z : Nat} {old new x : Gt} {wr : World} (h : TB z old new x wr) : wr.cell? ⟨z,0,none⟩ = some (.int .i64 old.number) ∧ wr.cell? ⟨z,1,none⟩ = some (.int .i64 old.owner) ∧ wr.cell? ⟨(z + 1),0,none⟩ = some (.int .i64 new.number) ∧ wr.cell? ⟨(z + 1),1,none⟩ = some (.int .i64 new.owner) ∧ wr.cell? ⟨(z + 1 + 1),0,none⟩ = some (.int .i64 0) ∧ wr.cell? ⟨(z + 1 + 1),1,none⟩ = some (.int .i64 0) ∧ wr.cell? ⟨(z + 1 + 1 + 1 + 1),0,none⟩ = some (.int .i64 x.number) ∧ wr.cell? ⟨(z + 1 + 1 + 1 + 1),1,none⟩ = some (.int .i64 x.owner) :=
 ⟨(h.1.cell 0).trans rfl,(h.1.cell 1).trans rfl,(h.2.1.cell 0).trans rfl,(h.2.1.cell 1).trans rfl,(h.2.2.1.cell 0).trans rfl,(h.2.2.1.cell 1).trans rfl,(h.2.2.2.cell 0).trans rfl,(h.2.2.2.cell 1).trans rfl⟩
set_option maxHeartbeats 12000000 in
theorem trade_not (w : World) (r b : Nat) (kind : Int) (mp : Option Nat) (l : List Gt) (hr : At R w r b kind mp l) (lb : Nat) (s : MS) (hm : MetAt MT w mp lb s) (hl : Room mp s)
 (k : Nat) (x old new : Gt) (hx : l[k]? = some x) (hne : x ≠ old) :
 Calls Tryz.prog 135 #[.pointer (some ⟨r,0,none⟩),.int .i64 k,.agg #[.int .i64 old.number,.int .i64 old.owner],.agg #[.int .i64 new.number,.int .i64 new.owner]] w fun e w' =>
  e = .returned (.tuple #[.agg #[.int .i64 x.number,.int .i64 x.owner],.bool false,.int .i64 0]) ∧ Left R MT r b kind mp l lb (s.note kind k 3 false) w w' := by
 have hk : k < l.length := (List.getElem?_eq_some_iff.1 hx).1
 have he : ∀ w,(Op.equalIn 10000 129 (.agg #[.int .i64 x.number,.int .i64 x.owner]) (.agg #[.int .i64 old.number,.int .i64 old.owner])).run Tryz.prog w = .ok false w := fun w => by rw [eq_run,decide_eq_false hne]
 have kw4 : Keeps [] w ((((w.alloc (.cells #[.int .i64 old.number,.int .i64 old.owner] 129)).alloc (.cells #[.int .i64 new.number,.int .i64 new.owner] 129)).alloc (.cells #[.int .i64 0,.int .i64 0] 129)).alloc (.cells #[.int .i64 0,.int .i64 0] 129)) := ((((Keeps.refl [] w).alloc _).alloc _).alloc _).alloc _
 have kwa : Keeps [] w (TW w old new x) := kw4.alloc _
 have bT := Lib.hid (TB.start w old new x)
 have a2 : ((((w.alloc (.cells #[.int .i64 old.number,.int .i64 old.owner] 129)).alloc (.cells #[.int .i64 new.number,.int .i64 new.owner] 129)).alloc (.cells #[.int .i64 0,.int .i64 0] 129)).alloc (.cells #[.int .i64 0,.int .i64 0] 129)).cell? ⟨r,2,none⟩ = some (.slice (some ⟨b,0,none⟩) l.length l.length) := ((hr.keeps kw4 (by simp) (by simp)).blk.cell 2).trans rfl
 obtain ⟨q0,q1⟩ := (hr.keeps kw4 (by simp) (by simp)).cell hx
 have HR1 := Lib.hid (hr.keeps kwa (by simp) (by simp))
 have HM1 := Lib.hid (hm.keeps kwa (by simp))
 have KWA := Lib.hid kwa
 have HR := Lib.hid hr
 have HM := Lib.hid hm
 have HL := Lib.hid hl
 have HX := Lib.hid hx
 have hf := hr.fits
 have hki : (k : Int) < (l.length : Int) := by omega
 clear hr hm hl hx kwa kw4
 go_enter Tryz.func135,Tryz.ntmps135
 go_wp2
 clear a2 q0 q1
 rw [show ((((w.alloc (.cells #[.int .i64 old.number,.int .i64 old.owner] 129)).alloc (.cells #[.int .i64 new.number,.int .i64 new.owner] 129)).alloc (.cells #[.int .i64 0,.int .i64 0] 129)).alloc (.cells #[.int .i64 0,.int .i64 0] 129)).alloc (.cells #[.int .i64 x.number,.int .i64 x.owner] 129) = TW w old new x from rfl]
 have hsz : Hid (w.heap.size + 1 + 1 < (TW w old new x).heap.size) := by unfold Hid TW; simp <;> omega
 generalize TW w old new x = wa at *
 obtain ⟨to0,to1,tn0,tn1,tz0,tz1,tx0,tx1⟩ := bT.out.cells
 have a0 : wa.cell? ⟨r,0,none⟩ = some (PM mp) := (HR1.out.blk.cell 0).trans rfl
 have a1 : wa.cell? ⟨r,1,none⟩ = some (.int .i64 kind) := (HR1.out.blk.cell 1).trans rfl
 go_region_held3 (fun w' => w'.cell? ⟨r,0,none⟩ = some (PM mp) ∧ w'.cell? ⟨r,1,none⟩ = some (.int .i64 kind) ∧ w'.cell? ⟨w.heap.size,0,none⟩ = some (.int .i64 old.number) ∧ w'.cell? ⟨w.heap.size,1,none⟩ = some (.int .i64 old.owner) ∧ w'.cell? ⟨w.heap.size + 1 + 1 + 1 + 1,0,none⟩ = some (.int .i64 x.number) ∧ w'.cell? ⟨w.heap.size + 1 + 1 + 1 + 1,1,none⟩ = some (.int .i64 x.owner)) (first | exact ⟨d0,d1,uo0,uo1,ux0,ux1⟩ | go_keep) ((go_at_call 142; refine (note_any _ mp lb s HM1.out.drew _ _ _ _ HL.out).mono ?_; rintro e w1 ⟨rfl,hn1⟩; have hr1 := HR1.out.noted (HR1.out.foot ty HM1.out) hn1.undrew; have d0 : w1.cell? ⟨r,0,none⟩ = some (PM mp) := (hr1.blk.cell 0).trans rfl; have d1 : w1.cell? ⟨r,1,none⟩ = some (.int .i64 kind) := (hr1.blk.cell 1).trans rfl; have d2 : w1.cell? ⟨r,2,none⟩ = some (.slice (some ⟨b,0,none⟩) l.length l.length) := (hr1.blk.cell 2).trans rfl; have hce := hr1.cell HX.out; have g0 : w1.cell? ⟨b,k * 2,none⟩ = some (.int .i64 x.number) := hce.1; have g1 : w1.cell? ⟨b,k * 2 + 1,none⟩ = some (.int .i64 x.owner) := hce.2; have e3 : w1.frozen? ⟨b,k * 2,none⟩ = false := hr1.row.frozen _; have e4 : w1.frozen? ⟨b,k * 2 + 1,none⟩ = false := hr1.row.frozen _; have hTB := TB.noted HM.out hn1.undrew bT.out; have hce8 := hTB.cells; have uo0 : w1.cell? ⟨w.heap.size,0,none⟩ = some (.int .i64 old.number) := hce8.1; have uo1 : w1.cell? ⟨w.heap.size,1,none⟩ = some (.int .i64 old.owner) := hce8.2.1; have un0 : w1.cell? ⟨w.heap.size + 1,0,none⟩ = some (.int .i64 new.number) := hce8.2.2.1; have un1 : w1.cell? ⟨w.heap.size + 1,1,none⟩ = some (.int .i64 new.owner) := hce8.2.2.2.1; have uz0 : w1.cell? ⟨w.heap.size + 1 + 1,0,none⟩ = some (.int .i64 0) := hce8.2.2.2.2.1; have uz1 : w1.cell? ⟨w.heap.size + 1 + 1,1,none⟩ = some (.int .i64 0) := hce8.2.2.2.2.2.1; have ux0 : w1.cell? ⟨w.heap.size + 1 + 1 + 1 + 1,0,none⟩ = some (.int .i64 x.number) := hce8.2.2.2.2.2.2.1; have ux1 : w1.cell? ⟨w.heap.size + 1 + 1 + 1 + 1,1,none⟩ = some (.int .i64 x.owner) := hce8.2.2.2.2.2.2.2; have yz0 := hTB.2.2.1.frozen 0; have yz1 := hTB.2.2.1.frozen 1; have HTB := Lib.hid hTB; clear hTB hce8; have HN := Lib.hid hn1.undrew; clear hn1 hr1 hce))
 go_wp2
 go_region
 go_wp2
 refine bodyPost_ret (v := .tuple #[.agg #[.int .i64 x.number,.int .i64 x.owner],.bool false,.int .i64 0]) (by simp [results,Tryz.results135,go_sem,uz0,uz1]) rfl ⟨rfl,?_⟩
 refine Left.post HR.out HM.out KWA.out (left_noted ty HR1.out HM1.out HN.out) (S := [w.heap.size + 1 + 1]) (fun z hz => by simp at hz; subst hz; exact ⟨by omega,hsz.out⟩) ?_
 exact ((Sq.r.drewN _).setCell (.inl (by simp)) _).setCell (.inl (by simp)) _
set_option maxHeartbeats 12000000 in
theorem trade_yes (w : World) (r b : Nat) (kind : Int) (mp : Option Nat) (l : List Gt) (hr : At R w r b kind mp l) (lb : Nat) (s : MS) (hm : MetAt MT w mp lb s) (hl : Room mp s)
 (k : Nat) (x new : Gt) (hx : l[k]? = some x) :
 Calls Tryz.prog 135 #[.pointer (some ⟨r,0,none⟩),.int .i64 k,.agg #[.int .i64 x.number,.int .i64 x.owner],.agg #[.int .i64 new.number,.int .i64 new.owner]] w fun e w' =>
  e = .returned (.tuple #[.agg #[.int .i64 x.number,.int .i64 x.owner],.bool true,.int .i64 0]) ∧ Left R MT r b kind mp (l.set k new) lb (s.note kind k 3 true) w w' := by
 have hk : k < l.length := (List.getElem?_eq_some_iff.1 hx).1
 have he : ∀ w,(Op.equalIn 10000 129 (.agg #[.int .i64 x.number,.int .i64 x.owner]) (.agg #[.int .i64 x.number,.int .i64 x.owner])).run Tryz.prog w = .ok true w := fun w => by rw [eq_run,decide_eq_true rfl]
 have kw4 : Keeps [] w ((((w.alloc (.cells #[.int .i64 x.number,.int .i64 x.owner] 129)).alloc (.cells #[.int .i64 new.number,.int .i64 new.owner] 129)).alloc (.cells #[.int .i64 0,.int .i64 0] 129)).alloc (.cells #[.int .i64 0,.int .i64 0] 129)) := ((((Keeps.refl [] w).alloc _).alloc _).alloc _).alloc _
 have kwa : Keeps [] w (TW w x new x) := kw4.alloc _
 have bT := Lib.hid (TB.start w x new x)
 have a2 : ((((w.alloc (.cells #[.int .i64 x.number,.int .i64 x.owner] 129)).alloc (.cells #[.int .i64 new.number,.int .i64 new.owner] 129)).alloc (.cells #[.int .i64 0,.int .i64 0] 129)).alloc (.cells #[.int .i64 0,.int .i64 0] 129)).cell? ⟨r,2,none⟩ = some (.slice (some ⟨b,0,none⟩) l.length l.length) := ((hr.keeps kw4 (by simp) (by simp)).blk.cell 2).trans rfl
 obtain ⟨q0,q1⟩ := (hr.keeps kw4 (by simp) (by simp)).cell hx
 have HR1 := Lib.hid (hr.keeps kwa (by simp) (by simp))
 have HM1 := Lib.hid (hm.keeps kwa (by simp))
 have KWA := Lib.hid kwa
 have HR := Lib.hid hr
 have HM := Lib.hid hm
 have HL := Lib.hid hl
 have HX := Lib.hid hx
 have hf := hr.fits
 have hki : (k : Int) < (l.length : Int) := by omega
 clear hr hm hl hx kwa kw4
 go_enter Tryz.func135,Tryz.ntmps135
 go_wp2
 clear a2 q0 q1
 rw [show ((((w.alloc (.cells #[.int .i64 x.number,.int .i64 x.owner] 129)).alloc (.cells #[.int .i64 new.number,.int .i64 new.owner] 129)).alloc (.cells #[.int .i64 0,.int .i64 0] 129)).alloc (.cells #[.int .i64 0,.int .i64 0] 129)).alloc (.cells #[.int .i64 x.number,.int .i64 x.owner] 129) = TW w x new x from rfl]
 have hsz : Hid (w.heap.size + 1 + 1 < (TW w x new x).heap.size) := by unfold Hid TW; simp <;> omega
 generalize TW w x new x = wa at *
 obtain ⟨to0,to1,tn0,tn1,tz0,tz1,tx0,tx1⟩ := bT.out.cells
 have a0 : wa.cell? ⟨r,0,none⟩ = some (PM mp) := (HR1.out.blk.cell 0).trans rfl
 have a1 : wa.cell? ⟨r,1,none⟩ = some (.int .i64 kind) := (HR1.out.blk.cell 1).trans rfl
 go_region_held3 (fun w' => w'.cell? ⟨r,0,none⟩ = some (PM mp) ∧ w'.cell? ⟨r,1,none⟩ = some (.int .i64 kind) ∧ w'.cell? ⟨w.heap.size,0,none⟩ = some (.int .i64 x.number) ∧ w'.cell? ⟨w.heap.size,1,none⟩ = some (.int .i64 x.owner) ∧ w'.cell? ⟨w.heap.size + 1 + 1 + 1 + 1,0,none⟩ = some (.int .i64 x.number) ∧ w'.cell? ⟨w.heap.size + 1 + 1 + 1 + 1,1,none⟩ = some (.int .i64 x.owner)) (first | exact ⟨d0,d1,uo0,uo1,ux0,ux1⟩ | go_keep) ((go_at_call 142; refine (note_any _ mp lb s HM1.out.drew _ _ _ _ HL.out).mono ?_; rintro e w1 ⟨rfl,hn1⟩; have hr1 := HR1.out.noted (HR1.out.foot ty HM1.out) hn1.undrew; have d0 : w1.cell? ⟨r,0,none⟩ = some (PM mp) := (hr1.blk.cell 0).trans rfl; have d1 : w1.cell? ⟨r,1,none⟩ = some (.int .i64 kind) := (hr1.blk.cell 1).trans rfl; have d2 : w1.cell? ⟨r,2,none⟩ = some (.slice (some ⟨b,0,none⟩) l.length l.length) := (hr1.blk.cell 2).trans rfl; have hce := hr1.cell HX.out; have g0 : w1.cell? ⟨b,k * 2,none⟩ = some (.int .i64 x.number) := hce.1; have g1 : w1.cell? ⟨b,k * 2 + 1,none⟩ = some (.int .i64 x.owner) := hce.2; have e3 : w1.frozen? ⟨b,k * 2,none⟩ = false := hr1.row.frozen _; have e4 : w1.frozen? ⟨b,k * 2 + 1,none⟩ = false := hr1.row.frozen _; have hTB := TB.noted HM.out hn1.undrew bT.out; have hce8 := hTB.cells; have uo0 : w1.cell? ⟨w.heap.size,0,none⟩ = some (.int .i64 x.number) := hce8.1; have uo1 : w1.cell? ⟨w.heap.size,1,none⟩ = some (.int .i64 x.owner) := hce8.2.1; have un0 : w1.cell? ⟨w.heap.size + 1,0,none⟩ = some (.int .i64 new.number) := hce8.2.2.1; have un1 : w1.cell? ⟨w.heap.size + 1,1,none⟩ = some (.int .i64 new.owner) := hce8.2.2.2.1; have uz0 : w1.cell? ⟨w.heap.size + 1 + 1,0,none⟩ = some (.int .i64 0) := hce8.2.2.2.2.1; have uz1 : w1.cell? ⟨w.heap.size + 1 + 1,1,none⟩ = some (.int .i64 0) := hce8.2.2.2.2.2.1; have ux0 : w1.cell? ⟨w.heap.size + 1 + 1 + 1 + 1,0,none⟩ = some (.int .i64 x.number) := hce8.2.2.2.2.2.2.1; have ux1 : w1.cell? ⟨w.heap.size + 1 + 1 + 1 + 1,1,none⟩ = some (.int .i64 x.owner) := hce8.2.2.2.2.2.2.2; have yz0 := hTB.2.2.1.frozen 0; have yz1 := hTB.2.2.1.frozen 1; have HTB := Lib.hid hTB; clear hTB hce8; have HN := Lib.hid hn1.undrew; clear hn1 hr1 hce))
 have hb0 : b ≠ w.heap.size := by have := HR.out.row.lt; omega
 have hb1 : b ≠ w.heap.size + 1 := by have := HR.out.row.lt; omega
 have hb2 : b ≠ w.heap.size + 1 + 1 := by have := HR.out.row.lt; omega
 have hb4 : b ≠ w.heap.size + 1 + 1 + 1 + 1 := by have := HR.out.row.lt; omega
 have hc0 := Ne.symm hb0
 have hc1 := Ne.symm hb1
 have hc2 := Ne.symm hb2
 have hc4 := Ne.symm hb4
 go_wp2
 go_region
 go_wp2
 go_region
 go_wp2
 refine bodyPost_ret (v := .tuple #[.agg #[.int .i64 x.number,.int .i64 x.owner],.bool true,.int .i64 0]) (by simp [results,Tryz.results135,go_sem,uz0,uz1]) rfl ⟨rfl,?_⟩
 refine Left.post HR.out HM.out KWA.out (left_set ty HR1.out HM1.out HN.out k new) (S := [w.heap.size + 1 + 1]) (fun z hz => by simp at hz; subst hz; exact ⟨by omega,hsz.out⟩) ?_
 exact ((Sq.r.drew.drewN _).setCell (.inl (by simp)) _).setCell (.inl (by simp)) _
end RowG
end Go.Proofs.YtmlnedilbneekaaGreat