/- Rows of api.Head: contracts of their methods. -/
import Derived.Test.YtmlnedilbneekaaGreatMeter
import Derived.Test.YtmlnedilbneekaaGreatMake
import Derived.Deep.RegionHeld3
import Derived.RegionTactic
import Derived.BigRegion
import Derived.Outline
import Derived.Handy
namespace Go.Proofs.YtmlnedilbneekaaGreat
structure Hd where
 gen : Int
 state : Int
 stamp : Int
 thread : Int
 doomed : Bool
 who : Int
deriving DecidableEq
def Hd.zero : Hd := ⟨0,0,0,0,false,0⟩
namespace RowH
open Go.RowKit
set_option linter.unusedVariables false
def cells (x : Hd) : List Value := [.int .i64 x.gen,.int .i64 x.state,.int .i64 x.stamp,.int .i64 x.thread,.bool x.doomed,.int .i64 x.who]
structure Ty (R T : TypeId) : Prop where
 rt : R ≠ T
 ra : R ≠ 216
 re : R ≠ 115
 et : 115 ≠ T
 ea : 115 ≠ 216
structure At (R : TypeId) (w : World) (r b : Nat) (kind : Int) (mp : Option Nat) (l : List Hd) : Prop where
 blk : Blk w r R #[PM mp,.int .i64 kind,.slice (some ⟨b,0,none⟩) l.length l.length]
 row : Blk w b 115 (l.flatMap cells).toArray
 fits : l.length ≤ 4096
theorem cells_length (l : List Hd) : (l.flatMap cells).length = l.length * 6 := by
 induction l with
 | nil => rfl
 | cons x l ih => simp only [List.flatMap_cons,List.length_append,List.length_cons,ih]; simp [cells]; omega
theorem cells_get (l : List Hd) (i : Nat) (x : Hd) (h : l[i]? = some x) (j : Nat) (u : Value) (hu : (cells x)[j]? = some u) : (l.flatMap cells)[i * 6 + j]? = some u := by
 induction l generalizing i with
 | nil => simp at h
 | cons y l ih =>
   have hj : j < (cells x).length := (List.getElem?_eq_some_iff.1 hu).1
   rw [List.flatMap_cons]
   cases i with
   | zero =>
     simp at h; subst h
     rw [Nat.zero_mul,Nat.zero_add,List.getElem?_append_left hj]
     exact hu
   | succ i =>
     have e : (i + 1) * 6 + j = (cells y).length + (i * 6 + j) := by simp [cells]; omega
     rw [e,List.getElem?_append_right (by omega),Nat.add_sub_cancel_left]
     exact ih i (by simpa using h)
theorem cells_set (l : List Hd) (i : Nat) (x : Hd) : ((((((l.flatMap cells).set (i * 6) (.int .i64 x.gen)).set (i * 6 + 1) (.int .i64 x.state)).set (i * 6 + 2) (.int .i64 x.stamp)).set (i * 6 + 3) (.int .i64 x.thread)).set (i * 6 + 4) (.bool x.doomed)).set (i * 6 + 5) (.int .i64 x.who) = (l.set i x).flatMap cells := by
 induction l generalizing i with
 | nil => simp
 | cons y l ih =>
   cases i with
   | zero => simp [cells]
   | succ i =>
     have e : (i + 1) * 6 = i * 6 + 1 + 1 + 1 + 1 + 1 + 1 := by omega
     rw [e]
     simp only [List.flatMap_cons,cells,List.cons_append,List.nil_append,List.set_cons_succ]
     rw [← ih i]
     skip
theorem At.keeps {R : TypeId} {w w' : World} {S : List Nat} {r b : Nat} {kind : Int} {mp : Option Nat} {l : List Hd} (h : At R w r b kind mp l) (hk : Keeps S w w') (h1 : r ∉ S) (h2 : b ∉ S) : At R w' r b kind mp l :=
 ⟨h.blk.keeps hk h1,h.row.keeps hk h2,h.fits⟩
theorem At.foot {R T : TypeId} (ty : Ty R T) {w : World} {r b : Nat} {kind : Int} {mp : Option Nat} {l : List Hd} (h : At R w r b kind mp l) {mp' : Option Nat} {lb : Nat} {s : MS} (hm : MetAt T w mp' lb s) : r ∉ foot mp' lb ∧ b ∉ foot mp' lb :=
 ⟨apart hm h.blk ty.rt ty.ra,apart hm h.row ty.et ty.ea⟩
theorem At.noted {R T : TypeId} {w w' : World} {r b : Nat} {kind : Int} {mp : Option Nat} {l : List Hd} (h : At R w r b kind mp l) {mp' : Option Nat} {lb : Nat} {s : MS} (ha : r ∉ Go.Proofs.YtmlnedilbneekaaGreat.foot mp' lb ∧ b ∉ Go.Proofs.YtmlnedilbneekaaGreat.foot mp' lb) (hn : Noted T mp' lb s w w') : At R w' r b kind mp l := by
 obtain ⟨_,_,hk,_⟩ := hn
 exact h.keeps hk ha.1 ha.2
theorem At.cell {R : TypeId} {w : World} {r b : Nat} {kind : Int} {mp : Option Nat} {l : List Hd} (h : At R w r b kind mp l) {k : Nat} {x : Hd} (hx : l[k]? = some x) :
 w.cell? ⟨b,k * 6,none⟩ = some (.int .i64 x.gen) ∧ w.cell? ⟨b,k * 6 + 1,none⟩ = some (.int .i64 x.state) ∧ w.cell? ⟨b,k * 6 + 2,none⟩ = some (.int .i64 x.stamp) ∧ w.cell? ⟨b,k * 6 + 3,none⟩ = some (.int .i64 x.thread) ∧ w.cell? ⟨b,k * 6 + 4,none⟩ = some (.bool x.doomed) ∧ w.cell? ⟨b,k * 6 + 5,none⟩ = some (.int .i64 x.who) := by
 have hc := fun j u (hu : (cells x)[j]? = some u) => (h.row.cell (k * 6 + j)).trans (by simpa using cells_get l k x hx j u hu)
 exact ⟨hc 0 _ rfl,hc 1 _ rfl,hc 2 _ rfl,hc 3 _ rfl,hc 4 _ rfl,hc 5 _ rfl⟩
def Left (R T : TypeId) (r b : Nat) (kind : Int) (mp : Option Nat) (l : List Hd) (lb : Nat) (s : MS) (w w' : World) : Prop :=
 At R w' r b kind mp l ∧ ∃ lb',MetAt T w' mp lb' s ∧ Keeps (b :: foot mp lb) w w' ∧ (lb' = lb ∨ w.heap.size ≤ lb')
theorem left_noted {R T : TypeId} (ty : Ty R T) {w w' : World} {r b : Nat} {kind : Int} {mp : Option Nat} {l : List Hd} {lb : Nat} {s s' : MS} (hr : At R w r b kind mp l) (hm : MetAt T w mp lb s) (hn : Noted T mp lb s' w w') : Left R T r b kind mp l lb s' w w' := by
 have h1 := hr.noted (hr.foot ty hm) hn
 obtain ⟨lb',h2,h3,h4⟩ := hn
 exact ⟨h1,lb',h2,h3.mono (by simp +contextual),h4⟩
theorem Left.keeps {R T : TypeId} (ty : Ty R T) {w w' w2 : World} {r b : Nat} {kind : Int} {mp : Option Nat} {l : List Hd} {lb : Nat} {s : MS} (h : Left R T r b kind mp l lb s w w') (hk : Keeps [] w' w2) : Left R T r b kind mp l lb s w w2 := by
 obtain ⟨h1,lb',h2,h3,h4⟩ := h
 exact ⟨h1.keeps hk (by simp) (by simp),lb',h2.keeps hk (by simp),h3.trans hk (by simp),h4⟩
theorem left_set {R T : TypeId} (ty : Ty R T) {w w' : World} {r b : Nat} {kind : Int} {mp : Option Nat} {l : List Hd} {lb : Nat} {s s' : MS} (hr : At R w r b kind mp l) (hm : MetAt T w mp lb s) (hn : Noted T mp lb s' w w') (k : Nat) (x : Hd) :
 Left R T r b kind mp (l.set k x) lb s' w ((((((w'.setCell ⟨b,k * 6,none⟩ (.int .i64 x.gen)).setCell ⟨b,k * 6 + 1,none⟩ (.int .i64 x.state)).setCell ⟨b,k * 6 + 2,none⟩ (.int .i64 x.stamp)).setCell ⟨b,k * 6 + 3,none⟩ (.int .i64 x.thread)).setCell ⟨b,k * 6 + 4,none⟩ (.bool x.doomed)).setCell ⟨b,k * 6 + 5,none⟩ (.int .i64 x.who)) := by
 have h1 := hr.noted (hr.foot ty hm) hn
 have hne := (hr.foot ty hm).2
 obtain ⟨lb',h2,h3,h4⟩ := hn
 have hbr : r ≠ b := h1.blk.ne_ h1.row ty.re
 have hkb : Keeps [b] w' ((((((w'.setCell ⟨b,k * 6,none⟩ (.int .i64 x.gen)).setCell ⟨b,k * 6 + 1,none⟩ (.int .i64 x.state)).setCell ⟨b,k * 6 + 2,none⟩ (.int .i64 x.stamp)).setCell ⟨b,k * 6 + 3,none⟩ (.int .i64 x.thread)).setCell ⟨b,k * 6 + 4,none⟩ (.bool x.doomed)).setCell ⟨b,k * 6 + 5,none⟩ (.int .i64 x.who)) := (((((Sq.r.setCell (.inl (by simp)) _).setCell (.inl (by simp)) _).setCell (.inl (by simp)) _).setCell (.inl (by simp)) _).setCell (.inl (by simp)) _).setCell (.inl (by simp)) _
 have hb' : b ∉ foot mp lb' := (h1.foot ty h2).2
 refine ⟨⟨?_,?_,?_⟩,lb',?_,?_,h4⟩
 · have := h1.blk.keeps hkb (by simpa using hbr)
   simpa using this
 · have e : ((((((l.flatMap cells).toArray.setIfInBounds (k * 6) (.int .i64 x.gen)).setIfInBounds (k * 6 + 1) (.int .i64 x.state)).setIfInBounds (k * 6 + 2) (.int .i64 x.stamp)).setIfInBounds (k * 6 + 3) (.int .i64 x.thread)).setIfInBounds (k * 6 + 4) (.bool x.doomed)).setIfInBounds (k * 6 + 5) (.int .i64 x.who) = ((l.set k x).flatMap cells).toArray := by
    rw [← cells_set]; simp
   refine (congrArg (Blk _ b 115) e).mp ?_
   exact (((((h1.row.set_ (k * 6) (.int .i64 x.gen)).set_ (k * 6 + 1) (.int .i64 x.state)).set_ (k * 6 + 2) (.int .i64 x.stamp)).set_ (k * 6 + 3) (.int .i64 x.thread)).set_ (k * 6 + 4) (.bool x.doomed)).set_ (k * 6 + 5) (.int .i64 x.who)
 · simpa using h1.fits
 · exact h2.keeps hkb (fun q hq hq' => by simp at hq'; subst hq'; exact hb' hq)
 · exact (h3.mono (T := b :: foot mp lb) (by simp +contextual)).trans hkb (fun q hq => .inl (by simp at hq; simp [hq]))
theorem cells_one (l : List Hd) : ∀ u ∈ l.flatMap cells,u.oneCell' = true := by
 intro u hu
 rw [List.mem_flatMap] at hu
 obtain ⟨x,_,hx⟩ := hu
 simp only [cells,List.mem_cons,List.not_mem_nil,or_false] at hx
 rcases hx with rfl | rfl | rfl | rfl | rfl | rfl <;> rfl
theorem At.own {R : TypeId} {w : World} {r b : Nat} {kind : Int} {mp : Option Nat} {l : List Hd} (h : At R w r b kind mp l) : w.ownsRow 0 115 6 (.slice (some ⟨b,0,none⟩) l.length l.length) l.length (l.flatMap cells) :=
 ⟨cells_length l,.inr ⟨b,l.length,_,rfl,Nat.zero_le _,h.row,Nat.le_refl _,by have := h.fits; unfold maxLen; omega,by simpa using cells_length l,List.take_of_length_le (by simpa using Nat.le_of_eq (cells_length l))⟩⟩
abbrev R : TypeId := 238
end RowH
namespace RowH
open Go.RowKit
attribute [local go_sem ↓] Go.wp_at_zero Go.wp_at_succ
theorem ty : Ty R MT := ⟨by decide,by decide,by decide,by decide,by decide⟩
theorem Tryz.info : (Tryz.prog.info? 115).map (fun i => (i.zero,i.size,i.bytes)) = some (some (.agg #[.int .i64 0,.int .i64 0,.int .i64 0,.int .i64 0,.bool false,.int .i64 0]),6,48) := by kernel_rfl
theorem newRow_ptr (w : World) (p : Option Addr) (kind : Int) (n : Nat) (h1 : 1 ≤ n) (h2 : n ≤ 4096) :
 Calls Tryz.prog 112 #[.pointer p,.int .i64 kind,.int .i64 n] w fun e w' =>
  e = .returned (.tuple #[.pointer (some ⟨w.heap.size + 1,0,none⟩),.int .i64 0]) ∧ (Blk w' (w.heap.size + 1) 238 #[.pointer p,.int .i64 kind,.slice (some ⟨w.heap.size,0,none⟩) n n] ∧ Blk w' w.heap.size 115 ((List.replicate n Hd.zero).flatMap cells).toArray) ∧ Keeps [] w w' ∧ w'.heap.size = w.heap.size + 2 := by
 obtain ⟨i0,hi,hz0,hz1,hz2⟩ := info_parts Tryz.info
 have hmk : ∀ w : World,(Instr.makeSlice 229 (.int .i64 (n : Int)) (.int .i64 (n : Int))).run Tryz.prog w = .ok (.slice (some ⟨w.heap.size,0,none⟩) n n) (w.alloc (.cells ((List.replicate n Hd.zero).flatMap cells).toArray 115)) := fun w => by
  have := run_make (P := Tryz.prog) w 229 115 i0 _ Tryz.underlying229 hi hz0 .i64 .i64 n n (by omega) (Int.le_refl _) (by rw [hz2]; omega) (by omega)
  simp only [Int.toNat_natCast] at this
  rw [this,hz1,madeCells_rep cells 6 (by decide) (fun _ => rfl) Hd.zero n (z := (Value.agg #[.int .i64 0,.int .i64 0,.int .i64 0,.int .i64 0,.bool false,.int .i64 0]).cells) rfl]
 clear hi hz0 hz1 hz2
 have g1 : decide ((n : Int) < 1) = false := by simp; omega
 have g2 : decide ((4096 : Int) < (n : Int)) = false := by simp; omega
 go_enter Tryz.func112,Tryz.ntmps112
 go_wp2
 go_ret2
 exact ⟨rfl,⟨new_at _ _ _ (by simp),(Blk.new _ _ _).alloc _⟩,by simp,by simp⟩
theorem newRow_ok (w : World) (mp : Option Nat) (kind : Int) (n : Nat) (h1 : 1 ≤ n) (h2 : n ≤ 4096) :
 Calls Tryz.prog 112 #[PM mp,.int .i64 kind,.int .i64 n] w fun e w' =>
  e = .returned (.tuple #[.pointer (some ⟨w.heap.size + 1,0,none⟩),.int .i64 0]) ∧ At R w' (w.heap.size + 1) w.heap.size kind mp (List.replicate n Hd.zero) ∧ Keeps [] w w' ∧ w'.heap.size = w.heap.size + 2 :=
 (newRow_ptr w _ kind n h1 h2).mono fun e w' ⟨he,⟨h3,h4⟩,h5,h6⟩ => ⟨he,⟨by simpa [PM] using h3,h4,by simpa using h2⟩,h5,h6⟩
theorem all_any (w : World) (r b : Nat) (kind : Int) (mp : Option Nat) (l : List Hd) (hr : At R w r b kind mp l) :
 Calls Tryz.prog 138 #[.pointer (some ⟨r,0,none⟩)] w fun e w' => ∃ v,e = .returned v ∧ NewRow 115 6 l.length (l.flatMap cells) [] w w' v := by
 have c2 : w.cell? ⟨r,2,none⟩ = some (.slice (some ⟨b,0,none⟩) l.length l.length) := (hr.blk.cell 2).trans rfl
 have hrl := hr.blk.lt
 have HO := Lib.hid hr.own
 have hf := hr.fits
 clear hr
 obtain ⟨i0,hi,hz0,hz1,hz2⟩ := info_parts Tryz.info
 have hmx : Hid (0 + l.length ≤ maxLen) := by unfold Hid maxLen; omega
 have hby : Hid ((0 + l.length) * 48 ≤ 140737488355328) := by unfold Hid; omega
 go_enter Tryz.func138,Tryz.ntmps138
 go_wp2_with (at_builtin; refine wpList_append_row rfl (.tmp 3) (.tmp 7) 229 rfl 115 i0 _ 6 48 Tryz.underlying229 hi hz0 hz1 hz2 rfl (by decide) (.slice (some ⟨w.heap.size,0,none⟩) 0 0) 0 [] rfl (World.ownsRow_made _ _ _ (Nat.zero_le _) (by decide) rfl) (.slice (some ⟨b,0,none⟩) l.length l.length) l.length (l.flatMap cells) rfl (HO.out.alloc _) (cells_one _) hmx.out hby.out ?_; intro v1 w1 hown1 hg1 hat1)
 go_ret
 refine ⟨v1,rfl,own_base (by simpa using hown1) ?_,Sq.r.alloc _ |>.grown hg1 ?_⟩
 · intro k hk
   rcases hat1 with e | e <;> rw [e] at hk <;> simp [Value.ownBlock] at hk <;> omega
 · simp [Value.ownBlock]
def ZW (w : World) : World := (w.alloc (.cells #[.int .i64 0,.int .i64 0,.int .i64 0,.int .i64 0,.bool false,.int .i64 0] 115)).alloc (.cells #[.int .i64 0,.int .i64 0,.int .i64 0,.int .i64 0,.bool false,.int .i64 0] 115)
theorem kept_note {T : TypeId} {mp : Option Nat} {lb : Nat} {s s0 : MS} {w0 w w1 : World} {g : Nat} {t : TypeId} {cs : Array Value} (hm : MetAt T w0 mp lb s0) (hn : Noted T mp lb s w w1) (hb : Blk w g t cs) (hg : w0.heap.size ≤ g) : Blk w1 g t cs := by
 obtain ⟨_,_,hk,_⟩ := hn
 exact hb.keeps hk (fun h => by have := foot_lt hm h; omega)
theorem Left.post {R T : TypeId} {w wa w1 w2 : World} {r b : Nat} {kind : Int} {mp : Option Nat} {l0 l : List Hd} {lb : Nat} {s0 s : MS} (hr : At R w r b kind mp l0) (hm : MetAt T w mp lb s0) (hk : Keeps [] w wa) (h : Left R T r b kind mp l lb s wa w1)
 {S : List Nat} (hS : ∀ z,z ∈ S → w.heap.size ≤ z ∧ z < wa.heap.size) (hk2 : Keeps S w1 w2) : Left R T r b kind mp l lb s w w2 := by
 obtain ⟨h1,lb',h2,h3,h4⟩ := h
 have r0 := hr.blk.lt
 have r1 := hr.row.lt
 have hz := hk.size
 refine ⟨h1.keeps hk2 (fun q => by have := hS _ q; omega) (fun q => by have := hS _ q; omega),lb',h2.keeps hk2 ?_,((hk.mono (T := b :: foot mp lb) (by simp)).trans h3 (fun x hx => .inl hx)).trans hk2 (fun x hx => .inr (hS x hx).1),by omega⟩
 intro q hq hq2
 have h5 := hS q hq2
 cases mp with
 | none => simp [foot] at hq
 | some g =>
   have h6 := foot_lt hm (k := g) (by simp [foot])
   have h7 := foot_lt hm (k := lb) (by simp [foot])
   simp only [foot,List.mem_cons,List.not_mem_nil,or_false] at hq
   omega
set_option maxHeartbeats 1000000 in
theorem load_at (w : World) (r b : Nat) (kind : Int) (mp : Option Nat) (l : List Hd) (hr : At R w r b kind mp l) (lb : Nat) (s : MS) (hm : MetAt MT w mp lb s) (hl : Room mp s)
 (k : Nat) (x : Hd) (hx : l[k]? = some x) :
 Calls Tryz.prog 110 #[.pointer (some ⟨r,0,none⟩),.int .i64 k] w fun e w' =>
  e = .returned (.tuple #[.agg #[.int .i64 x.gen,.int .i64 x.state,.int .i64 x.stamp,.int .i64 x.thread,.bool x.doomed,.int .i64 x.who],.int .i64 0]) ∧ Left R MT r b kind mp l lb (s.note kind k 1 true) w w' := by
 have hk : k < l.length := (List.getElem?_eq_some_iff.1 hx).1
 have kwa : Keeps [] w (ZW w) := ((Keeps.refl [] w).alloc _).alloc _
 have bZ := Lib.hid (show Blk (ZW w) w.heap.size 115 #[.int .i64 0,.int .i64 0,.int .i64 0,.int .i64 0,.bool false,.int .i64 0] from (Blk.new _ _ _).alloc _)
 have HR1 := Lib.hid (hr.keeps kwa (by simp) (by simp))
 have HM1 := Lib.hid (hm.keeps kwa (by simp))
 have KWA := Lib.hid kwa
 have a2 : (ZW w).cell? ⟨r,2,none⟩ = some (.slice (some ⟨b,0,none⟩) l.length l.length) := (HR1.out.blk.cell 2).trans rfl
 unfold ZW at a2
 have HR := Lib.hid hr
 have HM := Lib.hid hm
 have HL := Lib.hid hl
 have HX := Lib.hid hx
 have hf := hr.fits
 have hki : (k : Int) < (l.length : Int) := by omega
 clear hr hm hl hx
 clear kwa
 go_enter Tryz.func110,Tryz.ntmps110
 go_wp2
 rw [show (w.alloc (.cells #[.int .i64 0,.int .i64 0,.int .i64 0,.int .i64 0,.bool false,.int .i64 0] 115)).alloc (.cells #[.int .i64 0,.int .i64 0,.int .i64 0,.int .i64 0,.bool false,.int .i64 0] 115) = ZW w from rfl]
 have hsz : Hid (w.heap.size < (ZW w).heap.size) := by unfold Hid ZW; simp; omega
 clear a2
 generalize ZW w = wa at *
 have a0 : wa.cell? ⟨r,0,none⟩ = some (PM mp) := (HR1.out.blk.cell 0).trans rfl
 have a1 : wa.cell? ⟨r,1,none⟩ = some (.int .i64 kind) := (HR1.out.blk.cell 1).trans rfl
 go_region_held3 (fun w' => w'.cell? ⟨r,0,none⟩ = some (PM mp) ∧ w'.cell? ⟨r,1,none⟩ = some (.int .i64 kind)) (first | exact ⟨d0,d1⟩ | go_keep) ((go_at_call 142; refine (note_any _ mp lb s HM1.out.drew _ _ _ _ HL.out).mono ?_; rintro e w1 ⟨rfl,hn1⟩; have hr1 := HR1.out.noted (HR1.out.foot ty HM1.out) hn1.undrew; have d0 : w1.cell? ⟨r,0,none⟩ = some (PM mp) := (hr1.blk.cell 0).trans rfl; have d1 : w1.cell? ⟨r,1,none⟩ = some (.int .i64 kind) := (hr1.blk.cell 1).trans rfl; have d2 : w1.cell? ⟨r,2,none⟩ = some (.slice (some ⟨b,0,none⟩) l.length l.length) := (hr1.blk.cell 2).trans rfl; have hce := hr1.cell HX.out; have g0 : w1.cell? ⟨b,k * 6,none⟩ = some (.int .i64 x.gen) := hce.1; have g1 : w1.cell? ⟨b,k * 6 + 1,none⟩ = some (.int .i64 x.state) := hce.2.1; have g2 : w1.cell? ⟨b,k * 6 + 2,none⟩ = some (.int .i64 x.stamp) := hce.2.2.1; have g3 : w1.cell? ⟨b,k * 6 + 3,none⟩ = some (.int .i64 x.thread) := hce.2.2.2.1; have g4 : w1.cell? ⟨b,k * 6 + 4,none⟩ = some (.bool x.doomed) := hce.2.2.2.2.1; have g5 : w1.cell? ⟨b,k * 6 + 5,none⟩ = some (.int .i64 x.who) := hce.2.2.2.2.2; have e3 : w1.frozen? ⟨b,k * 6,none⟩ = false := hr1.row.frozen _; have e4 : w1.frozen? ⟨b,k * 6 + 1,none⟩ = false := hr1.row.frozen _; have e5 : w1.frozen? ⟨b,k * 6 + 2,none⟩ = false := hr1.row.frozen _; have e6 : w1.frozen? ⟨b,k * 6 + 3,none⟩ = false := hr1.row.frozen _; have e7 : w1.frozen? ⟨b,k * 6 + 4,none⟩ = false := hr1.row.frozen _; have e8 : w1.frozen? ⟨b,k * 6 + 5,none⟩ = false := hr1.row.frozen _; have bz1 := kept_note HM.out hn1.undrew bZ.out (Nat.le_refl _); have z0 : w1.cell? ⟨w.heap.size,0,none⟩ = some (.int .i64 0) := (bz1.cell 0).trans rfl; have y0 := bz1.frozen 0; have z1 : w1.cell? ⟨w.heap.size,1,none⟩ = some (.int .i64 0) := (bz1.cell 1).trans rfl; have y1 := bz1.frozen 1; have z2 : w1.cell? ⟨w.heap.size,2,none⟩ = some (.int .i64 0) := (bz1.cell 2).trans rfl; have y2 := bz1.frozen 2; have z3 : w1.cell? ⟨w.heap.size,3,none⟩ = some (.int .i64 0) := (bz1.cell 3).trans rfl; have y3 := bz1.frozen 3; have z4 : w1.cell? ⟨w.heap.size,4,none⟩ = some (.bool false) := (bz1.cell 4).trans rfl; have y4 := bz1.frozen 4; have z5 : w1.cell? ⟨w.heap.size,5,none⟩ = some (.int .i64 0) := (bz1.cell 5).trans rfl; have y5 := bz1.frozen 5; clear bz1; have HN := Lib.hid hn1.undrew; clear hn1 hr1 hce))
 go_wp2
 refine bodyPost_ret (v := .tuple #[.agg #[.int .i64 x.gen,.int .i64 x.state,.int .i64 x.stamp,.int .i64 x.thread,.bool x.doomed,.int .i64 x.who],.int .i64 0]) (by simp [results,Tryz.results110,go_sem,z0,z1,z2,z3,z4,z5]) rfl ⟨rfl,?_⟩
 refine Left.post HR.out HM.out KWA.out (left_noted ty HR1.out HM1.out HN.out) (S := [w.heap.size]) (fun z hz => by simp at hz; subst hz; exact ⟨Nat.le_refl _,hsz.out⟩) ?_
 exact (((((Sq.r.setCell (.inl (by simp)) _).setCell (.inl (by simp)) _).setCell (.inl (by simp)) _).setCell (.inl (by simp)) _).setCell (.inl (by simp)) _).setCell (.inl (by simp)) _
theorem len_any (w : World) (r b : Nat) (kind : Int) (mp : Option Nat) (l : List Hd) (hr : At R w r b kind mp l) :
 Calls Tryz.prog 143 #[.pointer (some ⟨r,0,none⟩)] w fun e w' => e = .returned (.int .i64 l.length) ∧ w = w' := by
 have c2 : w.cell? ⟨r,2,none⟩ = some (.slice (some ⟨b,0,none⟩) l.length l.length) := (hr.blk.cell 2).trans rfl
 have hf := hr.fits
 clear hr
 go_enter Tryz.func143,Tryz.ntmps143
 go_wp2
 go_ret
 exact ⟨rfl,rfl⟩
theorem load_no (w : World) (r b : Nat) (kind : Int) (mp : Option Nat) (l : List Hd) (hr : At R w r b kind mp l) (i : Int) (hi : i < 0 ∨ (l.length : Int) ≤ i) :
 Calls Tryz.prog 110 #[.pointer (some ⟨r,0,none⟩),.int .i64 i] w fun e w' => e = .returned (.tuple #[.agg #[.int .i64 Hd.zero.gen,.int .i64 Hd.zero.state,.int .i64 Hd.zero.stamp,.int .i64 Hd.zero.thread,.bool Hd.zero.doomed,.int .i64 Hd.zero.who],.int .i64 2]) ∧ Keeps [] w w' := by
 have kwa : Keeps [] w (ZW w) := ((Keeps.refl [] w).alloc _).alloc _
 have c2 : (ZW w).cell? ⟨r,2,none⟩ = some (.slice (some ⟨b,0,none⟩) l.length l.length) := ((hr.blk.keeps kwa (by simp)).cell 2).trans rfl
 have bZ := Lib.hid (Blk.new w 115 #[.int .i64 0,.int .i64 0,.int .i64 0,.int .i64 0,.bool false,.int .i64 0])
 unfold ZW at c2
 have hf := hr.fits
 clear hr kwa
 rcases hi with hi | hi
 · go_enter Tryz.func110,Tryz.ntmps110
   go_wp2
   refine bodyPost_ret (v := .tuple #[.agg #[.int .i64 Hd.zero.gen,.int .i64 Hd.zero.state,.int .i64 Hd.zero.stamp,.int .i64 Hd.zero.thread,.bool Hd.zero.doomed,.int .i64 Hd.zero.who],.int .i64 2]) (by simp [results,Tryz.results110,go_sem,Hd.zero]) rfl ⟨rfl,?_⟩
   simp
 ·
  by_cases h0 : 0 ≤ i
  · have hd : decide (i < (l.length : Int)) = false := by simp; omega
    go_enter Tryz.func110,Tryz.ntmps110
    go_wp2
    refine bodyPost_ret (v := .tuple #[.agg #[.int .i64 Hd.zero.gen,.int .i64 Hd.zero.state,.int .i64 Hd.zero.stamp,.int .i64 Hd.zero.thread,.bool Hd.zero.doomed,.int .i64 Hd.zero.who],.int .i64 2]) (by simp [results,Tryz.results110,go_sem,Hd.zero]) rfl ⟨rfl,?_⟩
    simp
  · omega
end RowH
end Go.Proofs.YtmlnedilbneekaaGreat