/- Rows of uint64: contracts of their methods. -/
import Derived.Test.YtmlnedilbneekaaGreatMeter
import Derived.Test.YtmlnedilbneekaaGreatMake
import Derived.Deep.RegionHeld3
import Derived.Outline
import Derived.Handy
namespace Go.Proofs.YtmlnedilbneekaaGreat
namespace RowU
open Go.RowKit
set_option linter.unusedVariables false
def cells (x : Int) : List Value := [.int .u64 x]
structure Ty (R T : TypeId) : Prop where
 rt : R ≠ T
 ra : R ≠ 216
 re : R ≠ 45
 et : 45 ≠ T
 ea : 45 ≠ 216
structure At (R : TypeId) (w : World) (r b : Nat) (kind : Int) (mp : Option Nat) (l : List Int) : Prop where
 blk : Blk w r R #[PM mp,.int .i64 kind,.slice (some ⟨b,0,none⟩) l.length l.length]
 row : Blk w b 45 (l.flatMap cells).toArray
 fits : l.length ≤ 4096
theorem cells_length (l : List Int) : (l.flatMap cells).length = l.length := by
 induction l with
 | nil => rfl
 | cons x l ih => simpa [cells] using ih
theorem cells_map (l : List Int) : l.flatMap cells = l.map (Value.int .u64) := by
 induction l with
 | nil => rfl
 | cons x l ih => simpa [cells] using ih
theorem cells_get (l : List Int) (i : Nat) (x : Int) (h : l[i]? = some x) : (l.flatMap cells)[i]? = some (.int .u64 x) := by
 rw [cells_map,List.getElem?_map,h]; rfl
theorem cells_set (l : List Int) (i : Nat) (x : Int) : (l.flatMap cells).toArray.setIfInBounds i (.int .u64 x) = ((l.set i x).flatMap cells).toArray := by
 rw [cells_map,cells_map,List.map_set]
 simp
theorem At.keeps {R : TypeId} {w w' : World} {S : List Nat} {r b : Nat} {kind : Int} {mp : Option Nat} {l : List Int} (h : At R w r b kind mp l) (hk : Keeps S w w') (h1 : r ∉ S) (h2 : b ∉ S) : At R w' r b kind mp l :=
 ⟨h.blk.keeps hk h1,h.row.keeps hk h2,h.fits⟩
theorem At.foot {R T : TypeId} (ty : Ty R T) {w : World} {r b : Nat} {kind : Int} {mp : Option Nat} {l : List Int} (h : At R w r b kind mp l) {mp' : Option Nat} {lb : Nat} {s : MS} (hm : MetAt T w mp' lb s) : r ∉ foot mp' lb ∧ b ∉ foot mp' lb :=
 ⟨apart hm h.blk ty.rt ty.ra,apart hm h.row ty.et ty.ea⟩
theorem At.noted {R T : TypeId} {w w' : World} {r b : Nat} {kind : Int} {mp : Option Nat} {l : List Int} (h : At R w r b kind mp l) {mp' : Option Nat} {lb : Nat} {s : MS} (ha : r ∉ Go.Proofs.YtmlnedilbneekaaGreat.foot mp' lb ∧ b ∉ Go.Proofs.YtmlnedilbneekaaGreat.foot mp' lb) (hn : Noted T mp' lb s w w') : At R w' r b kind mp l := by
 obtain ⟨_,_,hk,_⟩ := hn
 exact h.keeps hk ha.1 ha.2
theorem At.cell {R : TypeId} {w : World} {r b : Nat} {kind : Int} {mp : Option Nat} {l : List Int} (h : At R w r b kind mp l) {k : Nat} {x : Int} (hx : l[k]? = some x) : w.cell? ⟨b,k,none⟩ = some (.int .u64 x) := by
 rw [h.row.cell k]
 simpa using cells_get l k x hx
def Left (R T : TypeId) (r b : Nat) (kind : Int) (mp : Option Nat) (l : List Int) (lb : Nat) (s : MS) (w w' : World) : Prop :=
 At R w' r b kind mp l ∧ ∃ lb',MetAt T w' mp lb' s ∧ Keeps (b :: foot mp lb) w w' ∧ (lb' = lb ∨ w.heap.size ≤ lb')
theorem left_noted {R T : TypeId} (ty : Ty R T) {w w' : World} {r b : Nat} {kind : Int} {mp : Option Nat} {l : List Int} {lb : Nat} {s s' : MS} (hr : At R w r b kind mp l) (hm : MetAt T w mp lb s) (hn : Noted T mp lb s' w w') : Left R T r b kind mp l lb s' w w' := by
 have h1 := hr.noted (hr.foot ty hm) hn
 obtain ⟨lb',h2,h3,h4⟩ := hn
 exact ⟨h1,lb',h2,h3.mono (by simp +contextual),h4⟩
theorem left_set {R T : TypeId} (ty : Ty R T) {w w' : World} {r b : Nat} {kind : Int} {mp : Option Nat} {l : List Int} {lb : Nat} {s s' : MS} (hr : At R w r b kind mp l) (hm : MetAt T w mp lb s) (hn : Noted T mp lb s' w w') (k : Nat) (x : Int) :
 Left R T r b kind mp (l.set k x) lb s' w (w'.setCell ⟨b,k,none⟩ (.int .u64 x)) := by
 have h1 := hr.noted (hr.foot ty hm) hn
 have hne := (hr.foot ty hm).2
 obtain ⟨lb',h2,h3,h4⟩ := hn
 have hbr : r ≠ b := h1.blk.ne_ h1.row ty.re
 have hkb : Keeps [b] w' (w'.setCell ⟨b,k,none⟩ (.int .u64 x)) := Sq.r.setCell (.inl (by simp)) _
 have hb' : b ∉ foot mp lb' := (h1.foot ty h2).2
 refine ⟨⟨?_,?_,?_⟩,lb',?_,?_,h4⟩
 · have := h1.blk.keeps hkb (by simpa using hbr)
   simpa using this
 · have := h1.row.set_ k (.int .u64 x)
   rwa [cells_set] at this
 · simpa using h1.fits
 · exact h2.keeps hkb (fun q hq hq' => by simp at hq'; subst hq'; exact hb' hq)
 · exact (h3.mono (T := b :: foot mp lb) (by simp +contextual)).setCell (.inl (by simp)) _
theorem cells_one (l : List Int) : ∀ u ∈ l.flatMap cells,u.oneCell' = true := by
 intro u hu
 rw [cells_map,List.mem_map] at hu
 obtain ⟨x,_,rfl⟩ := hu
 rfl
theorem At.own {R : TypeId} {w : World} {r b : Nat} {kind : Int} {mp : Option Nat} {l : List Int} (h : At R w r b kind mp l) : w.ownsRow 0 45 1 (.slice (some ⟨b,0,none⟩) l.length l.length) l.length (l.flatMap cells) :=
 ⟨by rw [cells_map]; simp,.inr ⟨b,l.length,_,rfl,Nat.zero_le _,h.row,Nat.le_refl _,by have := h.fits; unfold maxLen; omega,by rw [cells_map]; simp,by rw [cells_map]; exact List.take_of_length_le (by simp)⟩⟩
abbrev R : TypeId := 235
theorem ty : Ty R MT := ⟨by decide,by decide,by decide,by decide,by decide⟩
end RowU
namespace RowU
open Go.RowKit
attribute [local go_sem ↓] Go.wp_at_zero Go.wp_at_succ
theorem load_at (w : World) (r b : Nat) (kind : Int) (mp : Option Nat) (l : List Int) (hr : At R w r b kind mp l) (lb : Nat) (s : MS) (hm : MetAt MT w mp lb s) (hl : Room mp s)
 (k : Nat) (x : Int) (hx : l[k]? = some x) :
 Calls Tryz.prog 144 #[.pointer (some ⟨r,0,none⟩),.int .i64 k] w fun e w' =>
  e = .returned (.tuple #[.int .u64 x,.int .i64 0]) ∧ Left R MT r b kind mp l lb (s.note kind k 1 true) w w' := by
 have hk : k < l.length := (List.getElem?_eq_some_iff.1 hx).1
 have c0 : w.cell? ⟨r,0,none⟩ = some (PM mp) := (hr.blk.cell 0).trans rfl
 have c1 : w.cell? ⟨r,1,none⟩ = some (.int .i64 kind) := (hr.blk.cell 1).trans rfl
 have c2 : w.cell? ⟨r,2,none⟩ = some (.slice (some ⟨b,0,none⟩) l.length l.length) := (hr.blk.cell 2).trans rfl
 have HR := Lib.hid hr
 have HM := Lib.hid hm
 have HL := Lib.hid hl
 have HX := Lib.hid hx
 have hf := hr.fits
 have hki : (k : Int) < (l.length : Int) := by omega
 clear hr hm hl hx
 go_enter Tryz.func144,Tryz.ntmps144
 go_wp2
 go_region_held3 (fun w' => w'.cell? ⟨r,0,none⟩ = some (PM mp) ∧ w'.cell? ⟨r,1,none⟩ = some (.int .i64 kind)) (first | exact ⟨d0,d1⟩ | go_keep) ((go_at_call 142; refine (note_any _ mp lb s HM.out.drew _ _ _ _ HL.out).mono ?_; rintro e w1 ⟨rfl,hn1⟩; have hr1 := HR.out.noted (HR.out.foot ty HM.out) hn1.undrew; have d0 : w1.cell? ⟨r,0,none⟩ = some (PM mp) := (hr1.blk.cell 0).trans rfl; have d1 : w1.cell? ⟨r,1,none⟩ = some (.int .i64 kind) := (hr1.blk.cell 1).trans rfl; have d2 : w1.cell? ⟨r,2,none⟩ = some (.slice (some ⟨b,0,none⟩) l.length l.length) := (hr1.blk.cell 2).trans rfl; have d3 : w1.cell? ⟨b,k,none⟩ = some (.int .u64 x) := hr1.cell HX.out; have HN := Lib.hid hn1.undrew; clear hn1 hr1))
 go_wp2
 go_ret2
 exact ⟨rfl,left_noted ty HR.out HM.out HN.out⟩
theorem load_no (w : World) (r b : Nat) (kind : Int) (mp : Option Nat) (l : List Int) (hr : At R w r b kind mp l) (i : Int) (hi : i < 0 ∨ (l.length : Int) ≤ i) :
 Calls Tryz.prog 144 #[.pointer (some ⟨r,0,none⟩),.int .i64 i] w fun e w' => e = .returned (.tuple #[.int .u64 0,.int .i64 2]) ∧ w = w' := by
 have c2 : w.cell? ⟨r,2,none⟩ = some (.slice (some ⟨b,0,none⟩) l.length l.length) := (hr.blk.cell 2).trans rfl
 have hf := hr.fits
 clear hr
 rcases hi with hi | hi
 · go_enter Tryz.func144,Tryz.ntmps144
   go_wp2
   go_ret2
   exact ⟨rfl,rfl⟩
 ·
  by_cases h0 : 0 ≤ i
  · have hd : decide (i < (l.length : Int)) = false := by simp; omega
    go_enter Tryz.func144,Tryz.ntmps144
    go_wp2
    go_ret2
    exact ⟨rfl,rfl⟩
  · omega
theorem store_at (w : World) (r b : Nat) (kind : Int) (mp : Option Nat) (l : List Int) (hr : At R w r b kind mp l) (lb : Nat) (s : MS) (hm : MetAt MT w mp lb s) (hl : Room mp s)
 (k : Nat) (x : Int) (hk : k < l.length) :
 Calls Tryz.prog 102 #[.pointer (some ⟨r,0,none⟩),.int .i64 k,.int .u64 x] w fun e w' =>
  e = .returned (.int .i64 0) ∧ Left R MT r b kind mp (l.set k x) lb (s.note kind k 2 true) w w' := by
 have c0 : w.cell? ⟨r,0,none⟩ = some (PM mp) := (hr.blk.cell 0).trans rfl
 have c1 : w.cell? ⟨r,1,none⟩ = some (.int .i64 kind) := (hr.blk.cell 1).trans rfl
 have c2 : w.cell? ⟨r,2,none⟩ = some (.slice (some ⟨b,0,none⟩) l.length l.length) := (hr.blk.cell 2).trans rfl
 have HR := Lib.hid hr
 have HM := Lib.hid hm
 have HL := Lib.hid hl
 have hf := hr.fits
 have hki : (k : Int) < (l.length : Int) := by omega
 obtain ⟨y,hy⟩ : ∃ y,l[k]? = some y := ⟨_,List.getElem?_eq_getElem hk⟩
 have HX := Lib.hid hy
 clear hr hm hl hy
 go_enter Tryz.func102,Tryz.ntmps102
 go_wp2
 go_region_held3 (fun w' => w'.cell? ⟨r,0,none⟩ = some (PM mp) ∧ w'.cell? ⟨r,1,none⟩ = some (.int .i64 kind)) (first | exact ⟨d0,d1⟩ | go_keep) ((go_at_call 142; refine (note_any _ mp lb s HM.out.drew _ _ _ _ HL.out).mono ?_; rintro e w1 ⟨rfl,hn1⟩; have hr1 := HR.out.noted (HR.out.foot ty HM.out) hn1.undrew; have d0 : w1.cell? ⟨r,0,none⟩ = some (PM mp) := (hr1.blk.cell 0).trans rfl; have d1 : w1.cell? ⟨r,1,none⟩ = some (.int .i64 kind) := (hr1.blk.cell 1).trans rfl; have d2 : w1.cell? ⟨r,2,none⟩ = some (.slice (some ⟨b,0,none⟩) l.length l.length) := (hr1.blk.cell 2).trans rfl; have d3 : w1.cell? ⟨b,k,none⟩ = some (.int .u64 y) := hr1.cell HX.out; have e3 : w1.frozen? ⟨b,k,none⟩ = false := hr1.row.frozen k; have HN := Lib.hid hn1.undrew; clear hn1 hr1))
 go_wp2
 go_ret
 exact ⟨rfl,left_set ty HR.out HM.out HN.out k x⟩
theorem store_no (w : World) (r b : Nat) (kind : Int) (mp : Option Nat) (l : List Int) (hr : At R w r b kind mp l) (i x : Int) (hi : i < 0 ∨ (l.length : Int) ≤ i) :
 Calls Tryz.prog 102 #[.pointer (some ⟨r,0,none⟩),.int .i64 i,.int .u64 x] w fun e w' => e = .returned (.int .i64 2) ∧ w = w' := by
 have c2 : w.cell? ⟨r,2,none⟩ = some (.slice (some ⟨b,0,none⟩) l.length l.length) := (hr.blk.cell 2).trans rfl
 have hf := hr.fits
 clear hr
 rcases hi with hi | hi
 · go_enter Tryz.func102,Tryz.ntmps102
   go_wp2
   go_ret
   exact ⟨rfl,rfl⟩
 ·
  by_cases h0 : 0 ≤ i
  · have hd : decide (i < (l.length : Int)) = false := by simp; omega
    go_enter Tryz.func102,Tryz.ntmps102
    go_wp2
    go_ret
    exact ⟨rfl,rfl⟩
  · omega
theorem Tryz.infoU : (Tryz.prog.info? 45).map (fun i => (i.zero,i.size,i.bytes)) = some (some (.int .u64 0),1,8) := by kernel_rfl
theorem all_any (w : World) (r b : Nat) (kind : Int) (mp : Option Nat) (l : List Int) (hr : At R w r b kind mp l) :
 Calls Tryz.prog 149 #[.pointer (some ⟨r,0,none⟩)] w fun e w' => ∃ v,e = .returned v ∧ NewRow 45 1 l.length (l.flatMap cells) [] w w' v := by
 have c2 : w.cell? ⟨r,2,none⟩ = some (.slice (some ⟨b,0,none⟩) l.length l.length) := (hr.blk.cell 2).trans rfl
 have hrl := hr.blk.lt
 have HO := Lib.hid hr.own
 have hf := hr.fits
 clear hr
 obtain ⟨i0,hi,hz0,hz1,hz2⟩ := info_parts Tryz.infoU
 have hmx : Hid (0 + l.length ≤ maxLen) := by unfold Hid maxLen; omega
 have hby : Hid ((0 + l.length) * 8 ≤ 140737488355328) := by unfold Hid; omega
 go_enter Tryz.func149,Tryz.ntmps149
 go_wp2_with (at_builtin; refine wpList_append_row rfl (.tmp 3) (.tmp 7) 187 rfl 45 i0 _ 1 8 Tryz.underlying187 hi hz0 hz1 hz2 rfl (by decide) (.slice (some ⟨w.heap.size,0,none⟩) 0 0) 0 [] rfl (World.ownsRow_made _ _ _ (Nat.zero_le _) (by decide) rfl) (.slice (some ⟨b,0,none⟩) l.length l.length) l.length (l.flatMap cells) rfl (HO.out.alloc _) (cells_one _) hmx.out hby.out ?_; intro v1 w1 hown1 hg1 hat1)
 go_ret
 refine ⟨v1,rfl,own_base (by simpa using hown1) ?_,Sq.r.alloc _ |>.grown hg1 ?_⟩
 · intro k hk
   rcases hat1 with e | e <;> rw [e] at hk <;> simp [Value.ownBlock] at hk <;> omega
 · simp [Value.ownBlock]
theorem newRow_ptr (w : World) (p : Option Addr) (kind : Int) (n : Nat) (h1 : 1 ≤ n) (h2 : n ≤ 4096) :
 Calls Tryz.prog 113 #[.pointer p,.int .i64 kind,.int .i64 n] w fun e w' =>
  e = .returned (.tuple #[.pointer (some ⟨w.heap.size + 1,0,none⟩),.int .i64 0]) ∧ (Blk w' (w.heap.size + 1) 235 #[.pointer p,.int .i64 kind,.slice (some ⟨w.heap.size,0,none⟩) n n] ∧ Blk w' w.heap.size 45 ((List.replicate n 0).flatMap cells).toArray) ∧ Keeps [] w w' ∧ w'.heap.size = w.heap.size + 2 := by
 obtain ⟨i0,hi,hz0,hz1,hz2⟩ := info_parts Tryz.infoU
 have hmk : ∀ w : World,(Instr.makeSlice 187 (.int .i64 (n : Int)) (.int .i64 (n : Int))).run Tryz.prog w = .ok (.slice (some ⟨w.heap.size,0,none⟩) n n) (w.alloc (.cells ((List.replicate n 0).flatMap cells).toArray 45)) := fun w => by
  have := run_make (P := Tryz.prog) w 187 45 i0 _ Tryz.underlying187 hi hz0 .i64 .i64 n n (by omega) (Int.le_refl _) (by rw [hz2]; omega) (by omega)
  simp only [Int.toNat_natCast] at this
  rw [this,hz1,madeCells_rep cells 1 (by decide) (fun _ => rfl) 0 n (z := (Value.int .u64 0).cells) rfl]
 clear hi hz0 hz1 hz2
 have g1 : decide ((n : Int) < 1) = false := by simp; omega
 have g2 : decide ((4096 : Int) < (n : Int)) = false := by simp; omega
 go_enter Tryz.func113,Tryz.ntmps113
 go_wp2
 go_ret2
 exact ⟨rfl,⟨new_at _ _ _ (by simp),(Blk.new _ _ _).alloc _⟩,by simp,by simp⟩
theorem newRow_ok (w : World) (mp : Option Nat) (kind : Int) (n : Nat) (h1 : 1 ≤ n) (h2 : n ≤ 4096) :
 Calls Tryz.prog 113 #[PM mp,.int .i64 kind,.int .i64 n] w fun e w' =>
  e = .returned (.tuple #[.pointer (some ⟨w.heap.size + 1,0,none⟩),.int .i64 0]) ∧ At R w' (w.heap.size + 1) w.heap.size kind mp (List.replicate n 0) ∧ Keeps [] w w' ∧ w'.heap.size = w.heap.size + 2 :=
 (newRow_ptr w _ kind n h1 h2).mono fun e w' ⟨he,⟨h3,h4⟩,h5,h6⟩ => ⟨he,⟨by simpa [PM] using h3,h4,by simpa using h2⟩,h5,h6⟩
end RowU
end Go.Proofs.YtmlnedilbneekaaGreat