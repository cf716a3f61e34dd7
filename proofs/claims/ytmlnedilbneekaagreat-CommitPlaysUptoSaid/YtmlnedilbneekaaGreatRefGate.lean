/- The document's gate: what it holds, and its calls. -/
import Derived.Test.YtmlnedilbneekaaGreatGateGive
import Derived.Test.YtmlnedilbneekaaGreatRefFill
import Derived.Test.YtmlnedilbneekaaGreatMake
set_option linter.unusedVariables false
set_option linter.unusedSimpArgs false
namespace Go.Proofs.YtmlnedilbneekaaGreat
open Go.RowKit
def RG (w : World) (z gx : Nat) (g : Gt) : Prop := Blk w z 131 #[.pointer (some ⟨gx,0,none⟩),.int .i64 g.number,.int .i64 g.owner]
theorem RG.cells {w : World} {z gx : Nat} {g : Gt} (h : RG w z gx g) : w.cell? ⟨z,0,none⟩ = some (.pointer (some ⟨gx,0,none⟩)) ∧ w.cell? ⟨z,1,none⟩ = some (.int .i64 g.number) ∧ w.cell? ⟨z,2,none⟩ = some (.int .i64 g.owner) := ⟨(h.cell 0).trans rfl,(h.cell 1).trans rfl,(h.cell 2).trans rfl⟩
theorem RG.put {w : World} {z gx : Nat} {g : Gt} (h : RG w z gx g) (g' : Gt) : RG ((w.setCell ⟨z,1,none⟩ (.int .i64 g'.number)).setCell ⟨z,2,none⟩ (.int .i64 g'.owner)) z gx g' := by
 have := (Blk.set_ h 1 (.int .i64 g'.number)).set_ 2 (.int .i64 g'.owner)
 unfold RG
 simpa using this
def RLeft (z gx : Nat) (g : Gt) (lb : Nat) (s : MS) (w w' : World) : Prop := RG w' z gx g ∧ ∃ lb',MetAt XT w' (some gx) lb' s ∧ Keeps (z :: foot (some gx) lb) w w' ∧ (lb' = lb ∨ w.heap.size ≤ lb')
theorem RG.apart {w : World} {z gx : Nat} {g : Gt} (h : RG w z gx g) {lb : Nat} {s : MS} {mp : Option Nat} (hm : MetAt XT w mp lb s) : z ∉ foot mp lb := Go.Proofs.YtmlnedilbneekaaGreat.apart hm h (by decide) (by decide)
theorem RG.noted {w w1 : World} {z gx : Nat} {g : Gt} (h : RG w z gx g) {lb : Nat} {s s' : MS} (hm : MetAt XT w (some gx) lb s) (hn : Noted XT (some gx) lb s' w w1) : RG w1 z gx g := by
 have ha := h.apart hm
 obtain ⟨_,_,hk,_⟩ := hn
 exact Blk.keeps h hk ha
theorem RG.left {w w1 w2 : World} {z gx : Nat} {g g' : Gt} (h : RG w z gx g) {lb : Nat} {s s' : MS} (hm : MetAt XT w (some gx) lb s) (hn : Noted XT (some gx) lb s' w w1) (h2 : RG w2 z gx g') (hk2 : Keeps [z] w1 w2) : RLeft z gx g' lb s' w w2 := by
 have ha := h.apart hm
 have h1 := h.noted hm hn
 obtain ⟨lb',m1,hk,hat⟩ := hn
 have ha1 := h1.apart m1
 refine ⟨h2,lb',m1.keeps hk2 (fun x hx hx2 => by simp at hx2; subst hx2; exact ha1 hx),(hk.mono (T := z :: foot (some gx) lb) (fun x hx => .inl (List.mem_cons_of_mem _ hx))).trans hk2 (fun x hx => .inl (by simp at hx; simp [hx])),hat⟩
theorem thread_yes (w : World) (n : Int) (h1 : 1 ≤ n) (h2 : n ≤ 8) : Calls Tryz.prog 70 #[.int .i64 n] w fun e w' => e = .returned (.bool true) ∧ w = w' := by
 go_enter Tryz.func70,Tryz.ntmps70
 go_wp2
 go_ret
 exact ⟨rfl,rfl⟩
theorem thread_no (w : World) (n : Int) (h : n < 1 ∨ 8 < n) : Calls Tryz.prog 70 #[.int .i64 n] w fun e w' => e = .returned (.bool false) ∧ w = w' := by
 rcases h with h | h
 · have h1 : ¬ (1 ≤ n) := by omega
   go_enter Tryz.func70,Tryz.ntmps70
   go_wp2
   go_ret
   exact ⟨rfl,rfl⟩
 · have h1 : 1 ≤ n := by omega
   have h2 : ¬ (n ≤ 8) := by omega
   go_enter Tryz.func70,Tryz.ntmps70
   go_wp2
   go_ret
   exact ⟨rfl,rfl⟩
theorem rnote (w : World) (z gx : Nat) (g : Gt) (h : RG w z gx g) (lb : Nat) (s : MS) (hm : MetAt XT w (some gx) lb s) (hl : s.log.length < 2199023255552) (o : Int) (y : Bool) :
 Calls Tryz.prog 127 #[.pointer (some ⟨z,0,none⟩),.int .i64 o,.bool y] w fun e w' => e = .returned (.tuple #[]) ∧ Noted XT (some gx) lb (s.note 2 0 o y) w w' := by
 obtain ⟨c0,_,_⟩ := h.cells
 have HN := Lib.hid (RefM.note_any w gx lb s hm 2 0 o y hl)
 clear h hm hl
 go_enter Tryz.func127,Tryz.ntmps127
 go_wp2_with fail
 refine HN.out.mono ?_
 rintro e w1 ⟨rfl,hn⟩
 have HN2 := Lib.hid hn
 clear hn
 go_wp2_with fail
 first
  | go_returns
  | go_end0
 exact ⟨rfl,HN2.out⟩
set_option maxHeartbeats 1000000 in
theorem rtake_ok (w : World) (z gx : Nat) (g : Gt) (h : RG w z gx g) (lb : Nat) (s : MS) (hm : MetAt XT w (some gx) lb s) (hl : s.log.length < 2199023255552) (t : Int) (t1 : 1 ≤ t) (t2 : t ≤ 8) (n0 : 0 ≤ g.number) (n1 : g.number < 4611686018427387904) (n2 : g.number % 2 = 0) :
 Calls Tryz.prog 84 #[.pointer (some ⟨z,0,none⟩),.int .i64 t] w fun e w' => e = .returned (.tuple #[.int .i64 (g.number + 1),.int .i64 0]) ∧ RLeft z gx ⟨g.number + 1,t⟩ lb (s.note 2 0 3 true) w w' := by
 have m0 : g.number.tmod 2 = 0 := by rw [Int.tmod_eq_emod_of_nonneg n0]; omega
 have m1 : (g.number.tmod 2 == 0) = true := by rw [m0]; rfl
 have m2 : (g.number % 2 == 0) = true := by rw [show g.number % 2 = 0 by omega]; rfl
 have hu : IntKind.i64.wrap (g.number + 1) = g.number + 1 := by rw [IntKind.wrap_i64]; omega
 obtain ⟨c0,c1,c2⟩ := h.cells
 have H := Lib.hid h
 have HM := Lib.hid hm
 have HT := Lib.hid (thread_yes w t t1 t2)
 have HN := Lib.hid (rnote w z gx g h lb s hm hl 3 true)
 clear h hm hl
 go_enter Tryz.func84,Tryz.ntmps84
 go_wp2_with fail
 refine HT.out.mono ?_
 rintro e wa ⟨rfl,rfl⟩
 go_wp2_with fail
 refine HN.out.mono ?_
 rintro e w1 ⟨rfl,hn⟩
 have h1 := H.out.noted HM.out hn
 obtain ⟨d0,d1,d2⟩ := h1.cells
 have f1 := Blk.frozen h1 1
 have f2 := Blk.frozen h1 2
 have H1 := Lib.hid h1
 have HN2 := Lib.hid hn
 clear hn h1 c0 c1 c2 HN HT
 go_wp2_with fail
 go_ret2
 exact ⟨rfl,H.out.left HM.out HN2.out (H1.out.put ⟨g.number + 1,t⟩) ((Sq.r.setCell (.inl (by simp)) _).setCell (.inl (by simp)) _)⟩
set_option maxHeartbeats 1000000 in
theorem rtake_held (w : World) (z gx : Nat) (g : Gt) (h : RG w z gx g) (lb : Nat) (s : MS) (hm : MetAt XT w (some gx) lb s) (hl : s.log.length < 2199023255552) (t : Int) (t1 : 1 ≤ t) (t2 : t ≤ 8) (n0 : 0 ≤ g.number) (n1 : g.number < 4611686018427387904) (n2 : g.number % 2 = 1) :
 Calls Tryz.prog 84 #[.pointer (some ⟨z,0,none⟩),.int .i64 t] w fun e w' => e = .returned (.tuple #[.int .i64 0,.int .i64 5]) ∧ RLeft z gx g lb (s.note 2 0 3 false) w w' := by
 have m0 : g.number.tmod 2 = 1 := by rw [Int.tmod_eq_emod_of_nonneg n0]; omega
 have m1 : (g.number.tmod 2 == 0) = false := by rw [m0]; rfl
 have m2 : (g.number % 2 == 0) = false := by rw [show g.number % 2 = 1 by omega]; rfl
 have hu : IntKind.i64.wrap (g.number + 1) = g.number + 1 := by rw [IntKind.wrap_i64]; omega
 obtain ⟨c0,c1,c2⟩ := h.cells
 have H := Lib.hid h
 have HM := Lib.hid hm
 have HT := Lib.hid (thread_yes w t t1 t2)
 have HN := Lib.hid (rnote w z gx g h lb s hm hl 3 false)
 clear h hm hl
 go_enter Tryz.func84,Tryz.ntmps84
 go_wp2_with fail
 refine HT.out.mono ?_
 rintro e wa ⟨rfl,rfl⟩
 go_wp2_with fail
 refine HN.out.mono ?_
 rintro e w1 ⟨rfl,hn⟩
 have h1 := H.out.noted HM.out hn
 obtain ⟨d0,d1,d2⟩ := h1.cells
 have f1 := Blk.frozen h1 1
 have f2 := Blk.frozen h1 2
 have H1 := Lib.hid h1
 have HN2 := Lib.hid hn
 clear hn h1 c0 c1 c2 HN HT
 go_wp2_with fail
 go_ret2
 exact ⟨rfl,H.out.left HM.out HN2.out H1.out Sq.r⟩
theorem rtake_bad (w : World) (z : Nat) (t : Int) (ht : t < 1 ∨ 8 < t) :
 Calls Tryz.prog 84 #[.pointer (some ⟨z,0,none⟩),.int .i64 t] w fun e w' => e = .returned (.tuple #[.int .i64 0,.int .i64 1]) ∧ w = w' := by
 have HT := Lib.hid (thread_no w t ht)
 go_enter Tryz.func84,Tryz.ntmps84
 go_wp2_with fail
 refine HT.out.mono ?_
 rintro e wa ⟨rfl,rfl⟩
 go_wp2_with fail
 go_ret2
 exact ⟨rfl,rfl⟩
set_option maxHeartbeats 1000000 in
theorem rgive_ok (w : World) (z gx : Nat) (g : Gt) (h : RG w z gx g) (lb : Nat) (s : MS) (hm : MetAt XT w (some gx) lb s) (hl : s.log.length < 2199023255552) (t : Int) (t1 : 1 ≤ t) (t2 : t ≤ 8) (n0 : 0 ≤ g.number) (n1 : g.number < 4611686018427387904) (n2 : g.number % 2 = 1) (ho : g.owner = t) :
 Calls Tryz.prog 77 #[.pointer (some ⟨z,0,none⟩),.int .i64 t] w fun e w' => e = .returned (.int .i64 0) ∧ RLeft z gx ⟨g.number + 1,0⟩ lb (s.note 2 0 3 true) w w' := by
 have m0 : g.number.tmod 2 = 1 := by rw [Int.tmod_eq_emod_of_nonneg n0]; omega
 have m1 : (g.number.tmod 2 == 1) = true := by rw [m0]; rfl
 have m2 : (g.number % 2 == 1) = true := by rw [show g.number % 2 = 1 by omega]; rfl
 have e0 : (g.owner == t) = true := by simp [ho]
 have hu : IntKind.i64.wrap (g.number + 1) = g.number + 1 := by rw [IntKind.wrap_i64]; omega
 obtain ⟨c0,c1,c2⟩ := h.cells
 have H := Lib.hid h
 have HM := Lib.hid hm
 have HT := Lib.hid (thread_yes w t t1 t2)
 have HN := Lib.hid (rnote w z gx g h lb s hm hl 3 true)
 clear h hm hl
 go_enter Tryz.func77,Tryz.ntmps77
 go_wp2_with fail
 refine HT.out.mono ?_
 rintro e wa ⟨rfl,rfl⟩
 go_wp2_with fail
 refine HN.out.mono ?_
 rintro e w1 ⟨rfl,hn⟩
 have h1 := H.out.noted HM.out hn
 obtain ⟨d0,d1,d2⟩ := h1.cells
 have f1 := Blk.frozen h1 1
 have f2 := Blk.frozen h1 2
 have H1 := Lib.hid h1
 have HN2 := Lib.hid hn
 clear hn h1 c0 c1 c2 HN HT
 go_wp2_with fail
 go_ret
 exact ⟨rfl,H.out.left HM.out HN2.out (H1.out.put ⟨g.number + 1,0⟩) ((Sq.r.setCell (.inl (by simp)) _).setCell (.inl (by simp)) _)⟩
set_option maxHeartbeats 1000000 in
theorem rgive_other (w : World) (z gx : Nat) (g : Gt) (h : RG w z gx g) (lb : Nat) (s : MS) (hm : MetAt XT w (some gx) lb s) (hl : s.log.length < 2199023255552) (t : Int) (t1 : 1 ≤ t) (t2 : t ≤ 8) (n0 : 0 ≤ g.number) (n1 : g.number < 4611686018427387904) (n2 : g.number % 2 = 1) (ho : g.owner ≠ t) :
 Calls Tryz.prog 77 #[.pointer (some ⟨z,0,none⟩),.int .i64 t] w fun e w' => e = .returned (.int .i64 4) ∧ RLeft z gx g lb (s.note 2 0 3 false) w w' := by
 have m0 : g.number.tmod 2 = 1 := by rw [Int.tmod_eq_emod_of_nonneg n0]; omega
 have m1 : (g.number.tmod 2 == 1) = true := by rw [m0]; rfl
 have m2 : (g.number % 2 == 1) = true := by rw [show g.number % 2 = 1 by omega]; rfl
 have e0 : (g.owner == t) = false := by simpa using ho
 have hu : IntKind.i64.wrap (g.number + 1) = g.number + 1 := by rw [IntKind.wrap_i64]; omega
 obtain ⟨c0,c1,c2⟩ := h.cells
 have H := Lib.hid h
 have HM := Lib.hid hm
 have HT := Lib.hid (thread_yes w t t1 t2)
 have HN := Lib.hid (rnote w z gx g h lb s hm hl 3 false)
 clear h hm hl
 go_enter Tryz.func77,Tryz.ntmps77
 go_wp2_with fail
 refine HT.out.mono ?_
 rintro e wa ⟨rfl,rfl⟩
 go_wp2_with fail
 refine HN.out.mono ?_
 rintro e w1 ⟨rfl,hn⟩
 have h1 := H.out.noted HM.out hn
 obtain ⟨d0,d1,d2⟩ := h1.cells
 have f1 := Blk.frozen h1 1
 have f2 := Blk.frozen h1 2
 have H1 := Lib.hid h1
 have HN2 := Lib.hid hn
 clear hn h1 c0 c1 c2 HN HT
 go_wp2_with fail
 go_ret
 exact ⟨rfl,H.out.left HM.out HN2.out H1.out Sq.r⟩
set_option maxHeartbeats 1000000 in
theorem rgive_free (w : World) (z gx : Nat) (g : Gt) (h : RG w z gx g) (lb : Nat) (s : MS) (hm : MetAt XT w (some gx) lb s) (hl : s.log.length < 2199023255552) (t : Int) (t1 : 1 ≤ t) (t2 : t ≤ 8) (n0 : 0 ≤ g.number) (n1 : g.number < 4611686018427387904) (n2 : g.number % 2 = 0) :
 Calls Tryz.prog 77 #[.pointer (some ⟨z,0,none⟩),.int .i64 t] w fun e w' => e = .returned (.int .i64 4) ∧ RLeft z gx g lb (s.note 2 0 3 false) w w' := by
 have m0 : g.number.tmod 2 = 0 := by rw [Int.tmod_eq_emod_of_nonneg n0]; omega
 have m1 : (g.number.tmod 2 == 1) = false := by rw [m0]; rfl
 have m2 : (g.number % 2 == 1) = false := by rw [show g.number % 2 = 0 by omega]; rfl
 have hu : IntKind.i64.wrap (g.number + 1) = g.number + 1 := by rw [IntKind.wrap_i64]; omega
 obtain ⟨c0,c1,c2⟩ := h.cells
 have H := Lib.hid h
 have HM := Lib.hid hm
 have HT := Lib.hid (thread_yes w t t1 t2)
 have HN := Lib.hid (rnote w z gx g h lb s hm hl 3 false)
 clear h hm hl
 go_enter Tryz.func77,Tryz.ntmps77
 go_wp2_with fail
 refine HT.out.mono ?_
 rintro e wa ⟨rfl,rfl⟩
 go_wp2_with fail
 refine HN.out.mono ?_
 rintro e w1 ⟨rfl,hn⟩
 have h1 := H.out.noted HM.out hn
 obtain ⟨d0,d1,d2⟩ := h1.cells
 have f1 := Blk.frozen h1 1
 have f2 := Blk.frozen h1 2
 have H1 := Lib.hid h1
 have HN2 := Lib.hid hn
 clear hn h1 c0 c1 c2 HN HT
 go_wp2_with fail
 go_ret
 exact ⟨rfl,H.out.left HM.out HN2.out H1.out Sq.r⟩
theorem rgive_bad (w : World) (z : Nat) (t : Int) (ht : t < 1 ∨ 8 < t) :
 Calls Tryz.prog 77 #[.pointer (some ⟨z,0,none⟩),.int .i64 t] w fun e w' => e = .returned (.int .i64 1) ∧ w = w' := by
 have HT := Lib.hid (thread_no w t ht)
 go_enter Tryz.func77,Tryz.ntmps77
 go_wp2_with fail
 refine HT.out.mono ?_
 rintro e wa ⟨rfl,rfl⟩
 go_wp2_with fail
 go_ret
 exact ⟨rfl,rfl⟩
end Go.Proofs.YtmlnedilbneekaaGreat