/- Package gate: Give, Look. -/
import Derived.Test.YtmlnedilbneekaaGreatRowG
import Derived.Test.YtmlnedilbneekaaGreatMeter
import Derived.Laws.OwnMore
import Derived.Test.YtmlnedilbneekaaGreatMake
namespace Go.Proofs.YtmlnedilbneekaaGreat
open Go.RowKit
set_option linter.unusedVariables false
set_option linter.unusedSimpArgs false
def GateAt (w : World) (q r b : Nat) (mp : Option Nat) (g : Gt) : Prop := Blk w q 205 #[.pointer (some ⟨r,0,none⟩)] ∧ RowG.At RowG.R w r b 2 mp [g]
theorem GateAt.keeps {w w' : World} {S : List Nat} {q r b : Nat} {mp : Option Nat} {g : Gt} (h : GateAt w q r b mp g) (hk : Keeps S w w') (h0 : q ∉ S) (h1 : r ∉ S) (h2 : b ∉ S) : GateAt w' q r b mp g := ⟨h.1.keeps hk h0,h.2.keeps hk h1 h2⟩
theorem GateAt.apart {w : World} {q r b : Nat} {mp : Option Nat} {g : Gt} (h : GateAt w q r b mp g) {lb : Nat} {s : MS} {mp' : Option Nat} (hm : MetAt MT w mp' lb s) : q ∉ foot mp' lb ∧ r ∉ foot mp' lb ∧ b ∉ foot mp' lb ∧ q ≠ b ∧ r ≠ b :=
 ⟨Go.Proofs.YtmlnedilbneekaaGreat.apart hm h.1 (by decide) (by decide),(h.2.foot RowG.ty hm).1,(h.2.foot RowG.ty hm).2,h.1.ne_ h.2.row (by decide),h.2.blk.ne_ h.2.row (by decide)⟩
def GLeft (q r b : Nat) (mp : Option Nat) (g : Gt) (lb : Nat) (s : MS) (w w' : World) : Prop := GateAt w' q r b mp g ∧ ∃ lb',MetAt MT w' mp lb' s ∧ Keeps (b :: foot mp lb) w w' ∧ (lb' = lb ∨ w.heap.size ≤ lb')
theorem GateAt.left {q r b : Nat} {mp : Option Nat} {g g' : Gt} {lb : Nat} {s s' : MS} {w wa w1 w2 : World} (h : GateAt w q r b mp g) (hm : MetAt MT w mp lb s) (hk : Keeps [] w wa) (hl : RowG.Left RowG.R MT r b 2 mp [g'] lb s' wa w1)
 {S : List Nat} (hS : ∀ z,z ∈ S → w.heap.size ≤ z ∧ (z < wa.heap.size ∨ w1.heap.size ≤ z)) (hk2 : Keeps S w1 w2) : GLeft q r b mp g' lb s' w w2 := by
 obtain ⟨h1,lb',h2,h3,h4⟩ := hl
 have hz := hk.size
 have hz1 := h3.size
 have r0 := h.2.blk.lt
 have r1 := h.2.row.lt
 have q0 := h.1.lt
 have hap := h.apart hm
 have ha := h1.row.lt
 have kT : Keeps (b :: foot mp lb) w w1 := (hk.mono (T := b :: foot mp lb) (by simp)).trans h3 (fun x hx => .inl hx)
 have hq1 : Blk w1 q 205 #[.pointer (some ⟨r,0,none⟩)] := h.1.keeps kT (by simp [hap.2.2.2.1,hap.1])
 refine ⟨⟨hq1.keeps hk2 (fun z => by have := hS _ z; omega),h1.keeps hk2 (fun z => by have := hS _ z; omega) (fun z => by have := hS _ z; omega)⟩,lb',h2.keeps hk2 ?_,kT.trans hk2 (fun x hx => .inr (hS x hx).1),by omega⟩
 intro z hz hz2
 have h5 := hS z hz2
 cases mp with
 | none => simp [foot] at hz
 | some m =>
   have h6 := foot_lt hm (k := m) (by simp [foot])
   have h7 := foot_lt hm (k := lb) (by simp [foot])
   have h8 := foot_lt h2 (k := lb') (by simp [foot])
   simp only [foot,List.mem_cons,List.not_mem_nil,or_false] at hz
   omega
theorem kept_gate {q r b : Nat} {mp : Option Nat} {g g' : Gt} {lb : Nat} {s s' : MS} {w w1 : World} (h : GateAt w q r b mp g) (hm : MetAt MT w mp lb s) (hl : RowG.Left RowG.R MT r b 2 mp [g'] lb s' w w1) : Blk w1 q 205 #[.pointer (some ⟨r,0,none⟩)] := by
 obtain ⟨_,_,_,hk,_⟩ := hl
 have hap := h.apart hm
 exact h.1.keeps hk (by simp [hap.2.2.2.1,hap.1])
theorem trade0_yes (w : World) (r b : Nat) (kind : Int) (mp : Option Nat) (g new : Gt) (hr : RowG.At RowG.R w r b kind mp [g]) (lb : Nat) (s : MS) (hm : MetAt MT w mp lb s) (hl : Room mp s) :
 Calls Tryz.prog 135 #[.pointer (some ⟨r,0,none⟩),.int .i64 0,.agg #[.int .i64 g.number,.int .i64 g.owner],.agg #[.int .i64 new.number,.int .i64 new.owner]] w fun e w' =>
  e = .returned (.tuple #[.agg #[.int .i64 g.number,.int .i64 g.owner],.bool true,.int .i64 0]) ∧ RowG.Left RowG.R MT r b kind mp [new] lb (s.note kind 0 3 true) w w' := RowG.trade_yes w r b kind mp [g] hr lb s hm hl 0 g new rfl
theorem trade0_not (w : World) (r b : Nat) (kind : Int) (mp : Option Nat) (g old new : Gt) (hr : RowG.At RowG.R w r b kind mp [g]) (lb : Nat) (s : MS) (hm : MetAt MT w mp lb s) (hl : Room mp s) (hne : g ≠ old) :
 Calls Tryz.prog 135 #[.pointer (some ⟨r,0,none⟩),.int .i64 0,.agg #[.int .i64 old.number,.int .i64 old.owner],.agg #[.int .i64 new.number,.int .i64 new.owner]] w fun e w' =>
  e = .returned (.tuple #[.agg #[.int .i64 g.number,.int .i64 g.owner],.bool false,.int .i64 0]) ∧ RowG.Left RowG.R MT r b kind mp [g] lb (s.note kind 0 3 false) w w' := RowG.trade_not w r b kind mp [g] hr lb s hm hl 0 g old new rfl hne
theorem all0 (w : World) (r b : Nat) (kind : Int) (mp : Option Nat) (g : Gt) (hr : RowG.At RowG.R w r b kind mp [g]) :
 Calls Tryz.prog 148 #[.pointer (some ⟨r,0,none⟩)] w fun e w' => ∃ a c,e = .returned (.slice (some ⟨a,0,none⟩) 1 c) ∧ (w'.cell? ⟨a,0,none⟩ = some (.int .i64 g.number) ∧ w'.cell? ⟨a,1,none⟩ = some (.int .i64 g.owner)) ∧ Keeps [] w w' :=
 (RowG.all_any w r b kind mp [g] hr).mono fun e w' ⟨v,he,h1,h2⟩ => by
   rcases h1.2 with ⟨_,h0⟩ | ⟨a,cap,cur,rfl,hb,hg,h3,_⟩
   · simp at h0
   · exact ⟨a,cap,he,⟨(h1.cellAt 0 (by show 0 < 1 * 2; decide)).trans rfl,(h1.cellAt 1 (by show 1 < 1 * 2; decide)).trans rfl⟩,h2⟩
theorem isThread_yes (w : World) (n : Int) (h1 : 1 ≤ n) (h2 : n ≤ 8) : Calls Tryz.prog 133 #[.int .i64 n] w fun e w' => e = .returned (.bool true) ∧ w = w' := by
 go_enter Tryz.func133,Tryz.ntmps133
 go_wp2
 go_ret
 exact ⟨rfl,rfl⟩
theorem isThread_no (w : World) (n : Int) (h : n < 1 ∨ 8 < n) : Calls Tryz.prog 133 #[.int .i64 n] w fun e w' => e = .returned (.bool false) ∧ w = w' := by
 rcases h with h | h
 · have h1 : ¬ (1 ≤ n) := by omega
   go_enter Tryz.func133,Tryz.ntmps133
   go_wp2
   go_ret
   exact ⟨rfl,rfl⟩
 · have h1 : 1 ≤ n := by omega
   have h2 : ¬ (n ≤ 8) := by omega
   go_enter Tryz.func133,Tryz.ntmps133
   go_wp2
   go_ret
   exact ⟨rfl,rfl⟩
theorem gate_none (w : World) : Calls Tryz.prog 134 #[] w fun e w' => e = .returned (.agg #[.int .i64 (-1),.int .i64 0]) ∧ Keeps [] w w' := by
 go_enter Tryz.func134,Tryz.ntmps134
 go_wp2
 refine bodyPost_ret (v := .agg #[.int .i64 (-1),.int .i64 0]) (by simp [results,Tryz.results134,go_sem]) rfl ⟨rfl,?_⟩
 exact Sq.r.alloc _
theorem gate_now (w : World) (q r b : Nat) (mp : Option Nat) (g : Gt) (h : GateAt w q r b mp g) :
 Calls Tryz.prog 122 #[.pointer (some ⟨q,0,none⟩)] w fun e w' => e = .returned (.agg #[.int .i64 g.number,.int .i64 g.owner]) ∧ Keeps [] w w' := by
 have k0 : Keeps [] w (w.alloc (.cells #[.int .i64 0,.int .i64 0] 129)) := Sq.r.alloc _
 have c0 : (w.alloc (.cells #[.int .i64 0,.int .i64 0] 129)).cell? ⟨q,0,none⟩ = some (.pointer (some ⟨r,0,none⟩)) := ((h.1.keeps k0 (by simp)).cell 0).trans rfl
 have bZ := Lib.hid (Blk.new w 129 #[.int .i64 0,.int .i64 0])
 have HR := Lib.hid (h.2.keeps k0 (by simp) (by simp))
 have K0 := Lib.hid k0
 clear h k0
 go_enter Tryz.func122,Tryz.ntmps122
 go_wp2_with fail
 refine (all0 _ r b 2 mp g HR.out).mono ?_
 rintro e w1 ⟨a,c,rfl,⟨d0,d1⟩,k1⟩
 have bz := bZ.out.keeps k1 (by simp)
 have z0 : w1.cell? ⟨w.heap.size,0,none⟩ = some (.int .i64 0) := (bz.cell 0).trans rfl
 have z1 : w1.cell? ⟨w.heap.size,1,none⟩ = some (.int .i64 0) := (bz.cell 1).trans rfl
 have y0 := bz.frozen 0
 have y1 := bz.frozen 1
 have K1 := Lib.hid (K0.out.trans k1 (by simp))
 clear bz k1 c0
 go_wp2_with fail
 refine bodyPost_ret (v := .agg #[.int .i64 g.number,.int .i64 g.owner]) (by simp [results,Tryz.results122,go_sem,z0,z1]) rfl ⟨rfl,?_⟩
 exact (K1.out.setCell (.inr (Nat.le_refl _)) _).setCell (.inr (Nat.le_refl _)) _
theorem gate_new (w : World) (mp : Option Nat) :
 Calls Tryz.prog 43 #[PM mp] w fun e w' => e = .returned (.pointer (some ⟨w.heap.size + 2,0,none⟩)) ∧ GateAt w' (w.heap.size + 2) (w.heap.size + 1) w.heap.size mp Gt.zero ∧ Keeps [] w w' := by
 have hn := Lib.hid (RowG.newRow_ok w mp 2 1 (by decide) (by decide))
 go_enter Tryz.func43,Tryz.ntmps43
 go_wp2_with fail
 refine hn.out.mono ?_
 rintro e w1 ⟨rfl,hr,hk,hs⟩
 have HR := Lib.hid hr
 have HK := Lib.hid hk
 have HS := Lib.hid hs
 clear hr hk hs hn
 go_wp2_with fail
 rw [HS.out]
 go_ret
 exact ⟨rfl,⟨new_at _ _ _ HS.out,HR.out.keeps ((Keeps.refl [] w1).alloc _) (by simp) (by simp)⟩,HK.out.alloc _⟩
theorem trade_held_yes {w w' : World} {q r b : Nat} {mp : Option Nat} {g : Gt} (new : Gt) (h : GateAt w q r b mp g) {lb : Nat} {s : MS} (hm : MetAt MT w mp lb s) (hl : Room mp s) (hk : Keeps [] w w') :
 Calls Tryz.prog 135 #[.pointer (some ⟨r,0,none⟩),.int .i64 0,.agg #[.int .i64 g.number,.int .i64 g.owner],.agg #[.int .i64 new.number,.int .i64 new.owner]] w' fun e w4 =>
  e = .returned (.tuple #[.agg #[.int .i64 g.number,.int .i64 g.owner],.bool true,.int .i64 0]) ∧ RowG.Left RowG.R MT r b 2 mp [new] lb (s.note 2 0 3 true) w' w4 ∧ (∀ k t cs,w.heap.size ≤ k → Blk w' k t cs → Blk w4 k t cs) ∧ Blk w4 q 205 #[.pointer (some ⟨r,0,none⟩)] ∧ Keeps [] w w' :=
 (trade0_yes w' r b 2 mp g new (h.2.keeps hk (by simp) (by simp)) lb s (hm.keeps hk (by simp)) hl).mono fun e w4 ⟨he,hL⟩ =>
   ⟨he,hL,fun k t cs hg hb => by
    obtain ⟨_,_,_,hk2,_⟩ := hL
    refine hb.keeps hk2 (fun hx => ?_)
    rw [List.mem_cons] at hx
    rcases hx with hx | hx
    · have := h.2.row.lt; omega
    · have := foot_lt hm hx; omega,kept_gate (h.keeps hk (by simp) (by simp) (by simp)) (hm.keeps hk (by simp)) hL,hk⟩
theorem trade_held_not {w w' : World} {q r b : Nat} {mp : Option Nat} {g : Gt} (old new : Gt) (h : GateAt w q r b mp g) {lb : Nat} {s : MS} (hm : MetAt MT w mp lb s) (hl : Room mp s) (hne : g ≠ old) (hk : Keeps [] w w') :
 Calls Tryz.prog 135 #[.pointer (some ⟨r,0,none⟩),.int .i64 0,.agg #[.int .i64 old.number,.int .i64 old.owner],.agg #[.int .i64 new.number,.int .i64 new.owner]] w' fun e w4 =>
  e = .returned (.tuple #[.agg #[.int .i64 g.number,.int .i64 g.owner],.bool false,.int .i64 0]) ∧ RowG.Left RowG.R MT r b 2 mp [g] lb (s.note 2 0 3 false) w' w4 ∧ (∀ k t cs,w.heap.size ≤ k → Blk w' k t cs → Blk w4 k t cs) ∧ Blk w4 q 205 #[.pointer (some ⟨r,0,none⟩)] ∧ Keeps [] w w' :=
 (trade0_not w' r b 2 mp g old new (h.2.keeps hk (by simp) (by simp)) lb s (hm.keeps hk (by simp)) hl hne).mono fun e w4 ⟨he,hL⟩ =>
   ⟨he,hL,fun k t cs hg hb => by
    obtain ⟨_,_,_,hk2,_⟩ := hL
    refine hb.keeps hk2 (fun hx => ?_)
    rw [List.mem_cons] at hx
    rcases hx with hx | hx
    · have := h.2.row.lt; omega
    · have := foot_lt hm hx; omega,kept_gate (h.keeps hk (by simp) (by simp) (by simp)) (hm.keeps hk (by simp)) hL,hk⟩
open Go.RowKit
theorem two_of {w : World} {g : Nat} {t : TypeId} {x y : Value} (h : Blk w g t #[x,y]) : w.cell? ⟨g,0,none⟩ = some x ∧ w.cell? ⟨g,1,none⟩ = some y := ⟨(h.cell 0).trans rfl,(h.cell 1).trans rfl⟩
theorem far2 {w : World} {z k j : Nat} {u v : Value} (h : k ≠ z) : ((w.setCell ⟨z,0,none⟩ u).setCell ⟨z,1,none⟩ v).cell? ⟨k,j,none⟩ = w.cell? ⟨k,j,none⟩ :=
 World.cell?_of_block (by rw [Below.heap_setCell _ _ _ _ h,Below.heap_setCell _ _ _ _ h])
theorem af {w : World} {o : Obj} {k j : Nat} (h : k < w.heap.size) : (w.alloc o).cell? ⟨k,j,none⟩ = w.cell? ⟨k,j,none⟩ := World.cell?_of_block (Below.heap_alloc w o k h)
def W3 (w : World) (a b c : Gt) : World := ((w.alloc (.cells #[.int .i64 a.number,.int .i64 a.owner] 129)).alloc (.cells #[.int .i64 b.number,.int .i64 b.owner] 129)).alloc (.cells #[.int .i64 c.number,.int .i64 c.owner] 129)
theorem W3.keeps (w : World) (a b c : Gt) : Keeps [] w (W3 w a b c) := ((Sq.r.alloc _).alloc _).alloc _
theorem W3.two (w : World) (a b c : Gt) : Blk (W3 w a b c) (w.heap.size + 1) 129 #[.int .i64 b.number,.int .i64 b.owner] := Blk.alloc (new_at _ _ _ (by simp)) _
theorem W3.three (w : World) (a b c : Gt) : Blk (W3 w a b c) (w.heap.size + 1 + 1) 129 #[.int .i64 c.number,.int .i64 c.owner] := new_at _ _ _ (by simp)
def W4 (w : World) (z : Nat) (c : Gt) : World := ((w.setCell ⟨z,0,none⟩ (.int .i64 (-1))).setCell ⟨z,1,none⟩ (.int .i64 0)).alloc (.cells #[.int .i64 c.number,.int .i64 c.owner] 129)
theorem W4.keeps (w : World) (z : Nat) (c : Gt) : Keeps [z] w (W4 w z c) := (((Keeps.refl [z] w).setCell (.inl (by simp)) _).setCell (.inl (by simp)) _).alloc _
theorem W4.two (w : World) (z : Nat) (c : Gt) {x y : Value} (h : Blk w z 129 #[x,y]) : Blk (W4 w z c) z 129 #[.int .i64 (-1),.int .i64 0] := by
 have h1 := ((h.set_ 0 (.int .i64 (-1))).set_ 1 (.int .i64 0)).alloc (.cells #[.int .i64 c.number,.int .i64 c.owner] 129)
 unfold W4
 simpa using h1
theorem W4.three (w : World) (z : Nat) (c : Gt) : Blk (W4 w z c) w.heap.size 129 #[.int .i64 c.number,.int .i64 c.owner] := new_at _ _ _ (by simp [World.setCell])
theorem take_bad (w : World) (q : Nat) (t : Int) (ht : t < 1 ∨ 8 < t) :
 Calls Tryz.prog 83 #[.pointer (some ⟨q,0,none⟩),.int .i64 t] w fun e w' => e = .returned (.tuple #[.int .i64 0,.int .i64 1]) ∧ w = w' := by
 have HT := Lib.hid (isThread_no w t ht)
 go_enter Tryz.func83,Tryz.ntmps83
 go_wp2_with fail
 refine HT.out.mono ?_
 rintro e wa ⟨rfl,rfl⟩
 go_wp2_with fail
 go_ret2
 exact ⟨rfl,rfl⟩
set_option maxHeartbeats 1000000 in
theorem take_ok (w : World) (q r b : Nat) (mp : Option Nat) (g : Gt) (h : GateAt w q r b mp g) (lb : Nat) (s : MS) (hm : MetAt MT w mp lb s) (hl : Room mp s) (t : Int) (t1 : 1 ≤ t) (t2 : t ≤ 8) (n0 : 0 ≤ g.number) (n1 : g.number < 4611686018427387904) (n2 : g.number % 2 = 0) :
 Calls Tryz.prog 83 #[.pointer (some ⟨q,0,none⟩),.int .i64 t] w fun e w' => e = .returned (.tuple #[.int .i64 (g.number + 1),.int .i64 0]) ∧ GLeft q r b mp ⟨g.number + 1,t⟩ lb (s.note 2 0 3 true) w w' := by
 have hm1 : (g.number.tmod 2 == 1) = false := by rw [Int.tmod_eq_emod_of_nonneg n0,n2]; rfl
 have hm2 : (g.number % 2 == 1) = false := by rw [n2]; rfl
 have hw1 : IntKind.i64.wrap (g.number + 1) = g.number + 1 := by rw [IntKind.wrap_i64]; omega
 have H := Lib.hid h
 have HM := Lib.hid hm
 have HL := Lib.hid hl
 have HT := Lib.hid (isThread_yes w t t1 t2)
 have hne : g ≠ ⟨-1,0⟩ := by rintro rfl; simp at n0
 have HNE := Lib.hid hne
 clear h hm hl hne
 go_enter Tryz.func83,Tryz.ntmps83
 go_wp2_with fail
 refine HT.out.mono ?_
 rintro e wa ⟨rfl,rfl⟩
 go_wp2_with fail
 refine (gate_now w q r b mp g H.out).mono ?_
 rintro e w1 ⟨rfl,k1⟩
 have K1 := Lib.hid k1
 clear HT
 go_wp2_with fail
 have hwB : ((w1.alloc (.cells #[.int .i64 g.number,.int .i64 g.owner] 129)).alloc (.cells #[.int .i64 g.number,.int .i64 g.owner] 129)).alloc (.cells #[.int .i64 (g.number + 1),.int .i64 t] 129) = W3 w1 g g ⟨g.number + 1,t⟩ := rfl
 rw [hwB]
 have KB := Lib.hid (k1.trans (W3.keeps w1 g g ⟨g.number + 1,t⟩) (by simp))
 have W2 := Lib.hid (W3.two w1 g g ⟨g.number + 1,t⟩)
 have WN := Lib.hid (W3.three w1 g g ⟨g.number + 1,t⟩)
 clear k1 hwB
 generalize W3 w1 g g ⟨g.number + 1,t⟩ = wB at *
 simp only at WN
 have BW := Lib.hid (fun w' (hk : Keeps [] wB w') => W2.out.keeps hk (by simp))
 have BN := Lib.hid (fun w' (hk : Keeps [] wB w') => WN.out.keeps hk (by simp))
 have Z1 : Hid (w.heap.size ≤ w1.heap.size + 1) := by have := K1.out.size; unfold Hid; omega
 have Z2 : Hid (w.heap.size ≤ w1.heap.size + 1 + 1) := by have := K1.out.size; unfold Hid; omega
 have Z3 : Hid (w.heap.size ≤ wB.heap.size) := by have := KB.out.size; unfold Hid; omega
 have nq : q ≠ wB.heap.size := by have := H.out.1.lt; have := KB.out.size; omega
 have na : w1.heap.size + 1 ≠ wB.heap.size := by have := W2.out.lt; omega
 have nb : w1.heap.size + 1 + 1 ≠ wB.heap.size := by have := WN.out.lt; omega
 have QT := Lib.hid (fun w' (hk : Keeps [] wB w') => trade_held_yes (w' := w') ⟨g.number + 1,t⟩ H.out HM.out HL.out (KB.out.trans hk (by simp)))
 have HC := Lib.hid (show ∀ w',Keeps [] wB w' → w'.cell? ⟨q,0,none⟩ = some (.pointer (some ⟨r,0,none⟩)) ∧ w'.cell? ⟨w1.heap.size + 1,0,none⟩ = some (.int .i64 g.number) ∧ w'.cell? ⟨w1.heap.size + 1,1,none⟩ = some (.int .i64 g.owner) ∧ w'.cell? ⟨w1.heap.size + 1 + 1,0,none⟩ = some (.int .i64 (g.number + 1)) ∧ w'.cell? ⟨w1.heap.size + 1 + 1,1,none⟩ = some (.int .i64 t) from fun w' hk => ⟨((H.out.keeps (KB.out.trans hk (by simp)) (by simp) (by simp) (by simp)).1.cell 0).trans rfl,(two_of (BW.out _ hk)).1,(two_of (BW.out _ hk)).2,(two_of (BN.out _ hk)).1,(two_of (BN.out _ hk)).2⟩)
 obtain ⟨i0,i1,i2,i3,i4⟩ := HC.out _ Sq.r
 go_region_held3 (fun w' => w'.cell? ⟨q,0,none⟩ = some (.pointer (some ⟨r,0,none⟩)) ∧ w'.cell? ⟨w1.heap.size + 1,0,none⟩ = some (.int .i64 g.number) ∧ w'.cell? ⟨w1.heap.size + 1,1,none⟩ = some (.int .i64 g.owner) ∧ w'.cell? ⟨w1.heap.size + 1 + 1,0,none⟩ = some (.int .i64 (g.number + 1)) ∧ w'.cell? ⟨w1.heap.size + 1 + 1,1,none⟩ = some (.int .i64 t)) (first | exact HC.out _ (by first | exact Sq.r.drew | exact Sq.r.drew.alloc _) | exact ⟨u0,u1,u2,u3,u4⟩ | exact ⟨(far2 nq).trans u0,(far2 na).trans u1,(far2 na).trans u2,(far2 nb).trans u3,(far2 nb).trans u4⟩ | exact ⟨(af lq).trans u0,(af ca).trans u1,(af ca).trans u2,(af cb).trans u3,(af cb).trans u4⟩ | exact ⟨(far2 (Nat.ne_of_lt lq)).trans ((af lq).trans u0),(far2 (Nat.ne_of_lt ca)).trans ((af ca).trans u1),(far2 (Nat.ne_of_lt ca)).trans ((af ca).trans u2),(far2 (Nat.ne_of_lt cb)).trans ((af cb).trans u3),(far2 (Nat.ne_of_lt cb)).trans ((af cb).trans u4)⟩ | go_keep) ((first
  | (go_at_call 135; refine (QT.out _ (show Keeps [] wB _ from Sq.r.drew.alloc (.cells #[.int .i64 0,.int .i64 0] 129))).mono ?_; rintro e w4 ⟨rfl,hl,hkeep,hq,hkw⟩; have HN := Lib.hid hl; have HKW := Lib.hid hkw; have u0 : w4.cell? ⟨q,0,none⟩ = some (.pointer (some ⟨r,0,none⟩)) := (hq.cell 0).trans rfl; have hwx := two_of (hkeep _ _ _ Z1.out (BW.out _ (Sq.r.drew.alloc _))); have hnx := two_of (hkeep _ _ _ Z2.out (BN.out _ (Sq.r.drew.alloc _))); have u1 := hwx.1; have u2 := hwx.2; have u3 := hnx.1; have u4 := hnx.2; have bz := hkeep wB.heap.size 129 #[.int .i64 0,.int .i64 0] Z3.out (new_at _ _ _ rfl); have v1 := (two_of bz).1; have v2 := (two_of bz).2; have y1 := bz.frozen 0; have y2 := bz.frozen 1; clear bz; clear hl hkw hkeep hq hwx hnx)
  | (go_at_call 135; refine (QT.out _ (show Keeps [] wB _ from Sq.r.drew)).mono ?_; rintro e w4 ⟨rfl,hl,hkeep,hq,hkw⟩; have HN := Lib.hid hl; have HKW := Lib.hid hkw; have u0 : w4.cell? ⟨q,0,none⟩ = some (.pointer (some ⟨r,0,none⟩)) := (hq.cell 0).trans rfl; have hwx := two_of (hkeep _ _ _ Z1.out (BW.out _ Sq.r.drew)); have hnx := two_of (hkeep _ _ _ Z2.out (BN.out _ Sq.r.drew)); have u1 := hwx.1; have u2 := hwx.2; have u3 := hnx.1; have u4 := hnx.2; have lq := hq.lt; have ca := (hkeep _ _ _ Z1.out (BW.out _ Sq.r.drew)).lt; have cb := (hkeep _ _ _ Z2.out (BN.out _ Sq.r.drew)).lt; clear hl hkw hkeep hq hwx hnx)))
 · have x3 : (w4.alloc (.cells #[.int .i64 g.number,.int .i64 g.owner] 129)).cell? ⟨w1.heap.size + 1 + 1,0,none⟩ = some (.int .i64 (g.number + 1)) := (af cb).trans u3
   go_wp2_with fail
   go_ret2
   exact ⟨rfl,H.out.left HM.out HKW.out HN.out (S := []) (by simp) (Sq.r.alloc _)⟩
 · have x3 : ((w4.setCell ⟨wB.heap.size,0,none⟩ (.int .i64 g.number)).setCell ⟨wB.heap.size,1,none⟩ (.int .i64 g.owner)).cell? ⟨w1.heap.size + 1 + 1,0,none⟩ = some (.int .i64 (g.number + 1)) := (far2 nb).trans u3
   go_wp2_with fail
   go_ret2
   exact ⟨rfl,H.out.left HM.out HKW.out HN.out (S := [wB.heap.size]) (fun z hz => by simp at hz; subst hz; exact ⟨Z3.out,.inl (by simp)⟩) ((Sq.r.setCell (.inl (by simp)) _).setCell (.inl (by simp)) _)⟩
set_option maxHeartbeats 1000000 in
theorem take_held (w : World) (q r b : Nat) (mp : Option Nat) (g : Gt) (h : GateAt w q r b mp g) (lb : Nat) (s : MS) (hm : MetAt MT w mp lb s) (hl : Room mp s) (t : Int) (t1 : 1 ≤ t) (t2 : t ≤ 8) (n0 : 0 ≤ g.number) (n1 : g.number < 4611686018427387904) (n2 : g.number % 2 = 1) :
 Calls Tryz.prog 83 #[.pointer (some ⟨q,0,none⟩),.int .i64 t] w fun e w' => e = .returned (.tuple #[.int .i64 0,.int .i64 5]) ∧ GLeft q r b mp g lb (s.note 2 0 3 false) w w' := by
 have hm1 : (g.number.tmod 2 == 1) = true := by rw [Int.tmod_eq_emod_of_nonneg n0,n2]; rfl
 have hm2 : (g.number % 2 == 1) = true := by rw [n2]; rfl
 have hw1 : IntKind.i64.wrap (g.number + 1) = g.number + 1 := by rw [IntKind.wrap_i64]; omega
 have H := Lib.hid h
 have HM := Lib.hid hm
 have HL := Lib.hid hl
 have HT := Lib.hid (isThread_yes w t t1 t2)
 have hne : g ≠ ⟨-1,0⟩ := by rintro rfl; simp at n0
 have HNE := Lib.hid hne
 clear h hm hl hne
 go_enter Tryz.func83,Tryz.ntmps83
 go_wp2_with fail
 refine HT.out.mono ?_
 rintro e wa ⟨rfl,rfl⟩
 go_wp2_with fail
 refine (gate_now w q r b mp g H.out).mono ?_
 rintro e w1 ⟨rfl,k1⟩
 have K1 := Lib.hid k1
 clear HT
 have b1 := Lib.hid ((Blk.new w1 129 #[.int .i64 g.number,.int .i64 g.owner]).alloc (.cells #[.int .i64 g.number,.int .i64 g.owner] 129))
 have b2 := Lib.hid (show Blk ((w1.alloc (.cells #[.int .i64 g.number,.int .i64 g.owner] 129)).alloc (.cells #[.int .i64 g.number,.int .i64 g.owner] 129)) (w1.heap.size + 1) 129 #[.int .i64 g.number,.int .i64 g.owner] from new_at _ _ _ (by simp))
 go_wp2_with fail
 refine (gate_none _).mono ?_
 rintro e w2 ⟨rfl,k2⟩
 have c1 := b1.out.keeps k2 (by simp)
 have cw := b2.out.keeps k2 (by simp)
 have K2 := Lib.hid ((((Keeps.refl [] w1).alloc _).alloc _).trans k2 (by simp))
 have z0 := (two_of cw).1
 have z1 := (two_of cw).2
 have y0 := cw.frozen 0
 have y1 := cw.frozen 1
 have x6 : ((w2.setCell ⟨w1.heap.size + 1,0,none⟩ (.int .i64 (-1))).setCell ⟨w1.heap.size + 1,1,none⟩ (.int .i64 0)).cell? ⟨w1.heap.size,0,none⟩ = some (.int .i64 g.number) := (far2 (by omega)).trans (two_of c1).1
 have CW := Lib.hid cw
 clear c1 cw k2
 go_wp2_with fail
 have hwB : ((w2.setCell ⟨w1.heap.size + 1,0,none⟩ (.int .i64 (-1))).setCell ⟨w1.heap.size + 1,1,none⟩ (.int .i64 0)).alloc (.cells #[.int .i64 (g.number + 1),.int .i64 t] 129) = W4 w2 (w1.heap.size + 1) ⟨g.number + 1,t⟩ := rfl
 rw [hwB]
 have KB := Lib.hid ((k1.trans K2.out (by simp)).trans (W4.keeps w2 (w1.heap.size + 1) ⟨g.number + 1,t⟩) (fun x hx => .inr (by simp at hx; subst hx; have := k1.size; omega)))
 have W2 := Lib.hid (W4.two w2 (w1.heap.size + 1) ⟨g.number + 1,t⟩ CW.out)
 have WN := Lib.hid (W4.three w2 (w1.heap.size + 1) ⟨g.number + 1,t⟩)
 clear k1 hwB x6 z0 z1 y0 y1 CW b1 b2
 generalize W4 w2 (w1.heap.size + 1) ⟨g.number + 1,t⟩ = wB at *
 simp only at WN
 have BW := Lib.hid (fun w' (hk : Keeps [] wB w') => W2.out.keeps hk (by simp))
 have BN := Lib.hid (fun w' (hk : Keeps [] wB w') => WN.out.keeps hk (by simp))
 have Z1 : Hid (w.heap.size ≤ w1.heap.size + 1) := by have := K1.out.size; unfold Hid; omega
 have Z2 : Hid (w.heap.size ≤ w2.heap.size) := by have := K1.out.size; have := K2.out.size; unfold Hid; omega
 have Z3 : Hid (w.heap.size ≤ wB.heap.size) := by have := KB.out.size; unfold Hid; omega
 have nq : q ≠ wB.heap.size := by have := H.out.1.lt; have := KB.out.size; omega
 have na : w1.heap.size + 1 ≠ wB.heap.size := by have := W2.out.lt; omega
 have nb : w2.heap.size ≠ wB.heap.size := by have := WN.out.lt; omega
 have QT := Lib.hid (fun w' (hk : Keeps [] wB w') => trade_held_not (w' := w') ⟨-1,0⟩ ⟨g.number + 1,t⟩ H.out HM.out HL.out HNE.out (KB.out.trans hk (by simp)))
 have HC := Lib.hid (show ∀ w',Keeps [] wB w' → w'.cell? ⟨q,0,none⟩ = some (.pointer (some ⟨r,0,none⟩)) ∧ w'.cell? ⟨w1.heap.size + 1,0,none⟩ = some (.int .i64 (-1)) ∧ w'.cell? ⟨w1.heap.size + 1,1,none⟩ = some (.int .i64 0) ∧ w'.cell? ⟨w2.heap.size,0,none⟩ = some (.int .i64 (g.number + 1)) ∧ w'.cell? ⟨w2.heap.size,1,none⟩ = some (.int .i64 t) from fun w' hk => ⟨((H.out.keeps (KB.out.trans hk (by simp)) (by simp) (by simp) (by simp)).1.cell 0).trans rfl,(two_of (BW.out _ hk)).1,(two_of (BW.out _ hk)).2,(two_of (BN.out _ hk)).1,(two_of (BN.out _ hk)).2⟩)
 obtain ⟨i0,i1,i2,i3,i4⟩ := HC.out _ Sq.r
 go_region_held3 (fun w' => w'.cell? ⟨q,0,none⟩ = some (.pointer (some ⟨r,0,none⟩)) ∧ w'.cell? ⟨w1.heap.size + 1,0,none⟩ = some (.int .i64 (-1)) ∧ w'.cell? ⟨w1.heap.size + 1,1,none⟩ = some (.int .i64 0) ∧ w'.cell? ⟨w2.heap.size,0,none⟩ = some (.int .i64 (g.number + 1)) ∧ w'.cell? ⟨w2.heap.size,1,none⟩ = some (.int .i64 t)) (first | exact HC.out _ (by first | exact Sq.r.drew | exact Sq.r.drew.alloc _) | exact ⟨u0,u1,u2,u3,u4⟩ | exact ⟨(far2 nq).trans u0,(far2 na).trans u1,(far2 na).trans u2,(far2 nb).trans u3,(far2 nb).trans u4⟩ | exact ⟨(af lq).trans u0,(af ca).trans u1,(af ca).trans u2,(af cb).trans u3,(af cb).trans u4⟩ | exact ⟨(far2 (Nat.ne_of_lt lq)).trans ((af lq).trans u0),(far2 (Nat.ne_of_lt ca)).trans ((af ca).trans u1),(far2 (Nat.ne_of_lt ca)).trans ((af ca).trans u2),(far2 (Nat.ne_of_lt cb)).trans ((af cb).trans u3),(far2 (Nat.ne_of_lt cb)).trans ((af cb).trans u4)⟩ | go_keep) ((first
  | (go_at_call 135; refine (QT.out _ (show Keeps [] wB _ from Sq.r.drew.alloc (.cells #[.int .i64 0,.int .i64 0] 129))).mono ?_; rintro e w4 ⟨rfl,hl,hkeep,hq,hkw⟩; have HN := Lib.hid hl; have HKW := Lib.hid hkw; have u0 : w4.cell? ⟨q,0,none⟩ = some (.pointer (some ⟨r,0,none⟩)) := (hq.cell 0).trans rfl; have hwx := two_of (hkeep _ _ _ Z1.out (BW.out _ (Sq.r.drew.alloc _))); have hnx := two_of (hkeep _ _ _ Z2.out (BN.out _ (Sq.r.drew.alloc _))); have u1 := hwx.1; have u2 := hwx.2; have u3 := hnx.1; have u4 := hnx.2; have bz := hkeep wB.heap.size 129 #[.int .i64 0,.int .i64 0] Z3.out (new_at _ _ _ rfl); have v1 := (two_of bz).1; have v2 := (two_of bz).2; have y1 := bz.frozen 0; have y2 := bz.frozen 1; clear bz; clear hl hkw hkeep hq hwx hnx)
  | (go_at_call 135; refine (QT.out _ (show Keeps [] wB _ from Sq.r.drew)).mono ?_; rintro e w4 ⟨rfl,hl,hkeep,hq,hkw⟩; have HN := Lib.hid hl; have HKW := Lib.hid hkw; have u0 : w4.cell? ⟨q,0,none⟩ = some (.pointer (some ⟨r,0,none⟩)) := (hq.cell 0).trans rfl; have hwx := two_of (hkeep _ _ _ Z1.out (BW.out _ Sq.r.drew)); have hnx := two_of (hkeep _ _ _ Z2.out (BN.out _ Sq.r.drew)); have u1 := hwx.1; have u2 := hwx.2; have u3 := hnx.1; have u4 := hnx.2; have lq := hq.lt; have ca := (hkeep _ _ _ Z1.out (BW.out _ Sq.r.drew)).lt; have cb := (hkeep _ _ _ Z2.out (BN.out _ Sq.r.drew)).lt; clear hl hkw hkeep hq hwx hnx)))
 · skip
   go_wp2_with fail
   go_ret2
   exact ⟨rfl,H.out.left HM.out HKW.out HN.out (S := []) (by simp) (Sq.r.alloc _)⟩
 · skip
   go_wp2_with fail
   go_ret2
   exact ⟨rfl,H.out.left HM.out HKW.out HN.out (S := [wB.heap.size]) (fun z hz => by simp at hz; subst hz; exact ⟨Z3.out,.inl (by simp)⟩) ((Sq.r.setCell (.inl (by simp)) _).setCell (.inl (by simp)) _)⟩
open Go.RowKit
def W2g (w : World) (a b : Gt) : World := (w.alloc (.cells #[.int .i64 a.number,.int .i64 a.owner] 129)).alloc (.cells #[.int .i64 b.number,.int .i64 b.owner] 129)
theorem W2g.keeps (w : World) (a b : Gt) : Keeps [] w (W2g w a b) := (Sq.r.alloc _).alloc _
theorem W2g.one (w : World) (a b : Gt) : Blk (W2g w a b) w.heap.size 129 #[.int .i64 a.number,.int .i64 a.owner] := (Blk.new _ _ _).alloc _
theorem W2g.two (w : World) (a b : Gt) : Blk (W2g w a b) (w.heap.size + 1) 129 #[.int .i64 b.number,.int .i64 b.owner] := new_at _ _ _ (by simp)
def W4g (w : World) (z : Nat) : World := (w.setCell ⟨z,0,none⟩ (.int .i64 (-1))).setCell ⟨z,1,none⟩ (.int .i64 0)
theorem W4g.keeps (w : World) (z : Nat) : Keeps [z] w (W4g w z) := ((Keeps.refl [z] w).setCell (.inl (by simp)) _).setCell (.inl (by simp)) _
theorem W4g.two (w : World) (z : Nat) {x y : Value} (h : Blk w z 129 #[x,y]) : Blk (W4g w z) z 129 #[.int .i64 (-1),.int .i64 0] := by
 have h1 := (h.set_ 0 (.int .i64 (-1))).set_ 1 (.int .i64 0)
 unfold W4g
 simpa using h1
theorem W4g.one (w : World) (z k : Nat) (hk : k ≠ z) {cs : Array Value} {t : TypeId} (h : Blk w k t cs) : Blk (W4g w z) k t cs := (h.far hk _).far hk _
theorem neq_run (w : World) (n o t : Int) (ht : o ≠ t) : (Op.equalIn 10000 129 (.agg #[.int .i64 n,.int .i64 o]) (.agg #[.int .i64 n,.int .i64 t])).run Tryz.prog w = .ok false w := by
 have := RowG.eq_run w ⟨n,o⟩ ⟨n,t⟩
 rw [this,decide_eq_false (by intro e; injection e with _ e2; exact ht e2)]
theorem same_run (w : World) (n o : Int) : (Op.equalIn 10000 129 (.agg #[.int .i64 n,.int .i64 o]) (.agg #[.int .i64 n,.int .i64 o])).run Tryz.prog w = .ok true w := by
 have := RowG.eq_run w ⟨n,o⟩ ⟨n,o⟩
 rw [this,decide_eq_true rfl]
theorem give_bad (w : World) (q : Nat) (t : Int) (ht : t < 1 ∨ 8 < t) :
 Calls Tryz.prog 85 #[.pointer (some ⟨q,0,none⟩),.int .i64 t] w fun e w' => e = .returned (.int .i64 1) ∧ w = w' := by
 have HT := Lib.hid (isThread_no w t ht)
 go_enter Tryz.func85,Tryz.ntmps85
 go_wp2_with fail
 refine HT.out.mono ?_
 rintro e wa ⟨rfl,rfl⟩
 go_wp2_with fail
 go_ret
 exact ⟨rfl,rfl⟩
set_option maxHeartbeats 1000000 in
theorem give_ok (w : World) (q r b : Nat) (mp : Option Nat) (g : Gt) (h : GateAt w q r b mp g) (lb : Nat) (s : MS) (hm : MetAt MT w mp lb s) (hl : Room mp s) (t : Int) (t1 : 1 ≤ t) (t2 : t ≤ 8) (n0 : 0 ≤ g.number) (n1 : g.number < 4611686018427387904) (ho : g.owner = t) :
 Calls Tryz.prog 85 #[.pointer (some ⟨q,0,none⟩),.int .i64 t] w fun e w' => e = .returned (.int .i64 0) ∧ GLeft q r b mp ⟨g.number + 1,0⟩ lb (s.note 2 0 3 true) w w' := by
 have hw1 : IntKind.i64.wrap (g.number + 1) = g.number + 1 := by rw [IntKind.wrap_i64]; omega
 have he := fun w => same_run w g.number g.owner
 have H := Lib.hid h
 have HM := Lib.hid hm
 have HL := Lib.hid hl
 have HT := Lib.hid (isThread_yes w t t1 t2)
 have hne : g ≠ ⟨-1,0⟩ := by rintro rfl; simp at n0
 have HNE := Lib.hid hne
 clear h hm hl hne
 subst ho
 go_enter Tryz.func85,Tryz.ntmps85
 go_wp2_with fail
 refine HT.out.mono ?_
 rintro e wa ⟨rfl,rfl⟩
 go_wp2_with fail
 refine (gate_now w q r b mp g H.out).mono ?_
 rintro e w1 ⟨rfl,k1⟩
 have K1 := Lib.hid k1
 clear HT
 go_wp2_with fail
 have hwB : (w1.alloc (.cells #[.int .i64 g.number,.int .i64 g.owner] 129)).alloc (.cells #[.int .i64 g.number,.int .i64 g.owner] 129) = W2g w1 g g := rfl
 rw [hwB]
 have KB := Lib.hid (k1.trans (W2g.keeps w1 g g) (by simp))
 have W2 := Lib.hid (W2g.two w1 g g)
 have WN := Lib.hid (W2g.one w1 g g)
 clear k1 hwB
 generalize W2g w1 g g = wB at *
 have BW := Lib.hid (fun w' (hk : Keeps [] wB w') => W2.out.keeps hk (by simp))
 have BN := Lib.hid (fun w' (hk : Keeps [] wB w') => WN.out.keeps hk (by simp))
 have Z1 : Hid (w.heap.size ≤ w1.heap.size + 1) := by have := K1.out.size; unfold Hid; omega
 have Z2 : Hid (w.heap.size ≤ w1.heap.size) := K1.out.size
 have Z3 : Hid (w.heap.size ≤ wB.heap.size) := by have := KB.out.size; unfold Hid; omega
 have nq : q ≠ wB.heap.size := by have := H.out.1.lt; have := KB.out.size; omega
 have na : w1.heap.size + 1 ≠ wB.heap.size := by have := W2.out.lt; omega
 have nb : w1.heap.size ≠ wB.heap.size := by have := WN.out.lt; omega
 have QT := Lib.hid (fun w' (hk : Keeps [] wB w') => trade_held_yes (w' := w') ⟨g.number + 1,0⟩ H.out HM.out HL.out (KB.out.trans hk (by simp)))
 have HC := Lib.hid (show ∀ w',Keeps [] wB w' → w'.cell? ⟨q,0,none⟩ = some (.pointer (some ⟨r,0,none⟩)) ∧ w'.cell? ⟨w1.heap.size + 1,0,none⟩ = some (.int .i64 g.number) ∧ w'.cell? ⟨w1.heap.size + 1,1,none⟩ = some (.int .i64 g.owner) ∧ w'.cell? ⟨w1.heap.size,0,none⟩ = some (.int .i64 g.number) ∧ w'.cell? ⟨w1.heap.size,1,none⟩ = some (.int .i64 g.owner) from fun w' hk => ⟨((H.out.keeps (KB.out.trans hk (by simp)) (by simp) (by simp) (by simp)).1.cell 0).trans rfl,(two_of (BW.out _ hk)).1,(two_of (BW.out _ hk)).2,(two_of (BN.out _ hk)).1,(two_of (BN.out _ hk)).2⟩)
 obtain ⟨i0,i1,i2,i3,i4⟩ := HC.out _ Sq.r
 go_region_held3 (fun w' => w'.cell? ⟨q,0,none⟩ = some (.pointer (some ⟨r,0,none⟩)) ∧ w'.cell? ⟨w1.heap.size + 1,0,none⟩ = some (.int .i64 g.number) ∧ w'.cell? ⟨w1.heap.size + 1,1,none⟩ = some (.int .i64 g.owner) ∧ w'.cell? ⟨w1.heap.size,0,none⟩ = some (.int .i64 g.number) ∧ w'.cell? ⟨w1.heap.size,1,none⟩ = some (.int .i64 g.owner)) (first | exact HC.out _ (by first | exact Sq.r.drew | exact Sq.r.drew.alloc _) | exact ⟨u0,u1,u2,u3,u4⟩ | exact ⟨(far2 nq).trans u0,(far2 na).trans u1,(far2 na).trans u2,(far2 nb).trans u3,(far2 nb).trans u4⟩ | exact ⟨(af lq).trans u0,(af ca).trans u1,(af ca).trans u2,(af cb).trans u3,(af cb).trans u4⟩ | exact ⟨(far2 (Nat.ne_of_lt lq)).trans ((af lq).trans u0),(far2 (Nat.ne_of_lt ca)).trans ((af ca).trans u1),(far2 (Nat.ne_of_lt ca)).trans ((af ca).trans u2),(far2 (Nat.ne_of_lt cb)).trans ((af cb).trans u3),(far2 (Nat.ne_of_lt cb)).trans ((af cb).trans u4)⟩ | go_keep) ((first
  | (go_at_call 135; refine (QT.out _ (show Keeps [] wB _ from Sq.r.drew.alloc (.cells #[.int .i64 0,.int .i64 0] 129))).mono ?_; rintro e w4 ⟨rfl,hl,hkeep,hq,hkw⟩; have HN := Lib.hid hl; have HKW := Lib.hid hkw; have u0 : w4.cell? ⟨q,0,none⟩ = some (.pointer (some ⟨r,0,none⟩)) := (hq.cell 0).trans rfl; have hwx := two_of (hkeep _ _ _ Z1.out (BW.out _ (Sq.r.drew.alloc _))); have hnx := two_of (hkeep _ _ _ Z2.out (BN.out _ (Sq.r.drew.alloc _))); have u1 := hwx.1; have u2 := hwx.2; have u3 := hnx.1; have u4 := hnx.2; have bz := hkeep wB.heap.size 129 #[.int .i64 0,.int .i64 0] Z3.out (new_at _ _ _ rfl); have v1 := (two_of bz).1; have v2 := (two_of bz).2; have y1 := bz.frozen 0; have y2 := bz.frozen 1; clear bz; clear hl hkw hkeep hq hwx hnx)
  | (go_at_call 135; refine (QT.out _ (show Keeps [] wB _ from Sq.r.drew)).mono ?_; rintro e w4 ⟨rfl,hl,hkeep,hq,hkw⟩; have HN := Lib.hid hl; have HKW := Lib.hid hkw; have u0 : w4.cell? ⟨q,0,none⟩ = some (.pointer (some ⟨r,0,none⟩)) := (hq.cell 0).trans rfl; have hwx := two_of (hkeep _ _ _ Z1.out (BW.out _ Sq.r.drew)); have hnx := two_of (hkeep _ _ _ Z2.out (BN.out _ Sq.r.drew)); have u1 := hwx.1; have u2 := hwx.2; have u3 := hnx.1; have u4 := hnx.2; have lq := hq.lt; have ca := (hkeep _ _ _ Z1.out (BW.out _ Sq.r.drew)).lt; have cb := (hkeep _ _ _ Z2.out (BN.out _ Sq.r.drew)).lt; clear hl hkw hkeep hq hwx hnx)))
 · go_wp2_with fail
   go_ret
   exact ⟨rfl,H.out.left HM.out HKW.out HN.out (S := []) (by simp) (Sq.r.alloc _)⟩
 · go_wp2_with fail
   go_ret
   exact ⟨rfl,H.out.left HM.out HKW.out HN.out (S := [wB.heap.size]) (fun z hz => by simp at hz; subst hz; exact ⟨Z3.out,.inl (by simp)⟩) ((Sq.r.setCell (.inl (by simp)) _).setCell (.inl (by simp)) _)⟩
set_option maxHeartbeats 1000000 in
theorem give_not (w : World) (q r b : Nat) (mp : Option Nat) (g : Gt) (h : GateAt w q r b mp g) (lb : Nat) (s : MS) (hm : MetAt MT w mp lb s) (hl : Room mp s) (t : Int) (t1 : 1 ≤ t) (t2 : t ≤ 8) (n0 : 0 ≤ g.number) (n1 : g.number < 4611686018427387904) (ho : g.owner ≠ t) :
 Calls Tryz.prog 85 #[.pointer (some ⟨q,0,none⟩),.int .i64 t] w fun e w' => e = .returned (.int .i64 4) ∧ GLeft q r b mp g lb (s.note 2 0 3 false) w w' := by
 have hw1 : IntKind.i64.wrap (g.number + 1) = g.number + 1 := by rw [IntKind.wrap_i64]; omega
 have he := fun w => neq_run w g.number g.owner t ho
 have H := Lib.hid h
 have HM := Lib.hid hm
 have HL := Lib.hid hl
 have HT := Lib.hid (isThread_yes w t t1 t2)
 have hne : g ≠ ⟨-1,0⟩ := by rintro rfl; simp at n0
 have HNE := Lib.hid hne
 clear h hm hl hne
 have HO := Lib.hid ho; clear ho
 go_enter Tryz.func85,Tryz.ntmps85
 go_wp2_with fail
 refine HT.out.mono ?_
 rintro e wa ⟨rfl,rfl⟩
 go_wp2_with fail
 refine (gate_now w q r b mp g H.out).mono ?_
 rintro e w1 ⟨rfl,k1⟩
 have K1 := Lib.hid k1
 clear HT
 have b1 := Lib.hid ((Blk.new w1 129 #[.int .i64 g.number,.int .i64 g.owner]).alloc (.cells #[.int .i64 g.number,.int .i64 g.owner] 129))
 have b2 := Lib.hid (show Blk ((w1.alloc (.cells #[.int .i64 g.number,.int .i64 g.owner] 129)).alloc (.cells #[.int .i64 g.number,.int .i64 g.owner] 129)) (w1.heap.size + 1) 129 #[.int .i64 g.number,.int .i64 g.owner] from new_at _ _ _ (by simp))
 go_wp2_with fail
 refine (gate_none _).mono ?_
 rintro e w2 ⟨rfl,k2⟩
 have c1 := b1.out.keeps k2 (by simp)
 have cw := b2.out.keeps k2 (by simp)
 have K2 := Lib.hid ((((Keeps.refl [] w1).alloc _).alloc _).trans k2 (by simp))
 have z0 := (two_of cw).1
 have z1 := (two_of cw).2
 have y0 := cw.frozen 0
 have y1 := cw.frozen 1
 have CW := Lib.hid cw
 have C1 := Lib.hid c1
 clear c1 cw k2
 go_wp2_with fail
 have hwB : (w2.setCell ⟨w1.heap.size + 1,0,none⟩ (.int .i64 (-1))).setCell ⟨w1.heap.size + 1,1,none⟩ (.int .i64 0) = W4g w2 (w1.heap.size + 1) := rfl
 rw [hwB]
 have KB := Lib.hid ((k1.trans K2.out (by simp)).trans (W4g.keeps w2 (w1.heap.size + 1)) (fun x hx => .inr (by simp at hx; subst hx; have := k1.size; omega)))
 have W2 := Lib.hid (W4g.two w2 (w1.heap.size + 1) CW.out)
 have WN := Lib.hid (W4g.one w2 (w1.heap.size + 1) w1.heap.size (by omega) C1.out)
 clear k1 hwB z0 z1 y0 y1 CW C1 b1 b2
 generalize W4g w2 (w1.heap.size + 1) = wB at *
 have BW := Lib.hid (fun w' (hk : Keeps [] wB w') => W2.out.keeps hk (by simp))
 have BN := Lib.hid (fun w' (hk : Keeps [] wB w') => WN.out.keeps hk (by simp))
 have Z1 : Hid (w.heap.size ≤ w1.heap.size + 1) := by have := K1.out.size; unfold Hid; omega
 have Z2 : Hid (w.heap.size ≤ w1.heap.size) := K1.out.size
 have Z3 : Hid (w.heap.size ≤ wB.heap.size) := by have := KB.out.size; unfold Hid; omega
 have nq : q ≠ wB.heap.size := by have := H.out.1.lt; have := KB.out.size; omega
 have na : w1.heap.size + 1 ≠ wB.heap.size := by have := W2.out.lt; omega
 have nb : w1.heap.size ≠ wB.heap.size := by have := WN.out.lt; omega
 have QT := Lib.hid (fun w' (hk : Keeps [] wB w') => trade_held_not (w' := w') ⟨-1,0⟩ ⟨g.number + 1,0⟩ H.out HM.out HL.out HNE.out (KB.out.trans hk (by simp)))
 have HC := Lib.hid (show ∀ w',Keeps [] wB w' → w'.cell? ⟨q,0,none⟩ = some (.pointer (some ⟨r,0,none⟩)) ∧ w'.cell? ⟨w1.heap.size + 1,0,none⟩ = some (.int .i64 (-1)) ∧ w'.cell? ⟨w1.heap.size + 1,1,none⟩ = some (.int .i64 0) ∧ w'.cell? ⟨w1.heap.size,0,none⟩ = some (.int .i64 g.number) ∧ w'.cell? ⟨w1.heap.size,1,none⟩ = some (.int .i64 g.owner) from fun w' hk => ⟨((H.out.keeps (KB.out.trans hk (by simp)) (by simp) (by simp) (by simp)).1.cell 0).trans rfl,(two_of (BW.out _ hk)).1,(two_of (BW.out _ hk)).2,(two_of (BN.out _ hk)).1,(two_of (BN.out _ hk)).2⟩)
 obtain ⟨i0,i1,i2,i3,i4⟩ := HC.out _ Sq.r
 go_region_held3 (fun w' => w'.cell? ⟨q,0,none⟩ = some (.pointer (some ⟨r,0,none⟩)) ∧ w'.cell? ⟨w1.heap.size + 1,0,none⟩ = some (.int .i64 (-1)) ∧ w'.cell? ⟨w1.heap.size + 1,1,none⟩ = some (.int .i64 0) ∧ w'.cell? ⟨w1.heap.size,0,none⟩ = some (.int .i64 g.number) ∧ w'.cell? ⟨w1.heap.size,1,none⟩ = some (.int .i64 g.owner)) (first | exact HC.out _ (by first | exact Sq.r.drew | exact Sq.r.drew.alloc _) | exact ⟨u0,u1,u2,u3,u4⟩ | exact ⟨(far2 nq).trans u0,(far2 na).trans u1,(far2 na).trans u2,(far2 nb).trans u3,(far2 nb).trans u4⟩ | exact ⟨(af lq).trans u0,(af ca).trans u1,(af ca).trans u2,(af cb).trans u3,(af cb).trans u4⟩ | exact ⟨(far2 (Nat.ne_of_lt lq)).trans ((af lq).trans u0),(far2 (Nat.ne_of_lt ca)).trans ((af ca).trans u1),(far2 (Nat.ne_of_lt ca)).trans ((af ca).trans u2),(far2 (Nat.ne_of_lt cb)).trans ((af cb).trans u3),(far2 (Nat.ne_of_lt cb)).trans ((af cb).trans u4)⟩ | go_keep) ((first
  | (go_at_call 135; refine (QT.out _ (show Keeps [] wB _ from Sq.r.drew.alloc (.cells #[.int .i64 0,.int .i64 0] 129))).mono ?_; rintro e w4 ⟨rfl,hl,hkeep,hq,hkw⟩; have HN := Lib.hid hl; have HKW := Lib.hid hkw; have u0 : w4.cell? ⟨q,0,none⟩ = some (.pointer (some ⟨r,0,none⟩)) := (hq.cell 0).trans rfl; have hwx := two_of (hkeep _ _ _ Z1.out (BW.out _ (Sq.r.drew.alloc _))); have hnx := two_of (hkeep _ _ _ Z2.out (BN.out _ (Sq.r.drew.alloc _))); have u1 := hwx.1; have u2 := hwx.2; have u3 := hnx.1; have u4 := hnx.2; have bz := hkeep wB.heap.size 129 #[.int .i64 0,.int .i64 0] Z3.out (new_at _ _ _ rfl); have v1 := (two_of bz).1; have v2 := (two_of bz).2; have y1 := bz.frozen 0; have y2 := bz.frozen 1; clear bz; clear hl hkw hkeep hq hwx hnx)
  | (go_at_call 135; refine (QT.out _ (show Keeps [] wB _ from Sq.r.drew)).mono ?_; rintro e w4 ⟨rfl,hl,hkeep,hq,hkw⟩; have HN := Lib.hid hl; have HKW := Lib.hid hkw; have u0 : w4.cell? ⟨q,0,none⟩ = some (.pointer (some ⟨r,0,none⟩)) := (hq.cell 0).trans rfl; have hwx := two_of (hkeep _ _ _ Z1.out (BW.out _ Sq.r.drew)); have hnx := two_of (hkeep _ _ _ Z2.out (BN.out _ Sq.r.drew)); have u1 := hwx.1; have u2 := hwx.2; have u3 := hnx.1; have u4 := hnx.2; have lq := hq.lt; have ca := (hkeep _ _ _ Z1.out (BW.out _ Sq.r.drew)).lt; have cb := (hkeep _ _ _ Z2.out (BN.out _ Sq.r.drew)).lt; clear hl hkw hkeep hq hwx hnx)))
 · go_wp2_with fail
   go_ret
   exact ⟨rfl,H.out.left HM.out HKW.out HN.out (S := []) (by simp) (Sq.r.alloc _)⟩
 · go_wp2_with fail
   go_ret
   exact ⟨rfl,H.out.left HM.out HKW.out HN.out (S := [wB.heap.size]) (fun z hz => by simp at hz; subst hz; exact ⟨Z3.out,.inl (by simp)⟩) ((Sq.r.setCell (.inl (by simp)) _).setCell (.inl (by simp)) _)⟩
end Go.Proofs.YtmlnedilbneekaaGreat