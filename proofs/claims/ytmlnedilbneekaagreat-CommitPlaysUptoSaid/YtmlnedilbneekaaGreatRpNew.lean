/- Layer 8, the document's side: its space is made. -/
import Derived.Test.YtmlnedilbneekaaGreatRefSlots
import Derived.Test.YtmlnedilbneekaaGreatSigTouched
import Derived.Deep.QuietTactic
import Derived.BigQuiet
import Derived.Test.YtmlnedilbneekaaGreatMeter
import Derived.Test.YtmlnedilbneekaaGreatRawF
import Derived.Deep.RegionHeld3
import Derived.Test.YtmlnedilbneekaaGreatSpace
import Derived.Test.YtmlnedilbneekaaGreatRp
import Derived.Test.YtmlnedilbneekaaGreatMake
set_option linter.unusedVariables false
set_option linter.unusedSimpArgs false
namespace Go.Proofs.YtmlnedilbneekaaGreat
open Go.RowKit
theorem range_keepsS {S : List Nat} {w w' : World} {a o : Nat} {cs : List Value} (h : w.rangeAt a o cs) (hk : Keeps S w w') (ha : a ∉ S) : w'.rangeAt a o cs := fun j v hv => by
 have h1 := h j v hv
 exact (keeps_cell hk (World.block_lt_of_cell? w _ h1) ha).trans h1
def RngS (w : World) (a : Nat) (l : List Sl) : Prop := ∀ (k : Nat) (y : Sl),l[k]? = some y → w.rangeAt a (k * 8) y.cells
theorem RngS.keeps {S : List Nat} {w w' : World} {a : Nat} {l : List Sl} (h : RngS w a l) (hk : Keeps S w w') (ha : a ∉ S) : RngS w' a l := fun k y hy => range_keepsS (h k y hy) hk ha
theorem RT.rng {w : World} {z n d : Nat} {H : List Hd} {W : List Int} (h : RT w z n d H W) : RngS w d (slL H W) := fun k y hy j v hv => h.at_ hy j v hv
theorem slL_rep : ∀ n,slL (List.replicate n Hd.zero) (List.replicate (n * 2) 0) = List.replicate n ⟨Hd.zero,0,0⟩
 | 0 => rfl
 | n + 1 => by
   have e : (n + 1) * 2 = n * 2 + 1 + 1 := by omega
   rw [e]
   simp only [List.replicate_succ,slL,slL_rep n]
theorem rt_new (w : World) (n : Nat) (q : Nat) (h1 : 1 ≤ q) (h2 : q ≤ 8) : Calls Tryz.prog 45 #[.pointer (some ⟨n,0,none⟩),.int .i64 q] w fun e w' =>
 e = .returned (.tuple #[.pointer (some ⟨w.heap.size + 1,0,none⟩),.int .i64 0]) ∧ RT w' (w.heap.size + 1) n w.heap.size (List.replicate q Hd.zero) (List.replicate (q * 2) 0) ∧ Keeps [] w w' ∧ w'.heap.size = w.heap.size + 2 := by
 obtain ⟨i0,hi,hz0,hz1,hz2⟩ := info_parts Tryz.infoSlot
 have hmk : ∀ w : World,(Instr.makeSlice 145 (.int .i64 (q : Int)) (.int .i64 (q : Int))).run Tryz.prog w = .ok (.slice (some ⟨w.heap.size,0,none⟩) q q) (w.alloc (.cells ((List.replicate q (⟨Hd.zero,0,0⟩ : Sl)).flatMap Sl.cells).toArray 224)) := fun w => by
  have := run_make (P := Tryz.prog) w 145 224 i0 _ Tryz.underlying145 hi hz0 .i64 .i64 q q (by omega) (Int.le_refl _) (by rw [hz2]; omega) (by omega)
  simp only [Int.toNat_natCast] at this
  rw [this,hz1,madeCells_rep Sl.cells 8 (by decide) (fun _ => rfl) ⟨Hd.zero,0,0⟩ q (z := (Value.agg #[.int .i64 0,.int .i64 0,.int .i64 0,.int .i64 0,.bool false,.int .i64 0,.int .u64 0,.int .u64 0]).cells) rfl]
 clear hi hz0 hz1 hz2
 have g1 : decide ((q : Int) < 1) = false := by simp; omega
 have g2 : decide ((8 : Int) < (q : Int)) = false := by simp; omega
 go_enter Tryz.func45,Tryz.ntmps45
 go_wp2
 go_ret2
 refine ⟨rfl,⟨?_,?_,by simp; omega,by simpa using h1,by simpa using h2⟩,by simp,by simp⟩
 · simp only [List.length_replicate]
   exact new_at _ _ _ (by simp)
 · rw [slL_rep]
   exact (Blk.new _ _ _).alloc _
set_option maxHeartbeats 2000000 in
theorem slots_same (w : World) (a a' c c' : Nat) (l : List Sl) (hl : l.length ≤ 4096) (h1 : RngS w a l) (h2 : RngS w a' l) :
 Calls Tryz.prog 120 #[.slice (some ⟨a,0,none⟩) l.length c,.slice (some ⟨a',0,none⟩) l.length c'] w fun e w' => e = .returned (.bool true) ∧ Keeps [] w w' := by
 have R1 := Lib.hid h1
 have R2 := Lib.hid h2
 clear h1 h2
 go_enter Tryz.func120,Tryz.ntmps120
 go_wp2_with fail
 go_loopw [5] (fun i wr => ∃ k : Nat,k ≤ l.length ∧ i = .int .i64 k ∧ Keeps [] w wr) (fun i _ => l.length - (intOf i).toNat)
 case atStart => exact ⟨0,Nat.zero_le _,rfl,Keeps.refl _ _⟩
 case round =>
  obtain ⟨k,hk,rfl,hkr⟩ := hrel
  by_cases hlt : k < l.length
  ·
   have k0 : (0 : Int) ≤ (k : Int) := by omega
   have k1 : (k : Int) < (l.length : Int) := by omega
   obtain ⟨y,hy⟩ : ∃ y,l[k]? = some y := ⟨_,List.getElem?_eq_getElem hlt⟩
   have e1 := range_keepsS (R1.out k y hy) hkr (by simp)
   have e2 := range_keepsS (R2.out k y hy) hkr (by simp)
   have x0 : wr.cell? ⟨a,k * 8,none⟩ = some (.int .i64 y.h.gen) := e1 0 _ rfl
   have y0 : wr.cell? ⟨a',k * 8,none⟩ = some (.int .i64 y.h.gen) := e2 0 _ rfl
   have x1 : wr.cell? ⟨a,k * 8 + 1,none⟩ = some (.int .i64 y.h.state) := e1 1 _ rfl
   have y1 : wr.cell? ⟨a',k * 8 + 1,none⟩ = some (.int .i64 y.h.state) := e2 1 _ rfl
   have x2 : wr.cell? ⟨a,k * 8 + 2,none⟩ = some (.int .i64 y.h.stamp) := e1 2 _ rfl
   have y2 : wr.cell? ⟨a',k * 8 + 2,none⟩ = some (.int .i64 y.h.stamp) := e2 2 _ rfl
   have x3 : wr.cell? ⟨a,k * 8 + 3,none⟩ = some (.int .i64 y.h.thread) := e1 3 _ rfl
   have y3 : wr.cell? ⟨a',k * 8 + 3,none⟩ = some (.int .i64 y.h.thread) := e2 3 _ rfl
   have x4 : wr.cell? ⟨a,k * 8 + 4,none⟩ = some (.bool y.h.doomed) := e1 4 _ rfl
   have y4 : wr.cell? ⟨a',k * 8 + 4,none⟩ = some (.bool y.h.doomed) := e2 4 _ rfl
   have x5 : wr.cell? ⟨a,k * 8 + 5,none⟩ = some (.int .i64 y.h.who) := e1 5 _ rfl
   have y5 : wr.cell? ⟨a',k * 8 + 5,none⟩ = some (.int .i64 y.h.who) := e2 5 _ rfl
   have x6 : wr.cell? ⟨a,k * 8 + 6,none⟩ = some (.int .u64 y.a) := e1 6 _ rfl
   have y6 : wr.cell? ⟨a',k * 8 + 6,none⟩ = some (.int .u64 y.a) := e2 6 _ rfl
   have x7 : wr.cell? ⟨a,k * 8 + 7,none⟩ = some (.int .u64 y.b) := e1 7 _ rfl
   have y7 : wr.cell? ⟨a',k * 8 + 7,none⟩ = some (.int .u64 y.b) := e2 7 _ rfl
   have he : ∀ w,(Op.equalIn 10000 224 (.agg #[.int .i64 y.h.gen,.int .i64 y.h.state,.int .i64 y.h.stamp,.int .i64 y.h.thread,.bool y.h.doomed,.int .i64 y.h.who,.int .u64 y.a,.int .u64 y.b]) (.agg #[.int .i64 y.h.gen,.int .i64 y.h.state,.int .i64 y.h.stamp,.int .i64 y.h.thread,.bool y.h.doomed,.int .i64 y.h.who,.int .u64 y.a,.int .u64 y.b])).run Tryz.prog w = .ok true w := fun w => by simp [go_sem,sig_same9]
   clear e1 e2 hy
   go_wp2_with fail
   go_quiet (fail)
   go_wp2_with fail
   exact ⟨⟨k + 1,by omega,by simp,hkr.trans ((Keeps.refl [] _).drewN _) (by simp)⟩,by simp [intOf]; omega⟩
  · have hge : ¬ ((k : Int) < (l.length : Int)) := by omega
    go_wp2_with fail
    go_ret
    exact ⟨rfl,hkr⟩
open Go.RowKit
def LogSlc (w : World) (A : Option Addr) (l : List Acc) : Prop :=
 l.length ≤ 2199023255552 ∧ (l = [] ∨ ∃ b,A = some ⟨b,0,none⟩ ∧ b < w.heap.size ∧ ∀ k x,l[k]? = some x → ∀ j u,x.cells[j]? = some u → w.cell? ⟨b,k * 6 + j,none⟩ = some u)
theorem LogSlc.keeps {w w' : World} {A : Option Addr} {l : List Acc} (h : LogSlc w A l) (hk : Keeps [] w w') : LogSlc w' A l := by
 refine ⟨h.1,h.2.imp id ?_⟩
 rintro ⟨b,hA,hb,hc⟩
 exact ⟨b,hA,Nat.lt_of_lt_of_le hb hk.size,fun k x hx j u hu => (World.cell?_of_block (hk.block b hb (by simp))).trans (hc k x hx j u hu)⟩
theorem logCells_get (l : List Acc) (k : Nat) (x : Acc) (hx : l[k]? = some x) (j : Nat) (u : Value) (hu : x.cells[j]? = some u) : (logCells l)[k * 6 + j]? = some u := by
 induction l generalizing k with
 | nil => simp at hx
 | cons y l ih =>
   have hj : j < 6 := by have := (List.getElem?_eq_some_iff.1 hu).1; simpa [Acc.cells] using this
   have e : logCells (y :: l) = y.cells ++ logCells l := by simp [logCells]
   rw [e]
   cases k with
   | zero =>
     simp at hx
     subst hx
     rw [Nat.zero_mul,Nat.zero_add,List.getElem?_append_left (by simpa [Acc.cells] using hj)]
     exact hu
   | succ k =>
     rw [List.getElem?_append_right (by simp [Acc.cells]; omega)]
     have := ih k (by simpa using hx)
     have e2 : (k + 1) * 6 + j - y.cells.length = k * 6 + j := by simp [Acc.cells]; omega
     rw [e2]
     exact this
theorem LogSlc.of_own {w : World} {base n : Nat} {v : Value} {l : List Acc} (h : w.ownsRow base 216 6 v n (logCells l)) (hl : l.length ≤ 2199023255552) : ∃ A c,v = .slice A n c ∧ n = l.length ∧ LogSlc w A l := by
 have hn : n = l.length := by have := h.1; rw [logCells_length] at this; omega
 rcases h.2 with ⟨rfl,h0⟩ | ⟨g,cap,cur,rfl,hb,hg,h1,h2,h3,h4⟩
 · exact ⟨none,0,by rw [h0],hn,hl,.inl (List.eq_nil_of_length_eq_zero (by omega))⟩
 · refine ⟨_,_,rfl,hn,hl,.inr ⟨g,rfl,(Array.getElem?_eq_some_iff.1 hg).1,fun k x hx j u hu => ?_⟩⟩
   have hc := h.cells (g := g) rfl (k * 6 + j) u (logCells_get l k x hx j u hu)
   have e : (⟨g,0,none⟩ : Addr).add (k * 6 + j) = ⟨g,k * 6 + j,none⟩ := by unfold Addr.add; split <;> simp_all
   rwa [e] at hc
theorem same_yes (w : World) (A B : Option Addr) (l : List Acc) (c d : Nat) (hA : LogSlc w A l) (hB : LogSlc w B l) :
 Calls Tryz.prog 58 #[.slice A l.length c,.slice B l.length d] w fun e w' => e = .returned (.bool true) ∧ Keeps [] w w' := by
 have hlen := hA.1
 have HA := Lib.hid hA
 have HB := Lib.hid hB
 clear hA hB
 go_enter Tryz.func58,Tryz.ntmps58
 go_wp2
 go_loopw [5] (fun i wr => ∃ k : Nat,k ≤ l.length ∧ i = .int .i64 k ∧ Keeps [] w wr) (fun i _ => l.length - (intOf i).toNat)
 case atStart => exact ⟨0,Nat.zero_le _,rfl,Keeps.refl _ _⟩
 case round =>
  obtain ⟨k,hk,rfl,hkr⟩ := hrel
  have HK := Lib.hid hkr
  clear hkr
  by_cases hlt : k < l.length
  ·
   obtain ⟨x,hx⟩ : ∃ x,l[k]? = some x := ⟨_,List.getElem?_eq_getElem hlt⟩
   rcases (HA.out.keeps HK.out).2 with h0 | ⟨b,rfl,hb,hc⟩
   · subst h0; simp at hlt
   rcases (HB.out.keeps HK.out).2 with h0 | ⟨b',rfl,hb',hc'⟩
   · subst h0; simp at hlt
   have d0 : wr.cell? ⟨b,k * 6,none⟩ = some (.int .i64 x.step) := hc k x hx 0 _ rfl
   have d1 : wr.cell? ⟨b,k * 6 + 1,none⟩ = some (.int .i64 x.thread) := hc k x hx 1 _ rfl
   have d2 : wr.cell? ⟨b,k * 6 + 2,none⟩ = some (.int .i64 x.kind) := hc k x hx 2 _ rfl
   have d3 : wr.cell? ⟨b,k * 6 + 3,none⟩ = some (.int .i64 x.place) := hc k x hx 3 _ rfl
   have d4 : wr.cell? ⟨b,k * 6 + 4,none⟩ = some (.int .i64 x.op) := hc k x hx 4 _ rfl
   have d5 : wr.cell? ⟨b,k * 6 + 5,none⟩ = some (.bool x.ok) := hc k x hx 5 _ rfl
   have e0 : wr.cell? ⟨b',k * 6,none⟩ = some (.int .i64 x.step) := hc' k x hx 0 _ rfl
   have e1 : wr.cell? ⟨b',k * 6 + 1,none⟩ = some (.int .i64 x.thread) := hc' k x hx 1 _ rfl
   have e2 : wr.cell? ⟨b',k * 6 + 2,none⟩ = some (.int .i64 x.kind) := hc' k x hx 2 _ rfl
   have e3 : wr.cell? ⟨b',k * 6 + 3,none⟩ = some (.int .i64 x.place) := hc' k x hx 3 _ rfl
   have e4 : wr.cell? ⟨b',k * 6 + 4,none⟩ = some (.int .i64 x.op) := hc' k x hx 4 _ rfl
   have e5 : wr.cell? ⟨b',k * 6 + 5,none⟩ = some (.bool x.ok) := hc' k x hx 5 _ rfl
   clear hc hc' hx
   have g1 : (0 : Int) ≤ (k : Int) := by omega
   have g2 : (k : Int) < (l.length : Int) := by omega
   go_wp2
   go_quiet (fail)
   go_wp2
   go_roundw
   case rel => exact ⟨k + 1,by omega,by go_num,HK.out.drewN _⟩
   case measure => simp [intOf]; omega
  · have hge : ¬ ((k : Int) < (l.length : Int)) := by omega
    go_wp2
    go_ret
    exact ⟨rfl,HK.out⟩
open Go.RowKit
theorem OwnS.rng {w : World} {a c n : Nat} {l : List Sl} (h : OwnS w a c n l) (hl : l.length = n) : RngS w a l := fun k y hy j v hv => by
 have hk := (List.getElem?_eq_some_iff.1 hy).1
 have hj : j < 8 := (List.getElem?_eq_some_iff.1 hv).1
 exact (World.ownsRow.cellAt h (k * 8 + j) (by omega)).trans (sl_get l k y hy j v hv)
theorem OwnC.at_ {w : World} {a c : Nat} {l : List Int} (h : OwnC w a c l) {k : Nat} {x : Int} (hx : l[k]? = some x) : w.cell? ⟨a,k,none⟩ = some (.int .i64 x) := by
 have hk := (List.getElem?_eq_some_iff.1 hx).1
 exact (World.ownsRow.cellAt h k (by omega)).trans (RowI.cells_get l k x hx)
section
variable {w0 w w' wB : World} {z : Sb} {F : List Nat} {y : Rb} {G : List Nat} {S : Sp} {k : Nat}
theorem sames_kept {wB w : World} (a a' c c' q q' : Nat) (l : List Sl) (hq : q = l.length) (hq' : q' = l.length) (hl : l.length ≤ 4096) (h1 : RngS w a l) (h2 : RngS w a' l) (hk : Keeps [] wB w) :
 Calls Tryz.prog 120 #[.slice (some ⟨a,0,none⟩) q c,.slice (some ⟨a',0,none⟩) q' c'] w fun e w' => e = .returned (.bool true) ∧ Keeps [] wB w' := by
 subst hq hq'
 exact (slots_same w a a' c c' l hl h1 h2).mono fun e w' ⟨he,h3⟩ => ⟨he,hk.trans h3 (by simp)⟩
set_option maxRecDepth 100000 in
set_option maxHeartbeats 4000000 in
theorem is_yes (h : RP w0 w y G S) (hf : Fit k S) (a1 c1 a2 c2 : Nat) (hC : OwnC w a1 c1 S.cells) (hS : OwnS w a2 c2 S.H.length (slL S.H S.W)) :
 Calls Tryz.prog 56 #[PT y.p,.agg #[.slice (some ⟨a1,0,none⟩) S.cells.length c1,.int .i64 S.gate.number,.int .i64 S.gate.owner,.slice (some ⟨a2,0,none⟩) S.H.length c2]] w fun e w' => e = .returned (.bool true) ∧ Keeps [] w w' := by
 obtain ⟨lb,v,hs,_⟩ := h.ex
 have hn := hf.ncells
 have hm := hf.nslots
 have hlen := slL_len S.H S.W hf.words
 have kB : Keeps [] w (w.alloc (.cells #[.slice (some ⟨a1,0,none⟩) S.cells.length c1,.int .i64 S.gate.number,.int .i64 S.gate.owner,.slice (some ⟨a2,0,none⟩) S.H.length c2] 147)) := Sq.r.alloc _
 have bb := Blk.new w 147 #[.slice (some ⟨a1,0,none⟩) S.cells.length c1,.int .i64 S.gate.number,.int .i64 S.gate.owner,.slice (some ⟨a2,0,none⟩) S.H.length c2]
 have hsB := hs.calm kB
 have hCB := hC.keeps kB (by simp)
 have hSB := hS.keeps kB (by simp)
 have hd := h.calm kB
 obtain ⟨q0,q1,q2,p6,p7,p8,p9⟩ := hd.cells
 have r2 : _ = some (Value.slice (some ⟨y.b,0,none⟩) S.cells.length S.cells.length) := (hsB.row.blk.cell 2).trans rfl
 obtain ⟨_,g1,g2⟩ := RG.cells hsB.gate
 have t1 : _ = some (Value.slice (some ⟨y.d,0,none⟩) S.H.length S.H.length) := (hsB.tab.blk.cell 1).trans rfl
 have hrow := hsB.row
 have htab := hsB.tab.rng
 have hSr := hSB.rng hlen
 obtain ⟨wB,hwB⟩ : ∃ q,w.alloc (.cells #[.slice (some ⟨a1,0,none⟩) S.cells.length c1,.int .i64 S.gate.number,.int .i64 S.gate.owner,.slice (some ⟨a2,0,none⟩) S.H.length c2] 147) = q := ⟨_,rfl⟩
 rw [hwB] at kB bb hCB hSr htab hrow t1 g1 g2 r2 p7 p8 p9
 have b0 : wB.cell? ⟨w.heap.size,0,none⟩ = some (.slice (some ⟨a1,0,none⟩) S.cells.length c1) := (bb.cell 0).trans rfl
 have b1 : wB.cell? ⟨w.heap.size,1,none⟩ = some (.int .i64 S.gate.number) := (bb.cell 1).trans rfl
 have b2 : wB.cell? ⟨w.heap.size,2,none⟩ = some (.int .i64 S.gate.owner) := (bb.cell 2).trans rfl
 have b3 : wB.cell? ⟨w.heap.size,3,none⟩ = some (.slice (some ⟨a2,0,none⟩) S.H.length c2) := (bb.cell 3).trans rfl
 have HK := Lib.hid kB
 have HR := Lib.hid (And.intro hrow hCB)
 have hSl : (slL S.H S.W).length ≤ 4096 := by omega
 have QS := Lib.hid (fun w' (hk : Keeps [] wB w') => sames_kept a2 y.d c2 S.H.length S.H.length S.H.length (slL S.H S.W) hlen.symm hlen.symm hSl (hSr.keeps hk (by simp)) (htab.keeps hk (by simp)) hk)
 have HC := Lib.hid (show ∀ w',Keeps [] wB w' → w'.cell? ⟨w.heap.size,0,none⟩ = some (.slice (some ⟨a1,0,none⟩) S.cells.length c1) ∧ w'.cell? ⟨w.heap.size,3,none⟩ = some (.slice (some ⟨a2,0,none⟩) S.H.length c2) ∧ w'.cell? ⟨y.p,7,none⟩ = some (PT y.r) ∧ w'.cell? ⟨y.r,2,none⟩ = some (.slice (some ⟨y.b,0,none⟩) S.cells.length S.cells.length) ∧ w'.cell? ⟨y.p,9,none⟩ = some (PT y.t) ∧ w'.cell? ⟨y.t,1,none⟩ = some (.slice (some ⟨y.d,0,none⟩) S.H.length S.H.length) from fun w' hk => ⟨keeps_cell0 hk b0,keeps_cell0 hk b3,keeps_cell0 hk p7,keeps_cell0 hk r2,keeps_cell0 hk p9,keeps_cell0 hk t1⟩)
 clear h hf hC hS hs kB bb hsB hCB hSB hd hrow htab hSr hSl hlen hm q0 q1 q2 p6
 have hn0 := hn.1
 have hn1 : S.cells.length ≤ 256 := hn.2
 clear hn
 go_enter Tryz.func56,Tryz.ntmps56
 go_wp2_with fail
 try rw [hwB]
 clear hwB
 go_quiet (fail)
 go_wp2_with fail
 go_loopw [5] (fun i wr => ∃ k : Nat,k ≤ S.cells.length ∧ i = .int .i64 k ∧ Keeps [] wB wr) (fun i _ => S.cells.length - (intOf i).toNat)
 case atStart => exact ⟨0,Nat.zero_le _,rfl,(Keeps.refl [] _).drewN _⟩
 case round =>
  obtain ⟨k,hk,rfl,hkr⟩ := hrel
  have HKR := Lib.hid hkr
  obtain ⟨c0,_,c7,cr,_⟩ := HC.out wr hkr
  clear b0 b1 b2 b3 p7 p8 p9 r2 g1 g2 t1
  by_cases hlt : k < S.cells.length
  ·
   obtain ⟨x,hx⟩ : ∃ x,S.cells[k]? = some x := ⟨_,List.getElem?_eq_getElem hlt⟩
   have x1 : wr.cell? ⟨a1,k,none⟩ = some (.int .i64 x) := keeps_cell0 hkr (HR.out.2.at_ hx)
   have x2 : wr.cell? ⟨y.b,k,none⟩ = some (.int .i64 x) := keeps_cell0 hkr (HR.out.1.cell hx)
   have k0 : (0 : Int) ≤ (k : Int) := by omega
   have k1 : (k : Int) < (S.cells.length : Int) := by omega
   clear hx hkr
   go_wp2_with fail
   go_quiet (fail)
   go_wp2_with fail
   go_roundw
   case rel => exact ⟨k + 1,by omega,by go_num,HKR.out.drewN _⟩
   case measure => simp [intOf]; omega
  · have hge : ¬ ((k : Int) < (S.cells.length : Int)) := by omega
    go_wp2_with fail
    go_region_held3 (fun w' => w'.cell? ⟨w.heap.size,0,none⟩ = some (.slice (some ⟨a1,0,none⟩) S.cells.length c1) ∧ w'.cell? ⟨w.heap.size,3,none⟩ = some (.slice (some ⟨a2,0,none⟩) S.H.length c2) ∧ w'.cell? ⟨y.p,7,none⟩ = some (PT y.r) ∧ w'.cell? ⟨y.r,2,none⟩ = some (.slice (some ⟨y.b,0,none⟩) S.cells.length S.cells.length) ∧ w'.cell? ⟨y.p,9,none⟩ = some (PT y.t) ∧ w'.cell? ⟨y.t,1,none⟩ = some (.slice (some ⟨y.d,0,none⟩) S.H.length S.H.length)) (first | with_reducible exact HC.out _ Sq.kp | go_keep) ((go_at_call 120; (with_reducible refine (QS.out _ Sq.kp).mono ?_); rintro e wf ⟨rfl,hkf⟩))
    all_goals
     go_wp2_with fail
     go_ret
     exact ⟨rfl,HK.out.trans hkf (by simp)⟩
end
open Go.RowKit
theorem rp_in (w : World) (n lo hi : Int) : Calls Tryz.prog 115 #[.int .i64 n,.int .i64 lo,.int .i64 hi] w fun e w' => e = .returned (.bool (decide (lo ≤ n) && decide (n ≤ hi))) ∧ w = w' := by
 by_cases h1 : lo ≤ n
 ·
  by_cases h2 : n ≤ hi
  · rw [decide_eq_true h1,decide_eq_true h2]
    go_enter Tryz.func115,Tryz.ntmps115
    go_wp2
    go_ret
    exact ⟨rfl,rfl⟩
  · rw [decide_eq_true h1,decide_eq_false h2]
    go_enter Tryz.func115,Tryz.ntmps115
    go_wp2
    go_ret
    exact ⟨rfl,rfl⟩
 · rw [decide_eq_false h1]
   go_enter Tryz.func115,Tryz.ntmps115
   go_wp2
   go_ret
   exact ⟨rfl,rfl⟩
theorem rp_check (w : World) (c : Cf) : Calls Tryz.prog 44 #[.agg #[.int .i64 c.cells,.int .i64 c.slots,.int .i64 c.bits,.int .i64 c.tag,.int .i64 c.bias,.int .i64 c.defer]] w fun e w' => e = .returned (.int .i64 (if c.ok then 0 else 1)) ∧ Keeps [] w w' := by
 have hk : Keeps [] w (w.alloc (.cells c.vals 23)) := by simp
 have hb : Blk (w.alloc (.cells c.vals 23)) w.heap.size 23 c.vals := Blk.new _ _ _
 obtain ⟨d0,d1,d2,d3,d4,d5⟩ := cf_cells hb
 have HK := Lib.hid hk
 clear hk hb
 unfold Cf.vals at d0 d1 d2 d3 d4 d5
 have hc : c.ok ↔ ((decide (1 ≤ c.cells) && decide (c.cells ≤ 256)) = true ∧ (decide (1 ≤ c.slots) && decide (c.slots ≤ 8)) = true ∧ (decide (1 ≤ c.bits) && decide (c.bits ≤ 128)) = true ∧ (decide (1 ≤ c.tag) && decide (c.tag ≤ 3)) = true ∧ (decide (0 ≤ c.bias) && decide (c.bias ≤ 8)) = true ∧ (decide (0 ≤ c.defer) && decide (c.defer ≤ 64)) = true) := by simp [Cf.ok]
 obtain ⟨rr,hrr⟩ : ∃ rr : Int,(if c.ok then 0 else 1) = rr := ⟨_,rfl⟩
 rw [hrr]
 have HC := Lib.hid (And.intro hc hrr)
 clear hc hrr
 go_enter Tryz.func44,Tryz.ntmps44
 go_wp2_with fail
 refine (rp_in _ _ _ _).mono ?_
 rintro e wq ⟨rfl,rfl⟩
 generalize (decide (1 ≤ c.cells) && decide (c.cells ≤ 256)) = b0 at *
 cases b0
 · go_wp2_with fail
   go_ret
   exact ⟨by rw [← HC.out.2,if_neg (fun h => by have := HC.out.1.1 h; simp at this)]; rfl,HK.out⟩
 go_wp2_with fail
 refine (rp_in _ _ _ _).mono ?_
 rintro e wq ⟨rfl,rfl⟩
 generalize (decide (1 ≤ c.slots) && decide (c.slots ≤ 8)) = b1 at *
 cases b1
 · go_wp2_with fail
   go_ret
   exact ⟨by rw [← HC.out.2,if_neg (fun h => by have := HC.out.1.1 h; simp at this)]; rfl,HK.out⟩
 go_wp2_with fail
 refine (rp_in _ _ _ _).mono ?_
 rintro e wq ⟨rfl,rfl⟩
 generalize (decide (1 ≤ c.bits) && decide (c.bits ≤ 128)) = b2 at *
 cases b2
 · go_wp2_with fail
   go_ret
   exact ⟨by rw [← HC.out.2,if_neg (fun h => by have := HC.out.1.1 h; simp at this)]; rfl,HK.out⟩
 go_wp2_with fail
 refine (rp_in _ _ _ _).mono ?_
 rintro e wq ⟨rfl,rfl⟩
 generalize (decide (1 ≤ c.tag) && decide (c.tag ≤ 3)) = b3 at *
 cases b3
 · go_wp2_with fail
   go_ret
   exact ⟨by rw [← HC.out.2,if_neg (fun h => by have := HC.out.1.1 h; simp at this)]; rfl,HK.out⟩
 go_wp2_with fail
 refine (rp_in _ _ _ _).mono ?_
 rintro e wq ⟨rfl,rfl⟩
 generalize (decide (0 ≤ c.bias) && decide (c.bias ≤ 8)) = b4 at *
 cases b4
 · go_wp2_with fail
   go_ret
   exact ⟨by rw [← HC.out.2,if_neg (fun h => by have := HC.out.1.1 h; simp at this)]; rfl,HK.out⟩
 go_wp2_with fail
 refine (rp_in _ _ _ _).mono ?_
 rintro e wq ⟨rfl,rfl⟩
 generalize (decide (0 ≤ c.defer) && decide (c.defer ≤ 64)) = b5 at *
 cases b5
 · go_wp2_with fail
   go_ret
   exact ⟨by rw [← HC.out.2,if_neg (fun h => by have := HC.out.1.1 h; simp at this)]; rfl,HK.out⟩
 go_wp2_with fail
 go_ret
 exact ⟨by rw [← HC.out.2,if_pos (HC.out.1.2 (by simp))]; rfl,HK.out⟩
open Go.RowKit
theorem rp_new_bad (w : World) (c : Cf) (h : ¬ c.ok) : Calls Tryz.prog 7 #[.agg #[.int .i64 c.cells,.int .i64 c.slots,.int .i64 c.bits,.int .i64 c.tag,.int .i64 c.bias,.int .i64 c.defer]] w fun e w' => e = .returned (.tuple #[.pointer none,.int .i64 1]) ∧ Keeps [] w w' := by
 have hk : Keeps [] w (w.alloc (.cells c.vals 23)) := by simp
 have hb : Blk (w.alloc (.cells c.vals 23)) w.heap.size 23 c.vals := Blk.new _ _ _
 obtain ⟨d0,d1,d2,d3,d4,d5⟩ := cf_cells hb
 have HK := Lib.hid hk
 clear hk hb
 unfold Cf.vals at d0 d1 d2 d3 d4 d5
 have HQ : Hid (∀ w : World,Calls Tryz.prog 44 #[.agg #[.int .i64 c.cells,.int .i64 c.slots,.int .i64 c.bits,.int .i64 c.tag,.int .i64 c.bias,.int .i64 c.defer]] w fun e w' => e = .returned (.int .i64 1) ∧ Keeps [] w w') := fun w => by
  have := rp_check w c
  rw [if_neg h] at this
  exact this
 go_enter Tryz.func7,Tryz.ntmps7
 go_wp2_with fail
 refine (HQ.out _).mono ?_
 rintro e w1 ⟨rfl,hk1⟩
 have HK1 := Lib.hid (HK.out.trans hk1 (by simp))
 clear hk1 HQ
 go_wp2_with fail
 go_ret2
 exact ⟨rfl,HK1.out⟩
theorem newRef_int (w : World) (m : Nat) (i : Int) (h1 : 1 ≤ i) (h2 : i ≤ 256) :
 Calls Tryz.prog 46 #[PT m,.int .i64 1,.int .i64 i] w fun e w' => ∃ r b,e = .returned (PT r) ∧ RowI.At RefI.R w' r b 1 (some m) (List.replicate i.toNat 0) ∧ Keeps [] w w' ∧ w.heap.size ≤ b := by
 obtain ⟨n,rfl⟩ : ∃ n : Nat,i = n := ⟨i.toNat,by omega⟩
 exact (RefI.new_ok w m 1 n (by omega) (by omega)).mono fun e w' ⟨he,h3,h4,_⟩ => ⟨_,_,he,by simpa using h3,h4,Nat.le_refl _⟩
theorem newRT_int (w : World) (m : Nat) (i : Int) (h1 : 1 ≤ i) (h2 : i ≤ 8) :
 Calls Tryz.prog 45 #[PT m,.int .i64 i] w fun e w' => ∃ t d,e = .returned (.tuple #[PT t,.int .i64 0]) ∧ RT w' t m d (List.replicate i.toNat Hd.zero) (List.replicate (i.toNat * 2) 0) ∧ Keeps [] w w' ∧ w.heap.size ≤ d := by
 obtain ⟨n,rfl⟩ : ∃ n : Nat,i = n := ⟨i.toNat,by omega⟩
 exact (rt_new w m n (by omega) (by omega)).mono fun e w' ⟨he,h3,h4,_⟩ => ⟨_,_,he,by simpa using h3,h4,Nat.le_refl _⟩
set_option maxRecDepth 100000 in
set_option maxHeartbeats 4000000 in
theorem rp_new (w : World) (c : Cf) (h : c.ok) : Calls Tryz.prog 7 #[.agg #[.int .i64 c.cells,.int .i64 c.slots,.int .i64 c.bits,.int .i64 c.tag,.int .i64 c.bias,.int .i64 c.defer]] w fun e w' => ∃ y G,e = .returned (.tuple #[PT y.p,.int .i64 0]) ∧ RP w w' y G (Sp.new c) := by
 have hk : Keeps [] w (w.alloc (.cells c.vals 23)) := by simp
 have hb : Blk (w.alloc (.cells c.vals 23)) w.heap.size 23 c.vals := Blk.new _ _ _
 obtain ⟨d0,d1,d2,d3,d4,d5⟩ := cf_cells hb
 have HK := Lib.hid hk
 have HB := Lib.hid hb
 clear hk hb
 unfold Cf.vals at d0 d1 d2 d3 d4 d5
 have HQ : Hid (∀ w : World,Calls Tryz.prog 44 #[.agg #[.int .i64 c.cells,.int .i64 c.slots,.int .i64 c.bits,.int .i64 c.tag,.int .i64 c.bias,.int .i64 c.defer]] w fun e w' => e = .returned (.int .i64 0) ∧ Keeps [] w w') := fun w => by
  have := rp_check w c
  rw [if_pos h] at this
  exact this
 have HC := Lib.hid h
 obtain ⟨⟨h1,h2⟩,⟨h3,h4⟩,_⟩ := h
 go_enter Tryz.func7,Tryz.ntmps7
 go_wp2_with fail
 refine (HQ.out _).mono ?_
 rintro e w1 ⟨rfl,hk1⟩
 have HK1 := Lib.hid (HK.out.trans hk1 (by simp))
 have HB1 := Lib.hid (HB.out.keeps hk1 (by simp))
 clear hk1 HQ d0 d1 d2 d3 d4 d5 HK HB
 obtain ⟨w2,hw2⟩ : ∃ w2,w1.alloc (.cells #[.int .i64 0,.int .i64 0,.int .i64 0,.int .i64 0,.slice none 0 0] XT) = w2 := ⟨_,rfl⟩
 have X2 : Hid (MetAt XT w2 (some w1.heap.size) w1.heap.size MS.zero) := hw2 ▸ ⟨_,Blk.new _ _ _,World.ownsRow_nil _ _ _ _,.inl ⟨rfl,rfl⟩⟩
 have HK2 : Hid (Keeps [] w w2) := hw2 ▸ HK1.out.alloc _
 have HB2 : Hid (Blk w2 w.heap.size 23 c.vals) := hw2 ▸ HB1.out.alloc _
 have HML : Hid (w.heap.size ≤ w1.heap.size) := HK1.out.size
 obtain ⟨m,hm⟩ : ∃ m,w1.heap.size = m := ⟨_,rfl⟩
 obtain ⟨d0,d1,d2,d3,d4,d5⟩ := cf_cells HB2.out
 go_wp2_with fail
 try rw [hw2]
 rw [hm] at X2 HML
 try rw [hm]
 clear hw2 HK1 HB1 hm
 refine (newRT_int w2 m c.slots h3 h4).mono ?_
 rintro e w4 ⟨t,d,rfl,ht,hk4,htd⟩
 have HT := Lib.hid ht
 have HTL : Hid (w.heap.size ≤ d) := by have := HK2.out.size; unfold Hid; omega
 have HM4 := Lib.hid (X2.out.keeps hk4 (by simp))
 have HK4 := Lib.hid (HK2.out.trans hk4 (by simp))
 have HB4 := Lib.hid (HB2.out.keeps hk4 (by simp))
 clear hk4 ht htd X2 HK2 HB2 d0 d1 d2 d3 d4 d5
 have hkB : Keeps [] w4 w4 := Keeps.refl _ _
 have HCL := Lib.hid (show ∀ w',Keeps [] w4 w' → w'.cell? ⟨w.heap.size,0,none⟩ = some (.int .i64 c.cells) ∧ w'.cell? ⟨w.heap.size,1,none⟩ = some (.int .i64 c.slots) ∧ w'.cell? ⟨w.heap.size,2,none⟩ = some (.int .i64 c.bits) ∧ w'.cell? ⟨w.heap.size,3,none⟩ = some (.int .i64 c.tag) ∧ w'.cell? ⟨w.heap.size,4,none⟩ = some (.int .i64 c.bias) ∧ w'.cell? ⟨w.heap.size,5,none⟩ = some (.int .i64 c.defer) from fun w' hk => cf_cells (HB4.out.keeps hk (by simp)))
 have QN : Hid (∀ w',Keeps [] w4 w' → Calls Tryz.prog 46 #[PT m,.int .i64 1,.int .i64 c.cells] w' fun e w'' => (∃ r b,e = .returned (PT r) ∧ RowI.At RefI.R w'' r b 1 (some m) (List.replicate c.cells.toNat 0) ∧ w4.heap.size ≤ b) ∧ Keeps [] w' w'' ∧ Keeps [] w4 w'') := fun w' hk => (newRef_int w' m c.cells h1 h2).mono fun e w'' ⟨r,b,he,g1,g2,g3⟩ => ⟨⟨r,b,he,g1,Nat.le_trans hk.size g3⟩,g2,hk.trans g2 (by simp)⟩
 go_wp2_with fail
 go_region_held3 (fun w' => w'.cell? ⟨w.heap.size,0,none⟩ = some (.int .i64 c.cells) ∧ w'.cell? ⟨w.heap.size,1,none⟩ = some (.int .i64 c.slots) ∧ w'.cell? ⟨w.heap.size,2,none⟩ = some (.int .i64 c.bits) ∧ w'.cell? ⟨w.heap.size,3,none⟩ = some (.int .i64 c.tag) ∧ w'.cell? ⟨w.heap.size,4,none⟩ = some (.int .i64 c.bias) ∧ w'.cell? ⟨w.heap.size,5,none⟩ = some (.int .i64 c.defer)) (first | with_reducible exact HCL.out _ (by first | with_reducible assumption | with_reducible exact Keeps.drew (by with_reducible assumption) | with_reducible exact Keeps.alloc (by with_reducible assumption) _ | with_reducible exact Keeps.drew (Keeps.alloc (by with_reducible assumption) _) | with_reducible exact Keeps.alloc (Keeps.drew (by with_reducible assumption)) _) | with_reducible exact HCL.out _ (Keeps.alloc (by first | with_reducible assumption | with_reducible exact Keeps.drew (by with_reducible assumption) | with_reducible exact Keeps.alloc (by with_reducible assumption) _ | with_reducible exact Keeps.drew (Keeps.alloc (by with_reducible assumption) _) | with_reducible exact Keeps.alloc (Keeps.drew (by with_reducible assumption)) _) _) | go_keep) ((go_at_call 46; (with_reducible refine (QN.out _ (by first | with_reducible assumption | with_reducible exact Keeps.drew (by with_reducible assumption) | with_reducible exact Keeps.alloc (by with_reducible assumption) _ | with_reducible exact Keeps.drew (Keeps.alloc (by with_reducible assumption) _) | with_reducible exact Keeps.alloc (Keeps.drew (by with_reducible assumption)) _)).mono ?_); rintro e w5 ⟨⟨r,b,rfl,hr,hlb⟩,hk5,hkc⟩; have HR5 := Lib.hid hr; clear hr))
 ·
  go_wp2_with fail
  go_ret2
  have hz4 := HK4.out.size
  have hz5 := hkc.size
  have hm0 := HML.out
  have ht0 := HTL.out
  refine ⟨⟨w5.heap.size + 1,m,r,b,w5.heap.size,t,d⟩,_,rfl,⟨⟨m,.slice none 0 0,⟨?_,HM4.out.keeps ((hkc.alloc _).alloc _) (by simp),HR5.out.keeps (((Keeps.refl [] w5).alloc _).alloc _) (by simp) (by simp),(Blk.new w5 131 #[PT m,.int .i64 0,.int .i64 0]).alloc _,HT.out.keeps ((hkc.alloc _).alloc _) (by simp) (by simp),World.ownsRow_nil _ _ _ _⟩,rfl⟩,?_,HK4.out.trans ((hkc.alloc _).alloc _) (by simp)⟩⟩
  · have hb := Blk.new (w5.alloc (.cells #[PT m,.int .i64 0,.int .i64 0] 131)) 79 #[.int .i64 c.cells,.int .i64 c.slots,.int .i64 c.bits,.int .i64 c.tag,.int .i64 c.bias,.int .i64 c.defer,PT m,PT r,PT w5.heap.size,PT t,.slice none 0 0]
    rw [show (w5.alloc (.cells #[PT m,.int .i64 0,.int .i64 0] 131)).heap.size = w5.heap.size + 1 by simp] at hb
    exact hb
  · intro x hx
    simp only [footY,Value.ownBlock,Option.toList,List.mem_cons,List.not_mem_nil,or_false] at hx
    omega
 ·
  go_wp2_with fail
  go_ret2
  have hz4 := HK4.out.size
  have hz5 := hkc.size
  have hm0 := HML.out
  have ht0 := HTL.out
  have hg5 : Blk w5 w4.heap.size 131 #[PT m,.int .i64 0,.int .i64 0] := by
   first
    | exact (Blk.new w4 131 #[PT m,.int .i64 0,.int .i64 0]).keeps hk5 (by simp)
    | exact (Blk.new w4 131 #[PT m,.int .i64 0,.int .i64 0]).drew.keeps hk5 (by simp)
    | exact (Blk.new w4.drew 131 #[PT m,.int .i64 0,.int .i64 0]).keeps hk5 (by simp)
  refine ⟨⟨w5.heap.size,m,r,b,w4.heap.size,t,d⟩,_,rfl,⟨⟨m,.slice none 0 0,⟨Blk.new w5 79 #[.int .i64 c.cells,.int .i64 c.slots,.int .i64 c.bits,.int .i64 c.tag,.int .i64 c.bias,.int .i64 c.defer,PT m,PT r,PT w4.heap.size,PT t,.slice none 0 0],HM4.out.keeps (hkc.alloc _) (by simp),HR5.out.keeps ((Keeps.refl [] w5).alloc _) (by simp) (by simp),hg5.alloc _,HT.out.keeps (hkc.alloc _) (by simp) (by simp),World.ownsRow_nil _ _ _ _⟩,rfl⟩,?_,HK4.out.trans (hkc.alloc _) (by simp)⟩⟩
  intro x hx
  simp only [footY,Value.ownBlock,Option.toList,List.mem_cons,List.not_mem_nil,or_false] at hx
  omega
end Go.Proofs.YtmlnedilbneekaaGreat