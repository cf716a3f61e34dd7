/- Package slots: New; the closures of Claim, Ready, Doom, Free. -/
import Derived.Test.YtmlnedilbneekaaGreatRowH
import Derived.Test.YtmlnedilbneekaaGreatRowU
import Derived.Test.YtmlnedilbneekaaGreatMeter
import Derived.Laws.OwnMore
import Derived.Test.YtmlnedilbneekaaGreatMake
namespace Go.Proofs.YtmlnedilbneekaaGreat
open Go.RowKit
set_option linter.unusedVariables false
set_option linter.unusedSimpArgs false
structure Tb where
 q : Nat
 r : Nat
 b : Nat
 s : Nat
 c : Nat
structure TabAt (w : World) (t : Tb) (mp : Option Nat) (H : List Hd) (W : List Int) : Prop where
 blk : Blk w t.q 183 #[.pointer (some ⟨t.r,0,none⟩),.pointer (some ⟨t.s,0,none⟩)]
 heads : RowH.At RowH.R w t.r t.b 3 mp H
 words : RowU.At RowU.R w t.s t.c 4 mp W
 len : W.length = 2 * H.length
 n1 : 1 ≤ H.length
 n8 : H.length ≤ 8
section
variable {w w' : World} {S : List Nat} {t : Tb} {mp : Option Nat} {H : List Hd} {W : List Int}
theorem TabAt.keeps (h : TabAt w t mp H W) (hk : Keeps S w w') (h0 : t.q ∉ S) (h1 : t.r ∉ S) (h2 : t.b ∉ S) (h3 : t.s ∉ S) (h4 : t.c ∉ S) : TabAt w' t mp H W :=
 ⟨h.blk.keeps hk h0,h.heads.keeps hk h1 h2,h.words.keeps hk h3 h4,h.len,h.n1,h.n8⟩
theorem TabAt.calm (h : TabAt w t mp H W) (hk : Keeps [] w w') : TabAt w' t mp H W := h.keeps hk (by simp) (by simp) (by simp) (by simp) (by simp)
theorem TabAt.lt (h : TabAt w t mp H W) : t.q < w.heap.size ∧ t.r < w.heap.size ∧ t.b < w.heap.size ∧ t.s < w.heap.size ∧ t.c < w.heap.size := ⟨h.blk.lt,h.heads.blk.lt,h.heads.row.lt,h.words.blk.lt,h.words.row.lt⟩
structure TApart (t : Tb) : Prop where
 qb : t.q ≠ t.b
 qc : t.q ≠ t.c
 rb : t.r ≠ t.b
 rc : t.r ≠ t.c
 sb : t.s ≠ t.b
 sc : t.s ≠ t.c
 bc : t.b ≠ t.c
theorem TabAt.ways (h : TabAt w t mp H W) : TApart t :=
 ⟨h.blk.ne_ h.heads.row (by decide),h.blk.ne_ h.words.row (by decide),h.heads.blk.ne_ h.heads.row (by decide),h.heads.blk.ne_ h.words.row (by decide),h.words.blk.ne_ h.heads.row (by decide),h.words.blk.ne_ h.words.row (by decide),h.heads.row.ne_ h.words.row (by decide)⟩
theorem TabAt.afoot (h : TabAt w t mp H W) {lb : Nat} {s : MS} {mp' : Option Nat} (hm : MetAt MT w mp' lb s) : t.q ∉ foot mp' lb ∧ t.r ∉ foot mp' lb ∧ t.b ∉ foot mp' lb ∧ t.s ∉ foot mp' lb ∧ t.c ∉ foot mp' lb :=
 ⟨Go.Proofs.YtmlnedilbneekaaGreat.apart hm h.blk (by decide) (by decide),(h.heads.foot RowH.ty hm).1,(h.heads.foot RowH.ty hm).2,(h.words.foot RowU.ty hm).1,(h.words.foot RowU.ty hm).2⟩
end
def TLeft (t : Tb) (mp : Option Nat) (H : List Hd) (W : List Int) (lb : Nat) (s : MS) (w w' : World) : Prop :=
 TabAt w' t mp H W ∧ ∃ lb',MetAt MT w' mp lb' s ∧ Keeps (t.b :: t.c :: foot mp lb) w w' ∧ (lb' = lb ∨ w.heap.size ≤ lb')
section
variable {t : Tb} {mp : Option Nat} {H H' : List Hd} {W W' : List Int} {lb : Nat} {s s' : MS} {w wa w1 w2 : World}
theorem foot_far (hm : MetAt MT w mp lb s) {lb' : Nat} (hl : lb' = lb ∨ wa.heap.size ≤ lb') (hw : w.heap.size ≤ wa.heap.size) {S : List Nat} (hS : ∀ z,z ∈ S → w.heap.size ≤ z ∧ (z < wa.heap.size ∨ w1.heap.size ≤ z)) (h2 : MetAt MT w1 mp lb' s') : ∀ k,k ∈ foot mp lb' → k ∉ S := by
 intro z hz hz2
 have h5 := hS z hz2
 cases mp with
 | none => simp [foot] at hz
 | some m =>
   have h6 := foot_lt hm (k := m) (by simp [foot])
   have h7 := foot_lt hm (k := lb) (by simp [foot])
   have h8 := foot_lt h2 (k := lb') (by simp [foot])
   simp only [foot,List.mem_cons,List.not_mem_nil,or_false] at hz
   omega
theorem TabAt.headed (h : TabAt w t mp H W) (hm : MetAt MT w mp lb s) (hk : Keeps [] w wa) (hl : RowH.Left RowH.R MT t.r t.b 3 mp H' lb s' wa w1) (hn : H'.length = H.length)
 {S : List Nat} (hS : ∀ z,z ∈ S → w.heap.size ≤ z ∧ (z < wa.heap.size ∨ w1.heap.size ≤ z)) (hk2 : Keeps S w1 w2) : TLeft t mp H' W lb s' w w2 := by
 obtain ⟨h1,lb',h2,h3,h4⟩ := hl
 have hz := hk.size
 have hz1 := h3.size
 have hlt := h.lt
 have hf := h.afoot hm
 have hap := h.ways
 have kT : Keeps (t.b :: foot mp lb) w w1 := (hk.mono (T := t.b :: foot mp lb) (by simp)).trans h3 (fun x hx => .inl hx)
 have hq1 := h.blk.keeps kT (by simp [hap.qb,hf.1])
 have hw1 := h.words.keeps kT (by simp [hap.sb,hf.2.2.2.1]) (by simp [hap.bc.symm,hf.2.2.2.2])
 have out : ∀ x,x < w.heap.size → x ∉ S := fun x hx hxS => by have := hS x hxS; omega
 exact ⟨⟨hq1.keeps hk2 (out _ hlt.1),h1.keeps hk2 (out _ hlt.2.1) (out _ hlt.2.2.1),hw1.keeps hk2 (out _ hlt.2.2.2.1) (out _ hlt.2.2.2.2),by rw [hn]; exact h.len,by rw [hn]; exact h.n1,by rw [hn]; exact h.n8⟩,
  lb',h2.keeps hk2 (foot_far hm h4 hz hS h2),(kT.mono (T := t.b :: t.c :: foot mp lb) (fun x hx => .inl (by simp only [List.mem_cons] at hx ⊢; rcases hx with hx | hx <;> simp [hx]))).trans hk2 (fun x hx => .inr (hS x hx).1),by omega⟩
theorem TabAt.worded (h : TabAt w t mp H W) (hm : MetAt MT w mp lb s) (hk : Keeps [] w wa) (hl : RowU.Left RowU.R MT t.s t.c 4 mp W' lb s' wa w1) (hn : W'.length = W.length)
 {S : List Nat} (hS : ∀ z,z ∈ S → w.heap.size ≤ z ∧ (z < wa.heap.size ∨ w1.heap.size ≤ z)) (hk2 : Keeps S w1 w2) : TLeft t mp H W' lb s' w w2 := by
 obtain ⟨h1,lb',h2,h3,h4⟩ := hl
 have hz := hk.size
 have hz1 := h3.size
 have hlt := h.lt
 have hf := h.afoot hm
 have hap := h.ways
 have kT : Keeps (t.c :: foot mp lb) w w1 := (hk.mono (T := t.c :: foot mp lb) (by simp)).trans h3 (fun x hx => .inl hx)
 have hq1 := h.blk.keeps kT (by simp [hap.qc,hf.1])
 have hw1 := h.heads.keeps kT (by simp [hap.rc,hf.2.1]) (by simp [hap.bc,hf.2.2.1])
 have out : ∀ x,x < w.heap.size → x ∉ S := fun x hx hxS => by have := hS x hxS; omega
 exact ⟨⟨hq1.keeps hk2 (out _ hlt.1),hw1.keeps hk2 (out _ hlt.2.1) (out _ hlt.2.2.1),h1.keeps hk2 (out _ hlt.2.2.2.1) (out _ hlt.2.2.2.2),by rw [hn]; exact h.len,h.n1,h.n8⟩,
  lb',h2.keeps hk2 (foot_far hm h4 hz hS h2),(kT.mono (T := t.b :: t.c :: foot mp lb) (fun x hx => .inl (by simp only [List.mem_cons] at hx ⊢; rcases hx with hx | hx <;> simp [hx]))).trans hk2 (fun x hx => .inr (hS x hx).1),by omega⟩
end
theorem sThread_yes (w : World) (n : Int) (h1 : 1 ≤ n) (h2 : n ≤ 8) : Calls Tryz.prog 95 #[.int .i64 n] w fun e w' => e = .returned (.bool true) ∧ w = w' := by
 go_enter Tryz.func95,Tryz.ntmps95
 go_wp2
 go_ret
 exact ⟨rfl,rfl⟩
theorem sThread_no (w : World) (n : Int) (h : n < 1 ∨ 8 < n) : Calls Tryz.prog 95 #[.int .i64 n] w fun e w' => e = .returned (.bool false) ∧ w = w' := by
 rcases h with h | h
 · have h1 : ¬ (1 ≤ n) := by omega
   go_enter Tryz.func95,Tryz.ntmps95
   go_wp2
   go_ret
   exact ⟨rfl,rfl⟩
 · have h1 : 1 ≤ n := by omega
   have h2 : ¬ (n ≤ 8) := by omega
   go_enter Tryz.func95,Tryz.ntmps95
   go_wp2
   go_ret
   exact ⟨rfl,rfl⟩
def Hd.never : Hd := ⟨-1,0,0,0,false,0⟩
theorem slots_never (w : World) : Calls Tryz.prog 139 #[] w fun e w' => e = .returned (.agg #[.int .i64 (-1),.int .i64 0,.int .i64 0,.int .i64 0,.bool false,.int .i64 0]) ∧ Keeps [] w w' := by
 go_enter Tryz.func139,Tryz.ntmps139
 go_wp2
 refine bodyPost_ret (v := .agg #[.int .i64 (-1),.int .i64 0,.int .i64 0,.int .i64 0,.bool false,.int .i64 0]) (by simp [results,Tryz.results139,go_sem]) rfl ⟨rfl,?_⟩
 exact Sq.r.alloc _
theorem slots_len (w : World) (t : Tb) (mp : Option Nat) (H : List Hd) (W : List Int) (h : TabAt w t mp H W) : Calls Tryz.prog 106 #[.pointer (some ⟨t.q,0,none⟩)] w fun e w' => e = .returned (.int .i64 H.length) ∧ w = w' := by
 have c0 : w.cell? ⟨t.q,0,none⟩ = some (.pointer (some ⟨t.r,0,none⟩)) := (h.blk.cell 0).trans rfl
 have QL := Lib.hid (RowH.len_any w t.r t.b 3 mp H h.heads)
 clear h
 go_enter Tryz.func106,Tryz.ntmps106
 go_wp2_with fail
 refine QL.out.mono ?_
 rintro e wa ⟨rfl,rfl⟩
 go_wp2_with fail
 go_ret
 exact ⟨rfl,rfl⟩
theorem there_yes (w : World) (t : Tb) (mp : Option Nat) (H : List Hd) (W : List Int) (h : TabAt w t mp H W) (k : Int) (h1 : 0 ≤ k) (h2 : k < H.length) : Calls Tryz.prog 96 #[.pointer (some ⟨t.q,0,none⟩),.int .i64 k] w fun e w' => e = .returned (.bool true) ∧ w = w' := by
 have QL := Lib.hid (slots_len w t mp H W h)
 clear h
 go_enter Tryz.func96,Tryz.ntmps96
 go_wp2_with fail
 refine QL.out.mono ?_
 rintro e wa ⟨rfl,rfl⟩
 go_wp2_with fail
 go_ret
 exact ⟨rfl,rfl⟩
theorem there_no (w : World) (t : Tb) (mp : Option Nat) (H : List Hd) (W : List Int) (h : TabAt w t mp H W) (k : Int) (hk : k < 0 ∨ (H.length : Int) ≤ k) : Calls Tryz.prog 96 #[.pointer (some ⟨t.q,0,none⟩),.int .i64 k] w fun e w' => e = .returned (.bool false) ∧ w = w' := by
 have QL := Lib.hid (slots_len w t mp H W h)
 have h8 := h.n8
 clear h
 by_cases h0 : 0 ≤ k
 ·
  have h1 : ¬ (k < (H.length : Int)) := by omega
  have hd : decide (k < (H.length : Int)) = false := decide_eq_false h1
  clear hk
  go_enter Tryz.func96,Tryz.ntmps96
  go_wp2_with fail
  refine QL.out.mono ?_
  rintro e wa ⟨rfl,rfl⟩
  go_wp2_with fail
  go_ret
  exact ⟨by simp,rfl⟩
 · clear hk QL
   go_enter Tryz.func96,Tryz.ntmps96
   go_wp2_with fail
   go_ret
   exact ⟨rfl,rfl⟩
theorem word_yes (w : World) (t : Tb) (mp : Option Nat) (H : List Hd) (W : List Int) (h : TabAt w t mp H W) (k j : Nat) (h1 : k < H.length) (h2 : j < 2) : Calls Tryz.prog 103 #[.pointer (some ⟨t.q,0,none⟩),.int .i64 k,.int .i64 j] w fun e w' => e = .returned (.int .i64 ((2 * k + j : Nat) : Int)) ∧ w = w' := by
 have QT := Lib.hid (there_yes w t mp H W h k (by omega) (by omega))
 have h8 := h.n8
 have e1 : IntKind.i64.wrap ((k : Int) * 2) = (k : Int) * 2 := by rw [IntKind.wrap_i64]; omega
 have e2 : IntKind.i64.wrap ((k : Int) * 2 + (j : Int)) = ((2 * k + j : Nat) : Int) := by rw [IntKind.wrap_i64]; omega
 have e3 : ¬ ((j : Int) < 0) := by omega
 have e4 : ¬ ((2 : Int) ≤ (j : Int)) := by omega
 clear h
 go_enter Tryz.func103,Tryz.ntmps103
 go_wp2_with fail
 refine QT.out.mono ?_
 rintro e wa ⟨rfl,rfl⟩
 go_wp2_with fail
 go_ret
 exact ⟨by simp,rfl⟩
theorem word_no (w : World) (t : Tb) (mp : Option Nat) (H : List Hd) (W : List Int) (h : TabAt w t mp H W) (k j : Int) (hk : k < 0 ∨ (H.length : Int) ≤ k ∨ j < 0 ∨ 2 ≤ j) : Calls Tryz.prog 103 #[.pointer (some ⟨t.q,0,none⟩),.int .i64 k,.int .i64 j] w fun e w' => e = .returned (.int .i64 (-1)) ∧ w = w' := by
 by_cases h0 : k < 0 ∨ (H.length : Int) ≤ k
 ·
  have QT := Lib.hid (there_no w t mp H W h k h0)
  clear h hk h0
  go_enter Tryz.func103,Tryz.ntmps103
  go_wp2_with fail
  refine QT.out.mono ?_
  rintro e wa ⟨rfl,rfl⟩
  go_wp2_with fail
  go_ret
  exact ⟨rfl,rfl⟩
 ·
  have QT := Lib.hid (there_yes w t mp H W h k (by omega) (by omega))
  clear h
  by_cases h1 : j < 0
  ·
   clear hk h0
   go_enter Tryz.func103,Tryz.ntmps103
   go_wp2_with fail
   refine QT.out.mono ?_
   rintro e wa ⟨rfl,rfl⟩
   go_wp2_with fail
   go_ret
   exact ⟨rfl,rfl⟩
  ·
   have h2 : 2 ≤ j := by omega
   clear hk h0
   go_enter Tryz.func103,Tryz.ntmps103
   go_wp2_with fail
   refine QT.out.mono ?_
   rintro e wa ⟨rfl,rfl⟩
   go_wp2_with fail
   go_ret
   exact ⟨rfl,rfl⟩
def Hd.val (h : Hd) : Value := .agg #[.int .i64 h.gen,.int .i64 h.state,.int .i64 h.stamp,.int .i64 h.thread,.bool h.doomed,.int .i64 h.who]
theorem slots_look (w : World) (t : Tb) (mp : Option Nat) (H : List Hd) (W : List Int) (h : TabAt w t mp H W) (lb : Nat) (s : MS) (hm : MetAt MT w mp lb s) (hl : Room mp s) (k : Nat) (x : Hd) (hx : H[k]? = some x) :
 Calls Tryz.prog 36 #[.pointer (some ⟨t.q,0,none⟩),.int .i64 k] w fun e w' => e = .returned (.tuple #[.agg #[.int .i64 x.gen,.int .i64 x.state,.int .i64 x.stamp,.int .i64 x.thread,.bool x.doomed,.int .i64 x.who],.int .i64 0]) ∧ TLeft t mp H W lb (s.note 3 k 1 true) w w' := by
 have k0 : Keeps [] w (w.alloc (.cells #[.int .i64 0,.int .i64 0,.int .i64 0,.int .i64 0,.bool false,.int .i64 0] 115)) := Sq.r.alloc _
 have bZ := Lib.hid (Blk.new w 115 #[.int .i64 0,.int .i64 0,.int .i64 0,.int .i64 0,.bool false,.int .i64 0])
 have c0 : (w.alloc (.cells #[.int .i64 0,.int .i64 0,.int .i64 0,.int .i64 0,.bool false,.int .i64 0] 115)).cell? ⟨t.q,0,none⟩ = some (.pointer (some ⟨t.r,0,none⟩)) := ((h.blk.keeps k0 (by simp)).cell 0).trans rfl
 have QL := Lib.hid (RowH.load_at _ t.r t.b 3 mp H (h.calm k0).heads lb s (hm.keeps k0 (by simp)) hl k x hx)
 have HT := Lib.hid h
 have HM := Lib.hid hm
 have K0 := Lib.hid k0
 clear h hm hl hx k0
 go_enter Tryz.func36,Tryz.ntmps36
 go_wp2_with fail
 refine QL.out.mono ?_
 rintro e w1 ⟨rfl,hl⟩
 have bz : Blk w1 w.heap.size 115 #[.int .i64 0,.int .i64 0,.int .i64 0,.int .i64 0,.bool false,.int .i64 0] := by
  obtain ⟨_,_,_,hk,_⟩ := hl
  refine bZ.out.keeps hk (fun hx => ?_)
  rw [List.mem_cons] at hx
  rcases hx with hx | hx
  · have := HT.out.heads.row.lt; omega
  · have := foot_lt HM.out hx; omega
 have z0 : w1.cell? ⟨w.heap.size,0,none⟩ = some (.int .i64 0) := (bz.cell 0).trans rfl
 have z1 : w1.cell? ⟨w.heap.size,1,none⟩ = some (.int .i64 0) := (bz.cell 1).trans rfl
 have z2 : w1.cell? ⟨w.heap.size,2,none⟩ = some (.int .i64 0) := (bz.cell 2).trans rfl
 have z3 : w1.cell? ⟨w.heap.size,3,none⟩ = some (.int .i64 0) := (bz.cell 3).trans rfl
 have z4 : w1.cell? ⟨w.heap.size,4,none⟩ = some (.bool false) := (bz.cell 4).trans rfl
 have z5 : w1.cell? ⟨w.heap.size,5,none⟩ = some (.int .i64 0) := (bz.cell 5).trans rfl
 have y0 := bz.frozen 0
 have y1 := bz.frozen 1
 have y2 := bz.frozen 2
 have y3 := bz.frozen 3
 have y4 := bz.frozen 4
 have y5 := bz.frozen 5
 have HL := Lib.hid hl
 clear bz hl
 go_wp2_with fail
 refine bodyPost_ret (v := .tuple #[.agg #[.int .i64 x.gen,.int .i64 x.state,.int .i64 x.stamp,.int .i64 x.thread,.bool x.doomed,.int .i64 x.who],.int .i64 0]) (by simp [results,Tryz.results36,go_sem,z0,z1,z2,z3,z4,z5]) rfl ⟨rfl,?_⟩
 exact HT.out.headed HM.out K0.out HL.out rfl (S := [w.heap.size]) (fun z hz => by simp at hz; subst hz; exact ⟨Nat.le_refl _,.inl (by simp)⟩) (((((Sq.r.setCell (.inl (by simp)) _).setCell (.inl (by simp)) _).setCell (.inl (by simp)) _).setCell (.inl (by simp)) _).setCell (.inl (by simp)) _ |>.setCell (.inl (by simp)) _)
theorem slots_look_no (w : World) (t : Tb) (mp : Option Nat) (H : List Hd) (W : List Int) (h : TabAt w t mp H W) (k : Int) (hk : k < 0 ∨ (H.length : Int) ≤ k) :
 Calls Tryz.prog 36 #[.pointer (some ⟨t.q,0,none⟩),.int .i64 k] w fun e w' => e = .returned (.tuple #[.agg #[.int .i64 Hd.zero.gen,.int .i64 Hd.zero.state,.int .i64 Hd.zero.stamp,.int .i64 Hd.zero.thread,.bool Hd.zero.doomed,.int .i64 Hd.zero.who],.int .i64 2]) ∧ Keeps [] w w' := by
 have k0 : Keeps [] w (w.alloc (.cells #[.int .i64 0,.int .i64 0,.int .i64 0,.int .i64 0,.bool false,.int .i64 0] 115)) := Sq.r.alloc _
 have bZ := Lib.hid (Blk.new w 115 #[.int .i64 0,.int .i64 0,.int .i64 0,.int .i64 0,.bool false,.int .i64 0])
 have c0 : (w.alloc (.cells #[.int .i64 0,.int .i64 0,.int .i64 0,.int .i64 0,.bool false,.int .i64 0] 115)).cell? ⟨t.q,0,none⟩ = some (.pointer (some ⟨t.r,0,none⟩)) := ((h.blk.keeps k0 (by simp)).cell 0).trans rfl
 have QL := Lib.hid (RowH.load_no _ t.r t.b 3 mp H (h.calm k0).heads k hk)
 have K0 := Lib.hid k0
 clear h hk k0
 go_enter Tryz.func36,Tryz.ntmps36
 go_wp2_with fail
 refine QL.out.mono ?_
 rintro e w1 ⟨rfl,hk⟩
 have bz := bZ.out.keeps hk (by simp)
 have z0 : w1.cell? ⟨w.heap.size,0,none⟩ = some (.int .i64 0) := (bz.cell 0).trans rfl
 have z1 : w1.cell? ⟨w.heap.size,1,none⟩ = some (.int .i64 0) := (bz.cell 1).trans rfl
 have z2 : w1.cell? ⟨w.heap.size,2,none⟩ = some (.int .i64 0) := (bz.cell 2).trans rfl
 have z3 : w1.cell? ⟨w.heap.size,3,none⟩ = some (.int .i64 0) := (bz.cell 3).trans rfl
 have z4 : w1.cell? ⟨w.heap.size,4,none⟩ = some (.bool false) := (bz.cell 4).trans rfl
 have z5 : w1.cell? ⟨w.heap.size,5,none⟩ = some (.int .i64 0) := (bz.cell 5).trans rfl
 have y0 := bz.frozen 0
 have y1 := bz.frozen 1
 have y2 := bz.frozen 2
 have y3 := bz.frozen 3
 have y4 := bz.frozen 4
 have y5 := bz.frozen 5
 have K1 := Lib.hid (K0.out.trans hk (by simp))
 clear bz hk
 go_wp2_with fail
 refine bodyPost_ret (v := .tuple #[.agg #[.int .i64 Hd.zero.gen,.int .i64 Hd.zero.state,.int .i64 Hd.zero.stamp,.int .i64 Hd.zero.thread,.bool Hd.zero.doomed,.int .i64 Hd.zero.who],.int .i64 2]) (by simp [results,Tryz.results36,go_sem,z0,z1,z2,z3,z4,z5]) rfl ⟨rfl,?_⟩
 exact (((((K1.out.setCell (.inr (Nat.le_refl _)) _).setCell (.inr (Nat.le_refl _)) _).setCell (.inr (Nat.le_refl _)) _).setCell (.inr (Nat.le_refl _)) _).setCell (.inr (Nat.le_refl _)) _).setCell (.inr (Nat.le_refl _)) _
theorem slots_word (w : World) (t : Tb) (mp : Option Nat) (H : List Hd) (W : List Int) (h : TabAt w t mp H W) (lb : Nat) (s : MS) (hm : MetAt MT w mp lb s) (hl : Room mp s) (k j : Nat) (hkj : k < H.length ∧ j < 2) (x : Int) (hx : W[2 * k + j]? = some x) :
 Calls Tryz.prog 108 #[.pointer (some ⟨t.q,0,none⟩),.int .i64 k,.int .i64 j] w fun e w' => e = .returned (.tuple #[.int .u64 x,.int .i64 0]) ∧ TLeft t mp H W lb (s.note 4 (2 * k + j : Nat) 1 true) w w' := by
 have hlen : 2 * k + j < W.length := by have := h.len; have := hkj.1; omega
 have QW := Lib.hid (fun w' (hk : Keeps [] w w') => word_yes w' t mp H W (h.calm hk) k j hkj.1 hkj.2)
 have QR := Lib.hid (fun w' (hk : Keeps [] w w') => RowU.load_at w' t.s t.c 4 mp W (h.calm hk).words lb s (hm.keeps hk (by simp)) hl (2 * k + j) x hx)
 have HC := Lib.hid (show ∀ w',Keeps [] w w' → w'.cell? ⟨t.q,1,none⟩ = some (.pointer (some ⟨t.s,0,none⟩)) from fun w' hk => ((h.calm hk).blk.cell 1).trans rfl)
 have c1 := HC.out w Sq.r
 have HT := Lib.hid h
 have HM := Lib.hid hm
 clear h
 go_enter Tryz.func108,Tryz.ntmps108
 go_wp2_with fail
 go_region_held3 (fun w' => w'.cell? ⟨t.q,1,none⟩ = some (.pointer (some ⟨t.s,0,none⟩))) (first | exact HC.out _ (by first | exact Sq.r.drew | exact Sq.r | exact hk9.out) | exact d9) ((first
  | (go_at_call 103; refine (QW.out _ Sq.r.drew).mono ?_; rintro e w1 ⟨rfl,rfl⟩)
  | (go_at_call 144; refine (QR.out _ Sq.r.drew).mono ?_; rintro e w2 ⟨rfl,hl2⟩; have d9 : w2.cell? ⟨t.q,1,none⟩ = some (.pointer (some ⟨t.s,0,none⟩)) := ((HT.out.worded HM.out Sq.r.drew hl2 rfl (S := []) (by simp) Sq.r).1.blk.cell 1).trans rfl; have HN := Lib.hid (HT.out.worded HM.out Sq.r.drew hl2 rfl (S := []) (by simp) Sq.r); clear hl2)))
 go_wp2_with fail
 go_ret2
 exact ⟨rfl,HN.out⟩
theorem slots_put (w : World) (t : Tb) (mp : Option Nat) (H : List Hd) (W : List Int) (h : TabAt w t mp H W) (lb : Nat) (s : MS) (hm : MetAt MT w mp lb s) (hl : Room mp s) (k j : Nat) (hkj : k < H.length ∧ j < 2) (x : Int) :
 Calls Tryz.prog 28 #[.pointer (some ⟨t.q,0,none⟩),.int .i64 k,.int .i64 j,.int .u64 x] w fun e w' => e = .returned (.int .i64 0) ∧ TLeft t mp H (W.set (2 * k + j) x) lb (s.note 4 (2 * k + j : Nat) 2 true) w w' := by
 have hlen : 2 * k + j < W.length := by have := h.len; have := hkj.1; omega
 have QW := Lib.hid (fun w' (hk : Keeps [] w w') => word_yes w' t mp H W (h.calm hk) k j hkj.1 hkj.2)
 have QR := Lib.hid (fun w' (hk : Keeps [] w w') => RowU.store_at w' t.s t.c 4 mp W (h.calm hk).words lb s (hm.keeps hk (by simp)) hl (2 * k + j) x hlen)
 have HC := Lib.hid (show ∀ w',Keeps [] w w' → w'.cell? ⟨t.q,1,none⟩ = some (.pointer (some ⟨t.s,0,none⟩)) from fun w' hk => ((h.calm hk).blk.cell 1).trans rfl)
 have c1 := HC.out w Sq.r
 have HT := Lib.hid h
 have HM := Lib.hid hm
 clear h
 go_enter Tryz.func28,Tryz.ntmps28
 go_wp2_with fail
 go_region_held3 (fun w' => w'.cell? ⟨t.q,1,none⟩ = some (.pointer (some ⟨t.s,0,none⟩))) (first | exact HC.out _ (by first | exact Sq.r.drew | exact Sq.r | exact hk9.out) | exact d9) ((first
  | (go_at_call 103; refine (QW.out _ Sq.r.drew).mono ?_; rintro e w1 ⟨rfl,rfl⟩)
  | (go_at_call 102; refine (QR.out _ Sq.r.drew).mono ?_; rintro e w2 ⟨rfl,hl2⟩; have d9 : w2.cell? ⟨t.q,1,none⟩ = some (.pointer (some ⟨t.s,0,none⟩)) := ((HT.out.worded HM.out Sq.r.drew hl2 (by simp) (S := []) (by simp) Sq.r).1.blk.cell 1).trans rfl; have HN := Lib.hid (HT.out.worded HM.out Sq.r.drew hl2 (by simp) (S := []) (by simp) Sq.r); clear hl2)))
 go_wp2_with fail
 go_ret
 exact ⟨rfl,HN.out⟩
theorem slots_word_no (w : World) (t : Tb) (mp : Option Nat) (H : List Hd) (W : List Int) (h : TabAt w t mp H W) (k j : Int) (hkj : k < 0 ∨ (H.length : Int) ≤ k ∨ j < 0 ∨ 2 ≤ j) :
 Calls Tryz.prog 108 #[.pointer (some ⟨t.q,0,none⟩),.int .i64 k,.int .i64 j] w fun e w' => e = .returned (.tuple #[.int .u64 0,.int .i64 2]) ∧ Keeps [] w w' := by
 have QW := Lib.hid (fun w' (hk : Keeps [] w w') => word_no w' t mp H W (h.calm hk) k j hkj)
 have QR := Lib.hid (fun w' (hk : Keeps [] w w') => RowU.load_no w' t.s t.c 4 mp W (h.calm hk).words (-1) (.inl (by decide)))
 have HC := Lib.hid (show ∀ w',Keeps [] w w' → w'.cell? ⟨t.q,1,none⟩ = some (.pointer (some ⟨t.s,0,none⟩)) from fun w' hk => ((h.calm hk).blk.cell 1).trans rfl)
 have c1 := HC.out w Sq.r
 have HT := Lib.hid h
 clear h
 go_enter Tryz.func108,Tryz.ntmps108
 go_wp2_with fail
 go_region_held3 (fun w' => w'.cell? ⟨t.q,1,none⟩ = some (.pointer (some ⟨t.s,0,none⟩))) (first | exact HC.out _ (by first | exact Sq.r.drew | exact Sq.r | exact hk9.out) | exact d9) ((first
  | (go_at_call 103; refine (QW.out _ Sq.r.drew).mono ?_; rintro e w1 ⟨rfl,rfl⟩)
  | (go_at_call 144; refine (QR.out _ Sq.r.drew).mono ?_; rintro e w2 ⟨rfl,rfl⟩)))
 go_wp2_with fail
 go_ret2
 exact ⟨rfl,Sq.r.drew⟩
theorem slots_put_no (w : World) (t : Tb) (mp : Option Nat) (H : List Hd) (W : List Int) (h : TabAt w t mp H W) (k j : Int) (hkj : k < 0 ∨ (H.length : Int) ≤ k ∨ j < 0 ∨ 2 ≤ j) (x : Int) :
 Calls Tryz.prog 28 #[.pointer (some ⟨t.q,0,none⟩),.int .i64 k,.int .i64 j,.int .u64 x] w fun e w' => e = .returned (.int .i64 2) ∧ Keeps [] w w' := by
 have QW := Lib.hid (fun w' (hk : Keeps [] w w') => word_no w' t mp H W (h.calm hk) k j hkj)
 have QR := Lib.hid (fun w' (hk : Keeps [] w w') => RowU.store_no w' t.s t.c 4 mp W (h.calm hk).words (-1) x (.inl (by decide)))
 have HC := Lib.hid (show ∀ w',Keeps [] w w' → w'.cell? ⟨t.q,1,none⟩ = some (.pointer (some ⟨t.s,0,none⟩)) from fun w' hk => ((h.calm hk).blk.cell 1).trans rfl)
 have c1 := HC.out w Sq.r
 have HT := Lib.hid h
 clear h
 go_enter Tryz.func28,Tryz.ntmps28
 go_wp2_with fail
 go_region_held3 (fun w' => w'.cell? ⟨t.q,1,none⟩ = some (.pointer (some ⟨t.s,0,none⟩))) (first | exact HC.out _ (by first | exact Sq.r.drew | exact Sq.r | exact hk9.out) | exact d9) ((first
  | (go_at_call 103; refine (QW.out _ Sq.r.drew).mono ?_; rintro e w1 ⟨rfl,rfl⟩)
  | (go_at_call 102; refine (QR.out _ Sq.r.drew).mono ?_; rintro e w2 ⟨rfl,rfl⟩)))
 go_wp2_with fail
 go_ret
 exact ⟨rfl,Sq.r.drew⟩
open Go.RowKit
def Tb.new (n : Nat) : Tb := ⟨n + 4,n + 1,n,n + 3,n + 2⟩
theorem slots_new (w : World) (mp : Option Nat) (n : Nat) (h1 : 1 ≤ n) (h2 : n ≤ 8) : Calls Tryz.prog 42 #[PM mp,.int .i64 n] w fun e w' =>
 e = .returned (.tuple #[.pointer (some ⟨w.heap.size + 4,0,none⟩),.int .i64 0]) ∧ TabAt w' (Tb.new w.heap.size) mp (List.replicate n Hd.zero) (List.replicate (n * 2) 0) ∧ Keeps [] w w' := by
 have hn := Lib.hid (RowH.newRow_ok w mp 3 n h1 (by omega))
 have e1 : ¬ ((n : Int) < 1) := by omega
 have e2 : ¬ ((8 : Int) < (n : Int)) := by omega
 have e3 : Hid ((n : Int) * 2 = ((n * 2 : Nat) : Int)) := by unfold Hid; simp
 go_enter Tryz.func42,Tryz.ntmps42
 go_wp2_with fail
 refine hn.out.mono ?_
 rintro e w1 ⟨rfl,hr,hk,hs⟩
 have HR := Lib.hid hr
 have HK := Lib.hid hk
 have HS := Lib.hid hs
 clear hr hk hs hn
 go_wp2_with fail
 rw [e3.out]
 refine (RowU.newRow_ok w1 mp 4 (n * 2) (by omega) (by omega)).mono ?_
 rintro e w2 ⟨rfl,hr2,hk2,hs2⟩
 have HR2 := Lib.hid hr2
 have HK2 := Lib.hid hk2
 have HS2 := Lib.hid hs2
 clear hr2 hk2 hs2
 go_wp2_with fail
 have E1 : w1.heap.size = w.heap.size + 2 := HS.out
 have E2 : w2.heap.size = w.heap.size + 4 := by rw [HS2.out,E1]
 simp only [E1,E2]
 go_ret2
 have a1 := HR2.out
 rw [E1] at a1
 exact ⟨rfl,⟨new_at _ _ _ E2,(HR.out.keeps HK2.out (by simp) (by simp)).keeps ((Keeps.refl [] w2).alloc _) (by simp) (by simp),a1.keeps ((Keeps.refl [] w2).alloc _) (by simp) (by simp),by simp; omega,by simpa using h1,by simpa using h2⟩,(HK.out.trans HK2.out (by simp)).alloc _⟩
theorem claim1_yes (w : World) (h : Hd) (h0 : h.state = 0) : Calls Tryz.prog 98 #[.agg #[.int .i64 h.gen,.int .i64 h.state,.int .i64 h.stamp,.int .i64 h.thread,.bool h.doomed,.int .i64 h.who]] w fun e w' => e = .returned (.bool true) ∧ Keeps [] w w' := by
 go_enter Tryz.func98,Tryz.ntmps98
 go_wp2
 go_ret
 exact ⟨by simp [*],by simp⟩
theorem claim1_no (w : World) (h : Hd) (h0 : ¬ h.state = 0) : Calls Tryz.prog 98 #[.agg #[.int .i64 h.gen,.int .i64 h.state,.int .i64 h.stamp,.int .i64 h.thread,.bool h.doomed,.int .i64 h.who]] w fun e w' => e = .returned (.bool false) ∧ Keeps [] w w' := by
 go_enter Tryz.func98,Tryz.ntmps98
 go_wp2
 go_ret
 exact ⟨by simp [*],by simp⟩
theorem ready1_yes (w : World) (h : Hd) (B : Nat) (g : Int) (hB : w.cell? ⟨B,0,none⟩ = some (.int .i64 g)) (h0 : h.state = 1) (h1 : h.gen = g) : Calls Tryz.prog 104 #[.agg #[.int .i64 h.gen,.int .i64 h.state,.int .i64 h.stamp,.int .i64 h.thread,.bool h.doomed,.int .i64 h.who],.pointer (some ⟨B,0,none⟩)] w fun e w' => e = .returned (.bool true) ∧ Keeps [] w w' := by
 have hlt := World.block_lt_of_cell? w _ hB
 simp only at hlt
 have hB1 : (w.alloc (.cells #[.int .i64 h.gen,.int .i64 h.state,.int .i64 h.stamp,.int .i64 h.thread,.bool h.doomed,.int .i64 h.who] 115)).cell? ⟨B,0,none⟩ = some (.int .i64 g) := by rw [World.cell?_alloc_past _ _ _ hlt]; exact hB
 go_enter Tryz.func104,Tryz.ntmps104
 go_wp2
 go_ret
 exact ⟨by simp [*],by simp⟩
theorem ready1_no (w : World) (h : Hd) (B : Nat) (g : Int) (hB : w.cell? ⟨B,0,none⟩ = some (.int .i64 g)) (h0 : h.state = 1) (h1 : ¬ h.gen = g) : Calls Tryz.prog 104 #[.agg #[.int .i64 h.gen,.int .i64 h.state,.int .i64 h.stamp,.int .i64 h.thread,.bool h.doomed,.int .i64 h.who],.pointer (some ⟨B,0,none⟩)] w fun e w' => e = .returned (.bool false) ∧ Keeps [] w w' := by
 have hlt := World.block_lt_of_cell? w _ hB
 simp only at hlt
 have hB1 : (w.alloc (.cells #[.int .i64 h.gen,.int .i64 h.state,.int .i64 h.stamp,.int .i64 h.thread,.bool h.doomed,.int .i64 h.who] 115)).cell? ⟨B,0,none⟩ = some (.int .i64 g) := by rw [World.cell?_alloc_past _ _ _ hlt]; exact hB
 go_enter Tryz.func104,Tryz.ntmps104
 go_wp2
 go_ret
 exact ⟨by simp [*],by simp⟩
theorem ready1_not (w : World) (h : Hd) (B : Nat) (g : Int) (hB : w.cell? ⟨B,0,none⟩ = some (.int .i64 g)) (h0 : ¬ h.state = 1) : Calls Tryz.prog 104 #[.agg #[.int .i64 h.gen,.int .i64 h.state,.int .i64 h.stamp,.int .i64 h.thread,.bool h.doomed,.int .i64 h.who],.pointer (some ⟨B,0,none⟩)] w fun e w' => e = .returned (.bool false) ∧ Keeps [] w w' := by
 have hlt := World.block_lt_of_cell? w _ hB
 simp only at hlt
 have hB1 : (w.alloc (.cells #[.int .i64 h.gen,.int .i64 h.state,.int .i64 h.stamp,.int .i64 h.thread,.bool h.doomed,.int .i64 h.who] 115)).cell? ⟨B,0,none⟩ = some (.int .i64 g) := by rw [World.cell?_alloc_past _ _ _ hlt]; exact hB
 go_enter Tryz.func104,Tryz.ntmps104
 go_wp2
 go_ret
 exact ⟨by simp [*],by simp⟩
theorem doom1_yes (w : World) (h : Hd) (B : Nat) (g : Int) (hB : w.cell? ⟨B,0,none⟩ = some (.int .i64 g)) (h0 : h.state = 2) (h1 : h.gen = g) : Calls Tryz.prog 136 #[.agg #[.int .i64 h.gen,.int .i64 h.state,.int .i64 h.stamp,.int .i64 h.thread,.bool h.doomed,.int .i64 h.who],.pointer (some ⟨B,0,none⟩)] w fun e w' => e = .returned (.bool true) ∧ Keeps [] w w' := by
 have hlt := World.block_lt_of_cell? w _ hB
 simp only at hlt
 have hB1 : (w.alloc (.cells #[.int .i64 h.gen,.int .i64 h.state,.int .i64 h.stamp,.int .i64 h.thread,.bool h.doomed,.int .i64 h.who] 115)).cell? ⟨B,0,none⟩ = some (.int .i64 g) := by rw [World.cell?_alloc_past _ _ _ hlt]; exact hB
 go_enter Tryz.func136,Tryz.ntmps136
 go_wp2
 go_ret
 exact ⟨by simp [*],by simp⟩
theorem doom1_no (w : World) (h : Hd) (B : Nat) (g : Int) (hB : w.cell? ⟨B,0,none⟩ = some (.int .i64 g)) (h0 : h.state = 2) (h1 : ¬ h.gen = g) : Calls Tryz.prog 136 #[.agg #[.int .i64 h.gen,.int .i64 h.state,.int .i64 h.stamp,.int .i64 h.thread,.bool h.doomed,.int .i64 h.who],.pointer (some ⟨B,0,none⟩)] w fun e w' => e = .returned (.bool false) ∧ Keeps [] w w' := by
 have hlt := World.block_lt_of_cell? w _ hB
 simp only at hlt
 have hB1 : (w.alloc (.cells #[.int .i64 h.gen,.int .i64 h.state,.int .i64 h.stamp,.int .i64 h.thread,.bool h.doomed,.int .i64 h.who] 115)).cell? ⟨B,0,none⟩ = some (.int .i64 g) := by rw [World.cell?_alloc_past _ _ _ hlt]; exact hB
 go_enter Tryz.func136,Tryz.ntmps136
 go_wp2
 go_ret
 exact ⟨by simp [*],by simp⟩
theorem doom1_not (w : World) (h : Hd) (B : Nat) (g : Int) (hB : w.cell? ⟨B,0,none⟩ = some (.int .i64 g)) (h0 : ¬ h.state = 2) : Calls Tryz.prog 136 #[.agg #[.int .i64 h.gen,.int .i64 h.state,.int .i64 h.stamp,.int .i64 h.thread,.bool h.doomed,.int .i64 h.who],.pointer (some ⟨B,0,none⟩)] w fun e w' => e = .returned (.bool false) ∧ Keeps [] w w' := by
 have hlt := World.block_lt_of_cell? w _ hB
 simp only at hlt
 have hB1 : (w.alloc (.cells #[.int .i64 h.gen,.int .i64 h.state,.int .i64 h.stamp,.int .i64 h.thread,.bool h.doomed,.int .i64 h.who] 115)).cell? ⟨B,0,none⟩ = some (.int .i64 g) := by rw [World.cell?_alloc_past _ _ _ hlt]; exact hB
 go_enter Tryz.func136,Tryz.ntmps136
 go_wp2
 go_ret
 exact ⟨by simp [*],by simp⟩
theorem free1_yes (w : World) (h : Hd) (B : Nat) (g : Int) (hB : w.cell? ⟨B,0,none⟩ = some (.int .i64 g)) (h0 : ¬ h.state = 0) (h1 : h.gen = g) : Calls Tryz.prog 100 #[.agg #[.int .i64 h.gen,.int .i64 h.state,.int .i64 h.stamp,.int .i64 h.thread,.bool h.doomed,.int .i64 h.who],.pointer (some ⟨B,0,none⟩)] w fun e w' => e = .returned (.bool true) ∧ Keeps [] w w' := by
 have hlt := World.block_lt_of_cell? w _ hB
 simp only at hlt
 have hB1 : (w.alloc (.cells #[.int .i64 h.gen,.int .i64 h.state,.int .i64 h.stamp,.int .i64 h.thread,.bool h.doomed,.int .i64 h.who] 115)).cell? ⟨B,0,none⟩ = some (.int .i64 g) := by rw [World.cell?_alloc_past _ _ _ hlt]; exact hB
 go_enter Tryz.func100,Tryz.ntmps100
 go_wp2
 go_ret
 exact ⟨by simp [*],by simp⟩
theorem free1_no (w : World) (h : Hd) (B : Nat) (g : Int) (hB : w.cell? ⟨B,0,none⟩ = some (.int .i64 g)) (h0 : ¬ h.state = 0) (h1 : ¬ h.gen = g) : Calls Tryz.prog 100 #[.agg #[.int .i64 h.gen,.int .i64 h.state,.int .i64 h.stamp,.int .i64 h.thread,.bool h.doomed,.int .i64 h.who],.pointer (some ⟨B,0,none⟩)] w fun e w' => e = .returned (.bool false) ∧ Keeps [] w w' := by
 have hlt := World.block_lt_of_cell? w _ hB
 simp only at hlt
 have hB1 : (w.alloc (.cells #[.int .i64 h.gen,.int .i64 h.state,.int .i64 h.stamp,.int .i64 h.thread,.bool h.doomed,.int .i64 h.who] 115)).cell? ⟨B,0,none⟩ = some (.int .i64 g) := by rw [World.cell?_alloc_past _ _ _ hlt]; exact hB
 go_enter Tryz.func100,Tryz.ntmps100
 go_wp2
 go_ret
 exact ⟨by simp [*],by simp⟩
theorem free1_not (w : World) (h : Hd) (B : Nat) (g : Int) (hB : w.cell? ⟨B,0,none⟩ = some (.int .i64 g)) (h0 : h.state = 0) : Calls Tryz.prog 100 #[.agg #[.int .i64 h.gen,.int .i64 h.state,.int .i64 h.stamp,.int .i64 h.thread,.bool h.doomed,.int .i64 h.who],.pointer (some ⟨B,0,none⟩)] w fun e w' => e = .returned (.bool false) ∧ Keeps [] w w' := by
 have hlt := World.block_lt_of_cell? w _ hB
 simp only at hlt
 have hB1 : (w.alloc (.cells #[.int .i64 h.gen,.int .i64 h.state,.int .i64 h.stamp,.int .i64 h.thread,.bool h.doomed,.int .i64 h.who] 115)).cell? ⟨B,0,none⟩ = some (.int .i64 g) := by rw [World.cell?_alloc_past _ _ _ hlt]; exact hB
 go_enter Tryz.func100,Tryz.ntmps100
 go_wp2
 go_ret
 exact ⟨by simp [*],by simp⟩
theorem claim2 (w : World) (h : Hd) (B : Nat) (g : Int) (hB : w.cell? ⟨B,0,none⟩ = some (.int .i64 g))  : Calls Tryz.prog 99 #[.agg #[.int .i64 h.gen,.int .i64 h.state,.int .i64 h.stamp,.int .i64 h.thread,.bool h.doomed,.int .i64 h.who],.pointer (some ⟨B,0,none⟩)] w fun e w' => e = .returned (.agg #[.int .i64 (wrap64 (h.gen + 1)),.int .i64 1,.int .i64 0,.int .i64 g,.bool false,.int .i64 0]) ∧ Keeps [] w w' := by
 have hlt := World.block_lt_of_cell? w _ hB
 simp only at hlt
 have hB1 : ((w.alloc (.cells #[.int .i64 h.gen,.int .i64 h.state,.int .i64 h.stamp,.int .i64 h.thread,.bool h.doomed,.int .i64 h.who] 115)).alloc (.cells #[.int .i64 0,.int .i64 0,.int .i64 0,.int .i64 0,.bool false,.int .i64 0] 115)).cell? ⟨B,0,none⟩ = some (.int .i64 g) := by rw [World.cell?_alloc_past _ _ _ (by simp; omega),World.cell?_alloc_past _ _ _ hlt]; exact hB
 go_enter Tryz.func99,Tryz.ntmps99
 go_wp2
 refine bodyPost_ret (v := .agg #[.int .i64 (wrap64 (h.gen + 1)),.int .i64 1,.int .i64 0,.int .i64 g,.bool false,.int .i64 0]) (by simp [results,Tryz.results99,go_sem]) rfl ⟨rfl,?_⟩
 simp
theorem ready2 (w : World) (h : Hd) (B : Nat) (g : Int) (hB : w.cell? ⟨B,0,none⟩ = some (.int .i64 g))  : Calls Tryz.prog 105 #[.agg #[.int .i64 h.gen,.int .i64 h.state,.int .i64 h.stamp,.int .i64 h.thread,.bool h.doomed,.int .i64 h.who],.pointer (some ⟨B,0,none⟩)] w fun e w' => e = .returned (.agg #[.int .i64 h.gen,.int .i64 2,.int .i64 g,.int .i64 h.thread,.bool h.doomed,.int .i64 h.who]) ∧ Keeps [] w w' := by
 have hlt := World.block_lt_of_cell? w _ hB
 simp only at hlt
 have hB1 : ((w.alloc (.cells #[.int .i64 h.gen,.int .i64 h.state,.int .i64 h.stamp,.int .i64 h.thread,.bool h.doomed,.int .i64 h.who] 115)).alloc (.cells #[.int .i64 0,.int .i64 0,.int .i64 0,.int .i64 0,.bool false,.int .i64 0] 115)).cell? ⟨B,0,none⟩ = some (.int .i64 g) := by rw [World.cell?_alloc_past _ _ _ (by simp; omega),World.cell?_alloc_past _ _ _ hlt]; exact hB
 go_enter Tryz.func105,Tryz.ntmps105
 go_wp2
 go_region
 all_goals go_wp2
 all_goals refine bodyPost_ret (v := .agg #[.int .i64 h.gen,.int .i64 2,.int .i64 g,.int .i64 h.thread,.bool h.doomed,.int .i64 h.who]) (by simp [results,Tryz.results105,go_sem]) rfl ⟨rfl,?_⟩
 all_goals exact ((Sq.r.alloc _).alloc _).drew
theorem doom2_new (w : World) (h : Hd) (B : Nat) (g : Int) (hB : w.cell? ⟨B,0,none⟩ = some (.int .i64 g)) (hd : h.doomed = false) : Calls Tryz.prog 137 #[.agg #[.int .i64 h.gen,.int .i64 h.state,.int .i64 h.stamp,.int .i64 h.thread,.bool h.doomed,.int .i64 h.who],.pointer (some ⟨B,0,none⟩)] w fun e w' => e = .returned (.agg #[.int .i64 h.gen,.int .i64 h.state,.int .i64 h.stamp,.int .i64 h.thread,.bool true,.int .i64 g]) ∧ Keeps [] w w' := by
 have hlt := World.block_lt_of_cell? w _ hB
 simp only at hlt
 have hB1 : ((w.alloc (.cells #[.int .i64 h.gen,.int .i64 h.state,.int .i64 h.stamp,.int .i64 h.thread,.bool h.doomed,.int .i64 h.who] 115)).alloc (.cells #[.int .i64 0,.int .i64 0,.int .i64 0,.int .i64 0,.bool false,.int .i64 0] 115)).cell? ⟨B,0,none⟩ = some (.int .i64 g) := by rw [World.cell?_alloc_past _ _ _ (by simp; omega),World.cell?_alloc_past _ _ _ hlt]; exact hB
 go_enter Tryz.func137,Tryz.ntmps137
 go_wp2
 go_region
 all_goals go_wp2
 all_goals refine bodyPost_ret (v := .agg #[.int .i64 h.gen,.int .i64 h.state,.int .i64 h.stamp,.int .i64 h.thread,.bool true,.int .i64 g]) (by simp [results,Tryz.results137,go_sem]) rfl ⟨rfl,?_⟩
 all_goals exact ((Sq.r.alloc _).alloc _).drew
theorem doom2_old (w : World) (h : Hd) (B : Nat) (g : Int) (hB : w.cell? ⟨B,0,none⟩ = some (.int .i64 g)) (hd : h.doomed = true) : Calls Tryz.prog 137 #[.agg #[.int .i64 h.gen,.int .i64 h.state,.int .i64 h.stamp,.int .i64 h.thread,.bool h.doomed,.int .i64 h.who],.pointer (some ⟨B,0,none⟩)] w fun e w' => e = .returned (.agg #[.int .i64 h.gen,.int .i64 h.state,.int .i64 h.stamp,.int .i64 h.thread,.bool h.doomed,.int .i64 h.who]) ∧ Keeps [] w w' := by
 have hlt := World.block_lt_of_cell? w _ hB
 simp only at hlt
 have hB1 : ((w.alloc (.cells #[.int .i64 h.gen,.int .i64 h.state,.int .i64 h.stamp,.int .i64 h.thread,.bool h.doomed,.int .i64 h.who] 115)).alloc (.cells #[.int .i64 0,.int .i64 0,.int .i64 0,.int .i64 0,.bool false,.int .i64 0] 115)).cell? ⟨B,0,none⟩ = some (.int .i64 g) := by rw [World.cell?_alloc_past _ _ _ (by simp; omega),World.cell?_alloc_past _ _ _ hlt]; exact hB
 go_enter Tryz.func137,Tryz.ntmps137
 go_wp2
 refine bodyPost_ret (v := .agg #[.int .i64 h.gen,.int .i64 h.state,.int .i64 h.stamp,.int .i64 h.thread,.bool h.doomed,.int .i64 h.who]) (by simp [results,Tryz.results137,go_sem,hd]) rfl ⟨rfl,?_⟩
 simp
theorem free2 (w : World) (h : Hd)  : Calls Tryz.prog 101 #[.agg #[.int .i64 h.gen,.int .i64 h.state,.int .i64 h.stamp,.int .i64 h.thread,.bool h.doomed,.int .i64 h.who]] w fun e w' => e = .returned (.agg #[.int .i64 h.gen,.int .i64 0,.int .i64 0,.int .i64 0,.bool false,.int .i64 0]) ∧ Keeps [] w w' := by
 go_enter Tryz.func101,Tryz.ntmps101
 go_wp2
 refine bodyPost_ret (v := .agg #[.int .i64 h.gen,.int .i64 0,.int .i64 0,.int .i64 0,.bool false,.int .i64 0]) (by simp [results,Tryz.results101,go_sem]) rfl ⟨rfl,?_⟩
 simp
end Go.Proofs.YtmlnedilbneekaaGreat