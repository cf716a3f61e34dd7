/- Package slots: New; the closures of Claim, Ready, Doom, Free. -/
import Derived.Test.YtcoekpomiljofaaRowH
import Derived.Test.YtcoekpomiljofaaRowU
import Derived.Test.YtcoekpomiljofaaMeter
import Derived.Laws.OwnMore
namespace Go.Proofs.Ytcoekpomiljofaa
open Go.RowKit
set_option linter.unusedVariables false
set_option linter.unusedSimpArgs false
/-- Where a table lies: itself, its heads (row, cells), its words (row, cells). -/
structure Tb where
  q : Nat
  r : Nat
  b : Nat
  s : Nat
  c : Nat
/-- A table with these heads and words. -/
structure TabAt (w : World) (t : Tb) (mp : Option Nat) (H : List Hd) (W : List Int) : Prop where
  blk : Blk w t.q 97 #[.pointer (some ⟨t.r, 0, none⟩), .pointer (some ⟨t.s, 0, none⟩)]
  heads : RowH.At RowH.R w t.r t.b 3 mp H
  words : RowU.At RowU.R w t.s t.c 4 mp W
  len : W.length = 2 * H.length
  n1 : 1 ≤ H.length
  n8 : H.length ≤ 8
section
variable {w w' : World} {S : List Nat} {t : Tb} {mp : Option Nat} {H : List Hd} {W : List Int}
theorem TabAt.keeps (h : TabAt w t mp H W) (hk : Keeps S w w') (h0 : t.q ∉ S) (h1 : t.r ∉ S) (h2 : t.b ∉ S) (h3 : t.s ∉ S) (h4 : t.c ∉ S) : TabAt w' t mp H W :=
  ⟨h.blk.keeps hk h0, h.heads.keeps hk h1 h2, h.words.keeps hk h3 h4, h.len, h.n1, h.n8⟩
theorem TabAt.calm (h : TabAt w t mp H W) (hk : Keeps [] w w') : TabAt w' t mp H W := h.keeps hk (by simp) (by simp) (by simp) (by simp) (by simp)
theorem TabAt.lt (h : TabAt w t mp H W) : t.q < w.heap.size ∧ t.r < w.heap.size ∧ t.b < w.heap.size ∧ t.s < w.heap.size ∧ t.c < w.heap.size := ⟨h.blk.lt, h.heads.blk.lt, h.heads.row.lt, h.words.blk.lt, h.words.row.lt⟩
/-- That a table's blocks differ. -/
structure TApart (t : Tb) : Prop where
  qb : t.q ≠ t.b
  qc : t.q ≠ t.c
  rb : t.r ≠ t.b
  rc : t.r ≠ t.c
  sb : t.s ≠ t.b
  sc : t.s ≠ t.c
  bc : t.b ≠ t.c
theorem TabAt.ways (h : TabAt w t mp H W) : TApart t :=
  ⟨h.blk.ne_ h.heads.row (by decide), h.blk.ne_ h.words.row (by decide), h.heads.blk.ne_ h.heads.row (by decide), h.heads.blk.ne_ h.words.row (by decide), h.words.blk.ne_ h.heads.row (by decide), h.words.blk.ne_ h.words.row (by decide), h.heads.row.ne_ h.words.row (by decide)⟩
theorem TabAt.afoot (h : TabAt w t mp H W) {lb : Nat} {s : MS} {mp' : Option Nat} (hm : MetAt MT w mp' lb s) : t.q ∉ foot mp' lb ∧ t.r ∉ foot mp' lb ∧ t.b ∉ foot mp' lb ∧ t.s ∉ foot mp' lb ∧ t.c ∉ foot mp' lb :=
  ⟨Go.Proofs.Ytcoekpomiljofaa.apart hm h.blk (by decide) (by decide), (h.heads.foot RowH.ty hm).1, (h.heads.foot RowH.ty hm).2, (h.words.foot RowU.ty hm).1, (h.words.foot RowU.ty hm).2⟩
end
/-- What a call of a table leaves. -/
def TLeft (t : Tb) (mp : Option Nat) (H : List Hd) (W : List Int) (lb : Nat) (s : MS) (w w' : World) : Prop :=
  TabAt w' t mp H W ∧ ∃ lb', MetAt MT w' mp lb' s ∧ Keeps (t.b :: t.c :: foot mp lb) w w' ∧ (lb' = lb ∨ w.heap.size ≤ lb')
theorem TLeft.rest {t : Tb} {mp : Option Nat} {H : List Hd} {W : List Int} {lb : Nat} {s : MS} {w w' : World} (h : TabAt w t mp H W) (hm : MetAt MT w mp lb s) (hk : Keeps [] w w') : TLeft t mp H W lb s w w' :=
  ⟨h.calm hk, lb, hm.keeps hk (by simp), hk.mono (by simp), .inl rfl⟩
section
variable {t : Tb} {mp : Option Nat} {H H' : List Hd} {W W' : List Int} {lb : Nat} {s s' : MS} {w wa w1 w2 : World}
theorem foot_far (hm : MetAt MT w mp lb s) {lb' : Nat} (hl : lb' = lb ∨ wa.heap.size ≤ lb') (hw : w.heap.size ≤ wa.heap.size) {S : List Nat} (hS : ∀ z, z ∈ S → w.heap.size ≤ z ∧ (z < wa.heap.size ∨ w1.heap.size ≤ z)) (h2 : MetAt MT w1 mp lb' s') : ∀ k, k ∈ foot mp lb' → k ∉ S := by
  intro z hz hz2
  have h5 := hS z hz2
  cases mp with
  | none => simp [foot] at hz
  | some m =>
    have h6 := foot_lt hm (k := m) (by simp [foot])
    have h7 := foot_lt hm (k := lb) (by simp [foot])
    have h8 := foot_lt h2 (k := lb') (by simp [foot])
    simp only [foot, List.mem_cons, List.not_mem_nil, or_false] at hz
    omega
/-- A call of the heads' row inside a call of the table. -/
theorem TabAt.headed (h : TabAt w t mp H W) (hm : MetAt MT w mp lb s) (hk : Keeps [] w wa) (hl : RowH.Left RowH.R MT t.r t.b 3 mp H' lb s' wa w1) (hn : H'.length = H.length)
    {S : List Nat} (hS : ∀ z, z ∈ S → w.heap.size ≤ z ∧ (z < wa.heap.size ∨ w1.heap.size ≤ z)) (hk2 : Keeps S w1 w2) : TLeft t mp H' W lb s' w w2 := by
  obtain ⟨h1, lb', h2, h3, h4⟩ := hl
  have hz := hk.size
  have hz1 := h3.size
  have hlt := h.lt
  have hf := h.afoot hm
  have hap := h.ways
  have kT : Keeps (t.b :: foot mp lb) w w1 := (hk.mono (T := t.b :: foot mp lb) (by simp)).trans h3 (fun x hx => .inl hx)
  have hq1 := h.blk.keeps kT (by simp [hap.qb, hf.1])
  have hw1 := h.words.keeps kT (by simp [hap.sb, hf.2.2.2.1]) (by simp [hap.bc.symm, hf.2.2.2.2])
  have out : ∀ x, x < w.heap.size → x ∉ S := fun x hx hxS => by have := hS x hxS; omega
  exact ⟨⟨hq1.keeps hk2 (out _ hlt.1), h1.keeps hk2 (out _ hlt.2.1) (out _ hlt.2.2.1), hw1.keeps hk2 (out _ hlt.2.2.2.1) (out _ hlt.2.2.2.2), by rw [hn]; exact h.len, by rw [hn]; exact h.n1, by rw [hn]; exact h.n8⟩,
    lb', h2.keeps hk2 (foot_far hm h4 hz hS h2), (kT.mono (T := t.b :: t.c :: foot mp lb) (fun x hx => .inl (by simp only [List.mem_cons] at hx ⊢; rcases hx with hx | hx <;> simp [hx]))).trans hk2 (fun x hx => .inr (hS x hx).1), by omega⟩
/-- A call of the words' row inside a call of the table. -/
theorem TabAt.worded (h : TabAt w t mp H W) (hm : MetAt MT w mp lb s) (hk : Keeps [] w wa) (hl : RowU.Left RowU.R MT t.s t.c 4 mp W' lb s' wa w1) (hn : W'.length = W.length)
    {S : List Nat} (hS : ∀ z, z ∈ S → w.heap.size ≤ z ∧ (z < wa.heap.size ∨ w1.heap.size ≤ z)) (hk2 : Keeps S w1 w2) : TLeft t mp H W' lb s' w w2 := by
  obtain ⟨h1, lb', h2, h3, h4⟩ := hl
  have hz := hk.size
  have hz1 := h3.size
  have hlt := h.lt
  have hf := h.afoot hm
  have hap := h.ways
  have kT : Keeps (t.c :: foot mp lb) w w1 := (hk.mono (T := t.c :: foot mp lb) (by simp)).trans h3 (fun x hx => .inl hx)
  have hq1 := h.blk.keeps kT (by simp [hap.qc, hf.1])
  have hw1 := h.heads.keeps kT (by simp [hap.rc, hf.2.1]) (by simp [hap.bc, hf.2.2.1])
  have out : ∀ x, x < w.heap.size → x ∉ S := fun x hx hxS => by have := hS x hxS; omega
  exact ⟨⟨hq1.keeps hk2 (out _ hlt.1), hw1.keeps hk2 (out _ hlt.2.1) (out _ hlt.2.2.1), h1.keeps hk2 (out _ hlt.2.2.2.1) (out _ hlt.2.2.2.2), by rw [hn]; exact h.len, h.n1, h.n8⟩,
    lb', h2.keeps hk2 (foot_far hm h4 hz hS h2), (kT.mono (T := t.b :: t.c :: foot mp lb) (fun x hx => .inl (by simp only [List.mem_cons] at hx ⊢; rcases hx with hx | hx <;> simp [hx]))).trans hk2 (fun x hx => .inr (hS x hx).1), by omega⟩
end

/-- Never's head. -/
def Hd.never : Hd := ⟨-1, 0, 0, 0, false, 0⟩

/-- A head as a value. -/
def Hd.val (h : Hd) : Value := .agg #[.int .i64 h.gen, .int .i64 h.state, .int .i64 h.stamp, .int .i64 h.thread, .bool h.doomed, .int .i64 h.who]
end Go.Proofs.Ytcoekpomiljofaa

namespace Go.Proofs.Ytcoekpomiljofaa
open Go.RowKit
set_option linter.unusedVariables false
set_option linter.unusedSimpArgs false
theorem slots_new_bad (w : World) (mp : Option Nat) (n : Int) (hn : n < 1 ∨ 8 < n) : Calls Try.prog 22 #[PM mp, .int .i64 n] w fun e w' => e = .returned (.tuple #[.pointer none, .int .i64 1]) ∧ w = w' := by
  rcases hn with hn | hn
  · go_enter Try.func22, Try.ntmps22
    go_wp2
    go_ret2
    exact ⟨rfl, rfl⟩
  · have h1 : ¬ (n < 1) := by omega
    go_enter Try.func22, Try.ntmps22
    go_wp2
    go_ret2
    exact ⟨rfl, rfl⟩
/-- Where New lays a table in a world of so many blocks. -/
def Tb.new (n : Nat) : Tb := ⟨n + 4, n + 1, n, n + 3, n + 2⟩
theorem slots_new (w : World) (mp : Option Nat) (n : Nat) (h1 : 1 ≤ n) (h2 : n ≤ 8) : Calls Try.prog 22 #[PM mp, .int .i64 n] w fun e w' =>
    e = .returned (.tuple #[.pointer (some ⟨w.heap.size + 4, 0, none⟩), .int .i64 0]) ∧ TabAt w' (Tb.new w.heap.size) mp (List.replicate n Hd.zero) (List.replicate (n * 2) 0) ∧ Keeps [] w w' := by
  have hn := Lib.hid (RowH.newRow_ok w mp 3 n h1 (by omega))
  have e1 : ¬ ((n : Int) < 1) := by omega
  have e2 : ¬ ((8 : Int) < (n : Int)) := by omega
  have e3 : Hid ((n : Int) * 2 = ((n * 2 : Nat) : Int)) := by unfold Hid; simp
  go_enter Try.func22, Try.ntmps22
  go_wp2_with fail
  refine hn.out.mono ?_
  rintro e w1 ⟨rfl, hr, hk, hs⟩
  have HR := Lib.hid hr
  have HK := Lib.hid hk
  have HS := Lib.hid hs
  clear hr hk hs hn
  go_wp2_with fail
  rw [e3.out]
  refine (RowU.newRow_ok w1 mp 4 (n * 2) (by omega) (by omega)).mono ?_
  rintro e w2 ⟨rfl, hr2, hk2, hs2⟩
  have HR2 := Lib.hid hr2
  have HK2 := Lib.hid hk2
  have HS2 := Lib.hid hs2
  clear hr2 hk2 hs2
  go_wp2_with fail
  have E1 : w1.heap.size = w.heap.size + 2 := HS.out
  have E2 : w2.heap.size = w.heap.size + 4 := by rw [HS2.out, E1]
  simp only [E1, E2]
  go_ret2
  have a1 := HR2.out
  rw [E1] at a1
  exact ⟨rfl, ⟨new_at _ _ _ E2, (HR.out.keeps HK2.out (by simp) (by simp)).keeps ((Keeps.refl [] w2).alloc _) (by simp) (by simp), a1.keeps ((Keeps.refl [] w2).alloc _) (by simp) (by simp), by simp; omega, by simpa using h1, by simpa using h2⟩, (HK.out.trans HK2.out (by simp)).alloc _⟩
end Go.Proofs.Ytcoekpomiljofaa
