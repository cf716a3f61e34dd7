/- A script of quashlaw08.Op that came in: what its steps hold, how it is opened. -/
import Derived.Test.YtcoekpomiljofaaGreatOpenS
import Derived.Test.YtcoekpomiljofaaGreatSlc
import Derived.Test.YtcoekpomiljofaaGreatLocal
namespace Go.Proofs.YtcoekpomiljofaaGreat
open Go.ChangeShapes Go.WideShapes Go.Deep Go.RowKit
set_option linter.unusedVariables false
structure Op08 where
  other : Bool
  kind : Int
  i : Int
  n : Int
  x : Int
  A : Option Addr
  c : Nat
  xs : List Int
  ev : Ev
instance : Inhabited Op08 := ⟨⟨false, 0, 0, 0, 0, none, 0, [], ⟨0, 0, 0, 0, 0, 0, false, 0, 0, 0⟩⟩⟩
def Op08.vals (p : Op08) : Array Value := #[.bool p.other, .int .i64 p.kind, .int .i64 p.i, .int .i64 p.n, .int .i64 p.x, .slice p.A p.xs.length p.c, .int .i64 p.ev.kind, .int .i64 p.ev.step, .int .i64 p.ev.thread, .int .i64 p.ev.stamp, .int .i64 p.ev.cell, .int .i64 p.ev.x, .bool p.ev.mine, .int .i64 p.ev.gate, .int .i64 p.ev.e, .int .i64 p.ev.who]
/-- The step in the block b from the offset o on. -/
structure Op08.At (w : World) (b o : Nat) (p : Op08) : Prop where
  c0 : w.cell? ⟨b, o, none⟩ = some (.bool p.other)
  c1 : w.cell? ⟨b, o + 1, none⟩ = some (.int .i64 p.kind)
  c2 : w.cell? ⟨b, o + 2, none⟩ = some (.int .i64 p.i)
  c3 : w.cell? ⟨b, o + 3, none⟩ = some (.int .i64 p.n)
  c4 : w.cell? ⟨b, o + 4, none⟩ = some (.int .i64 p.x)
  c5 : w.cell? ⟨b, o + 5, none⟩ = some (.slice p.A p.xs.length p.c)
  c6 : w.cell? ⟨b, o + 6, none⟩ = some (.int .i64 p.ev.kind)
  c7 : w.cell? ⟨b, o + 7, none⟩ = some (.int .i64 p.ev.step)
  c8 : w.cell? ⟨b, o + 8, none⟩ = some (.int .i64 p.ev.thread)
  c9 : w.cell? ⟨b, o + 9, none⟩ = some (.int .i64 p.ev.stamp)
  c10 : w.cell? ⟨b, o + 10, none⟩ = some (.int .i64 p.ev.cell)
  c11 : w.cell? ⟨b, o + 11, none⟩ = some (.int .i64 p.ev.x)
  c12 : w.cell? ⟨b, o + 12, none⟩ = some (.bool p.ev.mine)
  c13 : w.cell? ⟨b, o + 13, none⟩ = some (.int .i64 p.ev.gate)
  c14 : w.cell? ⟨b, o + 14, none⟩ = some (.int .i64 p.ev.e)
  c15 : w.cell? ⟨b, o + 15, none⟩ = some (.int .i64 p.ev.who)
  sl : Slc w p.A p.xs
  ln : p.xs.length ≤ 1048576
/-- A slice of them. -/
def LstOp08 (w : World) (A : Option Addr) (n cap : Nat) (l : List Op08) : Prop :=
  l.length = n ∧ n ≤ cap ∧ n ≤ 1048576 ∧ cap ≤ maxLen ∧ (0 < n → ∃ b off, A = some ⟨b, off, none⟩ ∧ b < w.heap.size ∧ ∀ i p, l[i]? = some p → Op08.At w b (off + i * 16) p)
theorem Op08.At.keeps {w w' : World} {b o : Nat} {p : Op08} (h : Op08.At w b o p) (hb : b < w.heap.size) (hk : Keeps [] w w') : Op08.At w' b o p := by
  have hc : ∀ o, w'.cell? ⟨b, o, none⟩ = w.cell? ⟨b, o, none⟩ := fun o => World.cell?_of_block (hk.block b hb (by simp))
  exact ⟨(hc _).trans h.c0, (hc _).trans h.c1, (hc _).trans h.c2, (hc _).trans h.c3, (hc _).trans h.c4, (hc _).trans h.c5, (hc _).trans h.c6, (hc _).trans h.c7, (hc _).trans h.c8, (hc _).trans h.c9, (hc _).trans h.c10, (hc _).trans h.c11, (hc _).trans h.c12, (hc _).trans h.c13, (hc _).trans h.c14, (hc _).trans h.c15, h.sl.keeps hk, h.ln⟩
theorem LstOp08.at_ {w : World} {A : Option Addr} {n cap : Nat} {l : List Op08} (h : LstOp08 w A n cap l) {k : Nat} (hk : k < n) :
    ∃ b off p, A = some ⟨b, off, none⟩ ∧ l[k]? = some p ∧ ∀ w', Keeps [] w w' → Op08.At w' b (off + k * 16) p := by
  obtain ⟨hl, _, _, _, h⟩ := h
  obtain ⟨b, off, hA, hb, hc⟩ := h (by omega)
  have hx : l[k]? = some (l[k]'(by omega)) := List.getElem?_eq_getElem (by omega)
  exact ⟨b, off, _, hA, hx, fun w' hw => (hc k _ hx).keeps hb hw⟩
section
variable {H : Type} {enc : TypeId × Value → H} {w : World} {base : Nat} {spare : Nat → Bool} {held : Bool}
theorem trod_field_b {P : Program} {t : TypeId} {fs : Array Field} {fuel : Nat} {cs : List Value} {x : DataW H × List MemPlace} (ht : P.underlying t = some (.struct fs)) (h : DataW.trod enc P w base spare held fuel t cs = some x)
    (j : Nat) (f : Field) (hj : fs[j]? = some f) (k : Nat) (hk : P.cellsOf f.type = k) (cs' : List Value) (hcs : (cs.drop f.offset).take k = cs') : ∃ n y, DataW.trod enc P w base spare held n f.type cs' = some y ∧ Rows.uptoBulk y.1 ≤ Rows.uptoBulk x.1 := by
  obtain ⟨ys, n', hn', hy, hlen, hyl, hf⟩ := DataW.trod_struct ht h
  have hjl : j < fs.size := (Array.getElem?_eq_some_iff.1 hj).1
  have h1 := hf j f hj
  rw [hk, hcs] at h1
  have hg : ys[j]? = some (ys[j]'(by omega)) := List.getElem?_eq_getElem (by omega)
  refine ⟨n', _, h1.trans hg, ?_⟩
  have hm : (ys[j]'(by omega)).1 ∈ ys.map (·.1) := List.mem_map_of_mem (List.getElem_mem _)
  have := bulks.part_le hm
  rw [hy]
  simp only [Rows.uptoBulk]
  omega
theorem open_els_b {P : Program} {t e : TypeId} {fuel C : Nat} {cs : List Value} {x : DataW H × List MemPlace} (ht : P.underlying t = some (.slice e)) (hC : P.cellsOf e = C) (h : DataW.trod enc P w base spare held fuel t cs = some x) :
    cs = [.slice none 0 0] ∨
    ∃ (a : Addr) (len cap : Nat), cs = [.slice (some a) len cap] ∧ len ≤ cap ∧ cap ≤ maxLen ∧
      ∀ i, i < len → ∃ (n : Nat) (cs' : List Value) (y : DataW H × List MemPlace), cs'.length = C ∧ (∀ k v, cs'[k]? = some v → w.cell? (a.add (i * C + k)) = some v) ∧ DataW.trod enc P w base spare held n e cs' = some y ∧ Rows.uptoBulk y.1 ≤ Rows.uptoBulk x.1 := by
  rcases open_slice ht h with ⟨h0, _⟩ | ⟨a, len, cap, m, n, D, Pl, hcs, hb, hl, hm, hmm, hx, hi⟩
  · exact .inl h0
  · refine .inr ⟨a, len, cap, hcs, hl, hm, fun i hil => ?_⟩
    have him : i < m := by rw [hmm]; split <;> omega
    obtain ⟨cs', hc, ht'⟩ := hi i him
    rw [hC] at hc
    obtain ⟨_, hcl, hat⟩ := World.cells?_some hc
    refine ⟨n, cs', _, hcl, fun k v hk => ?_, ht', ?_⟩
    · rw [← Go.Deep.add_add]
      have hkl := (List.getElem?_eq_some_iff.1 hk).1
      exact (hat k (by omega)).trans hk
    · have hme : D i ∈ (List.range len).map D := List.mem_map_of_mem (List.mem_range.2 hil)
      have := bulks.part_le hme
      rw [hx]
      simp only [Rows.uptoBulk]
      omega
theorem ev08_open {n : Nat} {cs : List Value} {y : DataW H × List MemPlace} (hl : cs.length = 10) (h : DataW.trod enc Tryz.prog w base spare held n 98 cs = some y) : ∃ v : Ev, cs = v.cells := by
  obtain ⟨c0, c1, c2, c3, c4, c5, c6, c7, c8, c9, rfl⟩ : ∃ c0 c1 c2 c3 c4 c5 c6 c7 c8 c9, cs = [c0, c1, c2, c3, c4, c5, c6, c7, c8, c9] := by
    match cs, hl with
    | [c0, c1, c2, c3, c4, c5, c6, c7, c8, c9], _ => exact ⟨_, _, _, _, _, _, _, _, _, _, rfl⟩
  obtain ⟨n0, y0, t0⟩ := trod_field Tryz.underlying98 h 0 _ rfl 1 (by kernel_rfl) [c0] rfl
  obtain ⟨x0, e0, _, q0⟩ := DataW.trod_int Tryz.underlying3 t0
  simp at e0
  obtain ⟨n1, y1, t1⟩ := trod_field Tryz.underlying98 h 1 _ rfl 1 (by kernel_rfl) [c1] rfl
  obtain ⟨x1, e1, _, q1⟩ := DataW.trod_int Tryz.underlying3 t1
  simp at e1
  obtain ⟨n2, y2, t2⟩ := trod_field Tryz.underlying98 h 2 _ rfl 1 (by kernel_rfl) [c2] rfl
  obtain ⟨x2, e2, _, q2⟩ := DataW.trod_int Tryz.underlying3 t2
  simp at e2
  obtain ⟨n3, y3, t3⟩ := trod_field Tryz.underlying98 h 3 _ rfl 1 (by kernel_rfl) [c3] rfl
  obtain ⟨x3, e3, _, q3⟩ := DataW.trod_int Tryz.underlying3 t3
  simp at e3
  obtain ⟨n4, y4, t4⟩ := trod_field Tryz.underlying98 h 4 _ rfl 1 (by kernel_rfl) [c4] rfl
  obtain ⟨x4, e4, _, q4⟩ := DataW.trod_int Tryz.underlying3 t4
  simp at e4
  obtain ⟨n5, y5, t5⟩ := trod_field Tryz.underlying98 h 5 _ rfl 1 (by kernel_rfl) [c5] rfl
  obtain ⟨x5, e5, _, q5⟩ := DataW.trod_int Tryz.underlying2 t5
  simp at e5
  obtain ⟨n6, y6, t6⟩ := trod_field Tryz.underlying98 h 6 _ rfl 1 (by kernel_rfl) [c6] rfl
  obtain ⟨x6, e6, _⟩ := DataW.trod_bool Tryz.underlying4 t6
  simp at e6
  obtain ⟨n7, y7, t7⟩ := trod_field Tryz.underlying98 h 7 _ rfl 1 (by kernel_rfl) [c7] rfl
  obtain ⟨x7, e7, _, q7⟩ := DataW.trod_int Tryz.underlying3 t7
  simp at e7
  obtain ⟨n8, y8, t8⟩ := trod_field Tryz.underlying98 h 8 _ rfl 1 (by kernel_rfl) [c8] rfl
  obtain ⟨x8, e8, _, q8⟩ := DataW.trod_int Tryz.underlying32 t8
  simp at e8
  obtain ⟨n9, y9, t9⟩ := trod_field Tryz.underlying98 h 9 _ rfl 1 (by kernel_rfl) [c9] rfl
  obtain ⟨x9, e9, _, q9⟩ := DataW.trod_int Tryz.underlying3 t9
  simp at e9
  exact ⟨⟨x0, x1, x2, x3, x4, x5, x6, x7, x8, x9⟩, by rw [e0, e1, e2, e3, e4, e5, e6, e7, e8, e9]; rfl⟩
theorem op08_open {n : Nat} {cs : List Value} {y : DataW H × List MemPlace} (hl : cs.length = 16) (h : DataW.trod enc Tryz.prog w base spare held n 100 cs = some y) (hy : Rows.uptoBulk y.1 ≤ 1048576) : ∃ p : Op08, cs = p.vals.toList ∧ Slc w p.A p.xs ∧ p.xs.length ≤ 1048576 := by
  obtain ⟨c0, c1, c2, c3, c4, c5, c6, c7, c8, c9, c10, c11, c12, c13, c14, c15, rfl⟩ : ∃ c0 c1 c2 c3 c4 c5 c6 c7 c8 c9 c10 c11 c12 c13 c14 c15, cs = [c0, c1, c2, c3, c4, c5, c6, c7, c8, c9, c10, c11, c12, c13, c14, c15] := by
    match cs, hl with
    | [c0, c1, c2, c3, c4, c5, c6, c7, c8, c9, c10, c11, c12, c13, c14, c15], _ => exact ⟨_, _, _, _, _, _, _, _, _, _, _, _, _, _, _, _, rfl⟩
  obtain ⟨n0, y0, t0⟩ := trod_field Tryz.underlying100 h 0 _ rfl 1 (by kernel_rfl) [c0] rfl
  obtain ⟨x0, e0, _⟩ := DataW.trod_bool Tryz.underlying4 t0
  simp at e0
  obtain ⟨n1, y1, t1⟩ := trod_field Tryz.underlying100 h 1 _ rfl 1 (by kernel_rfl) [c1] rfl
  obtain ⟨x1, e1, _, q1⟩ := DataW.trod_int Tryz.underlying3 t1
  simp at e1
  obtain ⟨n2, y2, t2⟩ := trod_field Tryz.underlying100 h 2 _ rfl 1 (by kernel_rfl) [c2] rfl
  obtain ⟨x2, e2, _, q2⟩ := DataW.trod_int Tryz.underlying3 t2
  simp at e2
  obtain ⟨n3, y3, t3⟩ := trod_field Tryz.underlying100 h 3 _ rfl 1 (by kernel_rfl) [c3] rfl
  obtain ⟨x3, e3, _, q3⟩ := DataW.trod_int Tryz.underlying3 t3
  simp at e3
  obtain ⟨n4, y4, t4⟩ := trod_field Tryz.underlying100 h 4 _ rfl 1 (by kernel_rfl) [c4] rfl
  obtain ⟨x4, e4, _, q4⟩ := DataW.trod_int Tryz.underlying2 t4
  simp at e4
  obtain ⟨n5, y5, t5, b5⟩ := trod_field_b Tryz.underlying100 h 5 _ rfl 1 (by kernel_rfl) [c5] rfl
  obtain ⟨n6, y6, t6⟩ := trod_field Tryz.underlying100 h 6 _ rfl 10 (by kernel_rfl) [c6, c7, c8, c9, c10, c11, c12, c13, c14, c15] rfl
  obtain ⟨v, ev⟩ := ev08_open rfl t6
  obtain ⟨A, l, c, e5⟩ : ∃ A l c, c5 = .slice A l c := by
    rcases DataW.trod_slice Tryz.underlying55 t5 with ⟨hcs, _⟩ | ⟨a, l, c, _, _, _, _, hcs, _⟩
    · simp at hcs; exact ⟨_, _, _, hcs⟩
    · simp at hcs; exact ⟨_, _, _, hcs⟩
  subst e5
  have hbn : l ≤ 1048576 := by
    rcases open_slice Tryz.underlying55 t5 with ⟨hcs, _⟩ | ⟨a, len, c, m, q, D, Pl, hcs, _, _, _, _, hx, _⟩
    · simp at hcs
      omega
    · simp at hcs
      obtain ⟨rfl, rfl, rfl⟩ := hcs
      rw [hx] at b5
      have h1 := Nat.le_trans (bulks.slice_le ((List.range l).map D) ((List.range (m - l)).map fun j => D (l + j))) b5
      simp only [List.length_map, List.length_range] at h1
      omega
  obtain ⟨⟨xs, hxs⟩, _⟩ := ints_open Tryz.underlying55 Tryz.underlying2 (by kernel_rfl) t5
  have hsl := Slc.of_ints hxs
  obtain rfl := hxs.1
  refine ⟨⟨x0, x1, x2, x3, x4, A, c, xs, v⟩, ?_, hsl, hbn⟩
  rw [e0, e1, e2, e3, e4, ev]
  rfl
theorem lstOp08_open {fuel : Nat} {A : Option Addr} {n cap : Nat} {x : DataW H × List MemPlace} (h : DataW.trod enc Tryz.prog w base spare held fuel 91 [.slice A n cap] = some x) (hsz : Rows.uptoBulk x.1 ≤ 1048576) : ∃ l, LstOp08 w A n cap l := by
  have hbn : n ≤ 1048576 := by
    rcases open_slice Tryz.underlying91 h with ⟨hcs, _⟩ | ⟨a, len, c, m, q, D, Pl, hcs, _, _, _, _, hx, _⟩
    · simp at hcs
      omega
    · simp at hcs
      obtain ⟨rfl, rfl, rfl⟩ := hcs
      rw [hx] at hsz
      have h1 := Nat.le_trans (bulks.slice_le ((List.range n).map D) ((List.range (m - n)).map fun j => D (n + j))) hsz
      simp only [List.length_map, List.length_range] at h1
      omega
  rcases open_els_b Tryz.underlying91 (C := 16) (by kernel_rfl) h with hcs | ⟨a, len, c, hcs, hl, hm, hf⟩
  · simp at hcs
    obtain ⟨rfl, rfl, rfl⟩ := hcs
    exact ⟨[], rfl, Nat.le_refl _, by omega, by decide, fun h => absurd h (by omega)⟩
  · simp at hcs
    obtain ⟨rfl, rfl, rfl⟩ := hcs
    have one : ∀ i, i < n → ∃ p : Op08, (i = 0 → a = ⟨a.block, a.off, none⟩) ∧ a.block < w.heap.size ∧ Op08.At w a.block (a.off + i * 16) p := by
      intro i hi
      obtain ⟨m, cs', y, hlen, hcell, ht, hyb⟩ := hf i hi
      obtain ⟨p, rfl, vs, vl⟩ := op08_open hlen ht (Nat.le_trans hyb hsz)
      have k0 := hcell 0 _ rfl
      refine ⟨p, fun hi0 => ?_, ?_, ?_⟩
      · subst hi0; exact addrNone (by simpa using k0)
      · have := World.block_lt_of_cell? w _ k0
        rwa [block_add] at this
      · exact ⟨addAt (hcell 0 _ rfl), addAt (hcell 1 _ rfl), addAt (hcell 2 _ rfl), addAt (hcell 3 _ rfl), addAt (hcell 4 _ rfl), addAt (hcell 5 _ rfl), addAt (hcell 6 _ rfl), addAt (hcell 7 _ rfl), addAt (hcell 8 _ rfl), addAt (hcell 9 _ rfl), addAt (hcell 10 _ rfl), addAt (hcell 11 _ rfl), addAt (hcell 12 _ rfl), addAt (hcell 13 _ rfl), addAt (hcell 14 _ rfl), addAt (hcell 15 _ rfl), vs, vl⟩
    obtain ⟨F, hF⟩ := choose_lt one
    refine ⟨(List.range n).map F, by simp, hl, hbn, hm, fun hn => ⟨a.block, a.off, ?_, (hF 0 hn).2.1, ?_⟩⟩
    · exact congrArg some ((hF 0 hn).1 rfl)
    · intro i p hp
      rw [List.getElem?_map] at hp
      by_cases hi : i < n
      · rw [List.getElem?_range hi] at hp
        simp at hp
        subst hp
        exact (hF i hi).2.2
      · rw [List.getElem?_eq_none (by simp; omega)] at hp
        cases hp
end
end Go.Proofs.YtcoekpomiljofaaGreat
