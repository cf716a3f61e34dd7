/- A slice of quashlaw12.Seat that came in: what its elements hold, how it is opened. -/
import Derived.Test.YtnednminpmiojaaRows
import Derived.Test.YtnednminpmiojaaSigMeets
import Derived.WideKeyArr2
import Derived.Test.YtnednminpmiojaaOpen
namespace Go.Proofs.Ytnednminpmiojaa.bulks
theorem one_le {H : Type} (d : DataW H) : 1 ≤ Rows.uptoBulk d := by
  cases d with
  | lit l => cases l <;> simp [Rows.uptoBulk]
  | nil => simp [Rows.uptoBulk]
  | ptr d => simp [Rows.uptoBulk]
  | slice elems spare => simp [Rows.uptoBulk]
  | agg parts => simp [Rows.uptoBulk]
  | iface t d => simp [Rows.uptoBulk]
  | map entries => simp [Rows.uptoBulk]
  | held h => simp [Rows.uptoBulk]
theorem part_le {H : Type} {d : DataW H} {l : List (DataW H)} (h : d ∈ l) : Rows.uptoBulk d ≤ Rows.uptoBulkAll l := by
  induction l with
  | nil => cases h
  | cons x r ih =>
    simp only [Rows.uptoBulkAll]
    cases List.mem_cons.1 h with
    | inl e => subst e; omega
    | inr e => have := ih e; omega
theorem length_le {H : Type} (l : List (DataW H)) : l.length ≤ Rows.uptoBulkAll l := by
  induction l with
  | nil => simp [Rows.uptoBulkAll]
  | cons x r ih => have := one_le x; simp only [Rows.uptoBulkAll, List.length_cons]; omega
theorem slice_le {H : Type} (elems spare : List (DataW H)) : elems.length + spare.length + 1 ≤ Rows.uptoBulk (.slice elems spare) := by
  have h1 := length_le elems
  have h2 := length_le spare
  simp only [Rows.uptoBulk]
  omega
/-- A part of what is read, under the bound. -/
theorem small {H : Type} {l : List (DataW H)} (hk : Rows.uptoSmall H l = true) {d : DataW H} (h : d ∈ l) : Rows.uptoBulk d ≤ 1048576 := by
  have h1 : Rows.uptoBulkAll l ≤ 1048576 := of_decide_eq_true hk
  exact Nat.le_trans (part_le h) h1
end Go.Proofs.Ytnednminpmiojaa.bulks

namespace Go.Proofs.Ytnednminpmiojaa
open Go.RowKit Go.ChangeShapes Go.WideShapes
set_option linter.unusedVariables false
variable {H : Type} {enc : TypeId × Value → H} {P : Program} {w : World} {base : Nat} {spare : Nat → Bool} {held : Bool}
theorem trod_array2 {t e : TypeId} {fuel : Nat} {c0 c1 : Value} {x : DataW H × List MemPlace} (ht : P.underlying t = some (.array 2 e)) (hce : P.cellsOf e = 1)
    (h : DataW.trod enc P w base spare held fuel t [c0, c1] = some x) :
    ∃ y0 y1 n, x = (.agg [y0.1, y1.1], y0.2 ++ y1.2) ∧ DataW.trod enc P w base spare held n e [c0] = some y0 ∧ DataW.trod enc P w base spare held n e [c1] = some y1 := by
  cases fuel with
  | zero => simp [DataW.trod] at h
  | succ n =>
    unfold DataW.trod at h
    rw [ht] at h
    have r3 : List.range 2 = [0, 1] := rfl
    simp [r3, hce] at h
    obtain ⟨_, h⟩ := h
    cases h0 : DataW.trod enc P w base spare held n e [c0] with
    | none => simp [h0] at h
    | some y0 =>
      cases h1 : DataW.trod enc P w base spare held n e [c1] with
      | none => simp [h0, h1] at h
      | some y1 =>
        simp [h0, h1] at h
        exact ⟨y0, y1, n, h.symm, h0, h1⟩
set_option maxRecDepth 100000 in
theorem Try.arrSig : WideMaps.ArrKey Try.prog 57 55 2 := ⟨by kernel_rfl, by kernel_rfl, by kernel_rfl, by kernel_rfl⟩
theorem wf_u64 {a : Int} (h : (Lit.int IntKind.u64 a).wf = true) : ∃ n : Nat, a = n ∧ n < 18446744073709551616 := by
  have h2 : IntKind.u64.min ≤ a ∧ a ≤ IntKind.u64.max := by simpa [Lit.wf] using h
  have e1 : IntKind.u64.min = 0 := by decide
  have e2 : IntKind.u64.max = 18446744073709551615 := by decide
  rw [e1, e2] at h2
  exact ⟨a.toNat, by omega, by omega⟩
set_option maxRecDepth 100000 in
theorem sig_open {b0 : Nat} {v : Value} {d : DataW H} {p : List MemPlace} (hok : Value.okWide Try.prog w .any b0 57 v) (h : DataW.Trod enc Try.prog w base spare held 57 v d p) : ∃ s : Sg, v = .agg #[.int .u64 (s.a : Int), .int .u64 (s.b : Int)] ∧ s.ok := by
  obtain ⟨xs, rfl, hn⟩ := WideMaps.okWide_arr Try.arrSig hok
  obtain ⟨c0, c1, hx⟩ : ∃ c0 c1, xs.toList = [c0, c1] := by
    have : xs.toList.length = 2 := by simpa using hn
    match xs.toList, this with
    | [c0, c1], _ => exact ⟨c0, c1, rfl⟩
  have hx' : xs = #[c0, c1] := by cases xs; simp_all
  subst hx'
  obtain ⟨fuel, hf⟩ := h
  obtain ⟨y0, y1, n, _, h0, h1⟩ := trod_array2 Try.arrSig.hu Try.arrSig.one hf
  obtain ⟨a, ea, _, wa⟩ := DataW.trod_int Try.underlying55 h0
  obtain ⟨b, eb, _, wb⟩ := DataW.trod_int Try.underlying55 h1
  simp at ea eb
  obtain ⟨m, rfl, hm⟩ := wf_u64 wa
  obtain ⟨k, rfl, hk⟩ := wf_u64 wb
  exact ⟨⟨m, k⟩, by rw [ea, eb], hm, hk⟩
end Go.Proofs.Ytnednminpmiojaa

namespace Go.Proofs.Ytnednminpmiojaa
open Go.ChangeShapes Go.WideShapes Go.Deep Go.RowKit
set_option linter.unusedVariables false
section
variable {H : Type} {enc : TypeId × Value → H} {P : Program} {w : World} {base : Nat} {spare : Nat → Bool} {held : Bool}
/-- The elements of a slice. -/
theorem open_els {t e : TypeId} {fuel C : Nat} {cs : List Value} {x : DataW H × List MemPlace} (ht : P.underlying t = some (.slice e)) (hC : P.cellsOf e = C) (h : DataW.trod enc P w base spare held fuel t cs = some x) :
    cs = [.slice none 0 0] ∨
    ∃ (a : Addr) (len cap : Nat), cs = [.slice (some a) len cap] ∧ len ≤ cap ∧ cap ≤ maxLen ∧
      ∀ i, i < len → ∃ (n : Nat) (cs' : List Value) (y : DataW H × List MemPlace), cs'.length = C ∧ (∀ k v, cs'[k]? = some v → w.cell? (a.add (i * C + k)) = some v) ∧ DataW.trod enc P w base spare held n e cs' = some y := by
  rcases open_slice ht h with ⟨h0, _⟩ | ⟨a, len, cap, m, n, D, Pl, hcs, hb, hl, hm, hmm, hx, hi⟩
  · exact .inl h0
  · refine .inr ⟨a, len, cap, hcs, hl, hm, fun i hil => ?_⟩
    have him : i < m := by rw [hmm]; split <;> omega
    obtain ⟨cs', hc, ht'⟩ := hi i him
    rw [hC] at hc
    obtain ⟨_, hcl, hat⟩ := World.cells?_some hc
    refine ⟨n, cs', _, hcl, fun k v hk => ?_, ht'⟩
    rw [← Go.Deep.add_add]
    have hkl := (List.getElem?_eq_some_iff.1 hk).1
    exact (hat k (by omega)).trans hk
/-- A field of a struct. -/
theorem trod_field {t : TypeId} {fs : Array Field} {fuel : Nat} {cs : List Value} {x : DataW H × List MemPlace} (ht : P.underlying t = some (.struct fs)) (h : DataW.trod enc P w base spare held fuel t cs = some x)
    (j : Nat) (f : Field) (hj : fs[j]? = some f) (k : Nat) (hk : P.cellsOf f.type = k) (cs' : List Value) (hcs : (cs.drop f.offset).take k = cs') : ∃ n y, DataW.trod enc P w base spare held n f.type cs' = some y := by
  obtain ⟨ys, n', hn', hy, hlen, hyl, hf⟩ := DataW.trod_struct ht h
  have hjl : j < fs.size := (Array.getElem?_eq_some_iff.1 hj).1
  have h1 := hf j f hj
  rw [hk, hcs] at h1
  exact ⟨n', _, h1.trans (List.getElem?_eq_getElem (by omega))⟩
theorem addAt {w : World} {a : Addr} {k : Nat} {v : Value} (h : w.cell? (a.add k) = some v) : w.cell? ⟨a.block, a.off + k, none⟩ = some v := by
  have hs := World.cell?_spot h
  obtain ⟨b, o, s⟩ := a
  by_cases hk : k = 0
  · subst hk
    simp [Addr.add] at hs
    subst hs
    simpa [Addr.add] using h
  · simpa [Addr.add, hk] using h
theorem addrNone {w : World} {a : Addr} {v : Value} (h : w.cell? (a.add 0) = some v) : a = ⟨a.block, a.off, none⟩ := by
  have hs := World.cell?_spot h
  obtain ⟨b, o, s⟩ := a
  simp [Addr.add] at hs
  simp [hs]
end
theorem wf_u {a : Int} (h : (Lit.int IntKind.u64 a).wf = true) : 0 ≤ a ∧ a < 18446744073709551616 := by
  obtain ⟨n, rfl, hn⟩ := wf_u64 h
  omega
end Go.Proofs.Ytnednminpmiojaa

namespace Go.Proofs.Ytnednminpmiojaa
open Go.ChangeShapes Go.WideShapes Go.Deep Go.RowKit
set_option linter.unusedVariables false
structure ElSeat where
  state : Int
  stamp : Int
  thread : Int
  words : Sg
instance : Inhabited ElSeat := ⟨⟨0, 0, 0, ⟨0, 0⟩⟩⟩
def ElSeat.cells (p : ElSeat) : List Value := [.int .i64 p.state, .int .i64 p.stamp, .int .i64 p.thread, .int .u64 (p.words.a : Int), .int .u64 (p.words.b : Int)]
/-- The element in the block b from the offset o on. -/
structure ElSeat.At (w : World) (b o : Nat) (p : ElSeat) : Prop where
  c0 : w.cell? ⟨b, o, none⟩ = some (.int .i64 p.state)
  c1 : w.cell? ⟨b, o + 1, none⟩ = some (.int .i64 p.stamp)
  c2 : w.cell? ⟨b, o + 2, none⟩ = some (.int .i64 p.thread)
  c3 : w.cell? ⟨b, o + 3, none⟩ = some (.int .u64 (p.words.a : Int))
  c4 : w.cell? ⟨b, o + 4, none⟩ = some (.int .u64 (p.words.b : Int))
  w0 : (Lit.int IntKind.i64 p.state).wf = true
  w1 : (Lit.int IntKind.i64 p.stamp).wf = true
  w2 : (Lit.int IntKind.i64 p.thread).wf = true
  w3 : p.words.ok
/-- A slice of them. -/
def LstSeat (w : World) (A : Option Addr) (n cap : Nat) (l : List ElSeat) : Prop :=
  l.length = n ∧ n ≤ cap ∧ cap ≤ maxLen ∧ (0 < n → ∃ b off, A = some ⟨b, off, none⟩ ∧ b < w.heap.size ∧ ∀ i p, l[i]? = some p → ElSeat.At w b (off + i * 5) p)
theorem ElSeat.At.keeps {w w' : World} {b o : Nat} {p : ElSeat} (h : ElSeat.At w b o p) (hb : b < w.heap.size) (hk : Keeps [] w w') : ElSeat.At w' b o p := by
  have hc : ∀ o, w'.cell? ⟨b, o, none⟩ = w.cell? ⟨b, o, none⟩ := fun o => World.cell?_of_block (hk.block b hb (by simp))
  obtain ⟨h0, h1, h2, h3, h4, k0, k1, k2, k3⟩ := h
  exact ⟨(hc _).trans h0, (hc _).trans h1, (hc _).trans h2, (hc _).trans h3, (hc _).trans h4, k0, k1, k2, k3⟩
theorem LstSeat.at_ {w : World} {A : Option Addr} {n cap : Nat} {l : List ElSeat} (h : LstSeat w A n cap l) {k : Nat} (hk : k < n) :
    ∃ b off p, A = some ⟨b, off, none⟩ ∧ l[k]? = some p ∧ ∀ w', Keeps [] w w' → ElSeat.At w' b (off + k * 5) p := by
  obtain ⟨hl, _, _, h⟩ := h
  obtain ⟨b, off, hA, hb, hc⟩ := h (by omega)
  have hx : l[k]? = some (l[k]'(by omega)) := List.getElem?_eq_getElem (by omega)
  exact ⟨b, off, _, hA, hx, fun w' hw => (hc k _ hx).keeps hb hw⟩
section
variable {H : Type} {enc : TypeId × Value → H} {w : World} {base : Nat} {spare : Nat → Bool} {held : Bool}
theorem elSeat_open {n : Nat} {cs : List Value} {y : DataW H × List MemPlace} (hl : cs.length = 5) (h : DataW.trod enc Try.prog w base spare held n 146 cs = some y) : ∃ p : ElSeat, cs = p.cells ∧ (Lit.int IntKind.i64 p.state).wf = true ∧ (Lit.int IntKind.i64 p.stamp).wf = true ∧ (Lit.int IntKind.i64 p.thread).wf = true ∧ p.words.ok := by
  obtain ⟨c0, c1, c2, c3, c4, rfl⟩ : ∃ c0 c1 c2 c3 c4, cs = [c0, c1, c2, c3, c4] := by
    match cs, hl with
    | [c0, c1, c2, c3, c4], _ => exact ⟨_, _, _, _, _, rfl⟩
  obtain ⟨n0, y0, t0⟩ := trod_field Try.underlying146 h 0 _ rfl 1 (by kernel_rfl) [c0] rfl
  obtain ⟨x0, e0, _, q0⟩ := DataW.trod_int Try.underlying3 t0
  simp at e0
  obtain ⟨n1, y1, t1⟩ := trod_field Try.underlying146 h 1 _ rfl 1 (by kernel_rfl) [c1] rfl
  obtain ⟨x1, e1, _, q1⟩ := DataW.trod_int Try.underlying3 t1
  simp at e1
  obtain ⟨n2, y2, t2⟩ := trod_field Try.underlying146 h 2 _ rfl 1 (by kernel_rfl) [c2] rfl
  obtain ⟨x2, e2, _, q2⟩ := DataW.trod_int Try.underlying3 t2
  simp at e2
  obtain ⟨n3, y3, t3⟩ := trod_field Try.underlying146 h 3 _ rfl 2 (by kernel_rfl) [c3, c4] rfl
  obtain ⟨s3, u3, m3, _, p3, q3⟩ := trod_array2 Try.arrSig.hu Try.arrSig.one t3
  obtain ⟨x3, e3, _, wa3⟩ := DataW.trod_int Try.underlying55 p3
  obtain ⟨z3, g3, _, wb3⟩ := DataW.trod_int Try.underlying55 q3
  simp at e3 g3
  obtain ⟨a3, rfl, ha3⟩ := wf_u64 wa3
  obtain ⟨b3, rfl, hb3⟩ := wf_u64 wb3
  exact ⟨⟨x0, x1, x2, ⟨a3, b3⟩⟩, by rw [e0, e1, e2, e3, g3]; rfl, q0, q1, q2, ⟨ha3, hb3⟩⟩
theorem lstSeat_open {fuel : Nat} {A : Option Addr} {n cap : Nat} {x : DataW H × List MemPlace} (h : DataW.trod enc Try.prog w base spare held fuel 92 [.slice A n cap] = some x) : ∃ l, LstSeat w A n cap l := by
  rcases open_els Try.underlying92 (C := 5) (by kernel_rfl) h with hcs | ⟨a, len, c, hcs, hl, hm, hf⟩
  · simp at hcs
    obtain ⟨rfl, rfl, rfl⟩ := hcs
    exact ⟨[], rfl, Nat.le_refl _, by decide, fun h => absurd h (by omega)⟩
  · simp at hcs
    obtain ⟨rfl, rfl, rfl⟩ := hcs
    have one : ∀ i, i < n → ∃ p : ElSeat, (i = 0 → a = ⟨a.block, a.off, none⟩) ∧ a.block < w.heap.size ∧ ElSeat.At w a.block (a.off + i * 5) p := by
      intro i hi
      obtain ⟨m, cs', y, hlen, hcell, ht⟩ := hf i hi
      obtain ⟨p, rfl, v0, v1, v2, v3⟩ := elSeat_open hlen ht
      have k0 := hcell 0 _ rfl
      refine ⟨p, fun hi0 => ?_, ?_, ?_⟩
      · subst hi0; exact addrNone (by simpa using k0)
      · have := World.block_lt_of_cell? w _ k0
        rwa [block_add] at this
      · exact ⟨addAt (hcell 0 _ rfl), addAt (hcell 1 _ rfl), addAt (hcell 2 _ rfl), addAt (hcell 3 _ rfl), addAt (hcell 4 _ rfl), v0, v1, v2, v3⟩
    obtain ⟨F, hF⟩ := choose_lt one
    refine ⟨(List.range n).map F, by simp, hl, hm, fun hn => ⟨a.block, a.off, ?_, (hF 0 hn).2.1, ?_⟩⟩
    · exact congrArg some ((hF 0 hn).1 rfl)
    · intro i p hp
      rw [List.getElem?_map] at hp
      by_cases hi : i < n
      · rw [List.getElem?_range hi] at hp
        simp at hp
        subst hp
        exact (hF i hi).2.2
      · rw [List.getElem?_eq_none (by simp; omega)] at hp
        cases hp
end
end Go.Proofs.Ytnednminpmiojaa
