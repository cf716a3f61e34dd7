/- A slice of quashlaw13.Move that came in: what its elements hold, how it is opened. -/
import Derived.Test.YtcoekpomiljofaaGreatOpenS
namespace Go.Proofs.YtcoekpomiljofaaGreat
open Go.ChangeShapes Go.WideShapes Go.Deep Go.RowKit
set_option linter.unusedVariables false
structure ElMov13 where
  go : Bool
  kind : Int
  slot : Int
  x : Int
instance : Inhabited ElMov13 := ⟨⟨false, 0, 0, 0⟩⟩
def ElMov13.cells (p : ElMov13) : List Value := [.bool p.go, .int .i64 p.kind, .int .i64 p.slot, .int .u64 p.x]
/-- The element in the block b from the offset o on. -/
structure ElMov13.At (w : World) (b o : Nat) (p : ElMov13) : Prop where
  c0 : w.cell? ⟨b, o, none⟩ = some (.bool p.go)
  c1 : w.cell? ⟨b, o + 1, none⟩ = some (.int .i64 p.kind)
  c2 : w.cell? ⟨b, o + 2, none⟩ = some (.int .i64 p.slot)
  c3 : w.cell? ⟨b, o + 3, none⟩ = some (.int .u64 p.x)
  w0 : (Lit.int IntKind.i64 p.kind).wf = true
  w1 : (Lit.int IntKind.i64 p.slot).wf = true
  w2 : (Lit.int IntKind.u64 p.x).wf = true
/-- A slice of them. -/
def LstMov13 (w : World) (A : Option Addr) (n cap : Nat) (l : List ElMov13) : Prop :=
  l.length = n ∧ n ≤ cap ∧ n ≤ 1048576 ∧ cap ≤ maxLen ∧ (0 < n → ∃ b off, A = some ⟨b, off, none⟩ ∧ b < w.heap.size ∧ ∀ i p, l[i]? = some p → ElMov13.At w b (off + i * 4) p)
theorem ElMov13.At.keeps {w w' : World} {b o : Nat} {p : ElMov13} (h : ElMov13.At w b o p) (hb : b < w.heap.size) (hk : Keeps [] w w') : ElMov13.At w' b o p := by
  have hc : ∀ o, w'.cell? ⟨b, o, none⟩ = w.cell? ⟨b, o, none⟩ := fun o => World.cell?_of_block (hk.block b hb (by simp))
  obtain ⟨h0, h1, h2, h3, k0, k1, k2⟩ := h
  exact ⟨(hc _).trans h0, (hc _).trans h1, (hc _).trans h2, (hc _).trans h3, k0, k1, k2⟩
theorem LstMov13.at_ {w : World} {A : Option Addr} {n cap : Nat} {l : List ElMov13} (h : LstMov13 w A n cap l) {k : Nat} (hk : k < n) :
    ∃ b off p, A = some ⟨b, off, none⟩ ∧ l[k]? = some p ∧ ∀ w', Keeps [] w w' → ElMov13.At w' b (off + k * 4) p := by
  obtain ⟨hl, _, _, _, h⟩ := h
  obtain ⟨b, off, hA, hb, hc⟩ := h (by omega)
  have hx : l[k]? = some (l[k]'(by omega)) := List.getElem?_eq_getElem (by omega)
  exact ⟨b, off, _, hA, hx, fun w' hw => (hc k _ hx).keeps hb hw⟩
section
variable {H : Type} {enc : TypeId × Value → H} {w : World} {base : Nat} {spare : Nat → Bool} {held : Bool}
theorem elMov13_open {n : Nat} {cs : List Value} {y : DataW H × List MemPlace} (hl : cs.length = 4) (h : DataW.trod enc Tryz.prog w base spare held n 78 cs = some y) : ∃ p : ElMov13, cs = p.cells ∧ (Lit.int IntKind.i64 p.kind).wf = true ∧ (Lit.int IntKind.i64 p.slot).wf = true ∧ (Lit.int IntKind.u64 p.x).wf = true := by
  obtain ⟨c0, c1, c2, c3, rfl⟩ : ∃ c0 c1 c2 c3, cs = [c0, c1, c2, c3] := by
    match cs, hl with
    | [c0, c1, c2, c3], _ => exact ⟨_, _, _, _, rfl⟩
  obtain ⟨n0, y0, t0⟩ := trod_field Tryz.underlying78 h 0 _ rfl 1 (by kernel_rfl) [c0] rfl
  obtain ⟨x0, e0, _⟩ := DataW.trod_bool Tryz.underlying4 t0
  simp at e0
  obtain ⟨n1, y1, t1⟩ := trod_field Tryz.underlying78 h 1 _ rfl 1 (by kernel_rfl) [c1] rfl
  obtain ⟨x1, e1, _, q1⟩ := DataW.trod_int Tryz.underlying3 t1
  simp at e1
  obtain ⟨n2, y2, t2⟩ := trod_field Tryz.underlying78 h 2 _ rfl 1 (by kernel_rfl) [c2] rfl
  obtain ⟨x2, e2, _, q2⟩ := DataW.trod_int Tryz.underlying3 t2
  simp at e2
  obtain ⟨n3, y3, t3⟩ := trod_field Tryz.underlying78 h 3 _ rfl 1 (by kernel_rfl) [c3] rfl
  obtain ⟨x3, e3, _, q3⟩ := DataW.trod_int Tryz.underlying76 t3
  simp at e3
  exact ⟨⟨x0, x1, x2, x3⟩, by rw [e0, e1, e2, e3]; rfl, q1, q2, q3⟩
theorem lstMov13_open {fuel : Nat} {A : Option Addr} {n cap : Nat} {x : DataW H × List MemPlace} (h : DataW.trod enc Tryz.prog w base spare held fuel 66 [.slice A n cap] = some x) (hsz : Rows.uptoBulk x.1 ≤ 1048576) : ∃ l, LstMov13 w A n cap l := by
  have hbn : n ≤ 1048576 := by
    rcases open_slice Tryz.underlying66 h with ⟨hcs, _⟩ | ⟨a, len, c, m, q, D, Pl, hcs, _, _, _, _, hx, _⟩
    · simp at hcs
      omega
    · simp at hcs
      obtain ⟨rfl, rfl, rfl⟩ := hcs
      rw [hx] at hsz
      have h1 := Nat.le_trans (bulks.slice_le ((List.range n).map D) ((List.range (m - n)).map fun j => D (n + j))) hsz
      simp only [List.length_map, List.length_range] at h1
      omega
  rcases open_els Tryz.underlying66 (C := 4) (by kernel_rfl) h with hcs | ⟨a, len, c, hcs, hl, hm, hf⟩
  · simp at hcs
    obtain ⟨rfl, rfl, rfl⟩ := hcs
    exact ⟨[], rfl, Nat.le_refl _, by omega, by decide, fun h => absurd h (by omega)⟩
  · simp at hcs
    obtain ⟨rfl, rfl, rfl⟩ := hcs
    have one : ∀ i, i < n → ∃ p : ElMov13, (i = 0 → a = ⟨a.block, a.off, none⟩) ∧ a.block < w.heap.size ∧ ElMov13.At w a.block (a.off + i * 4) p := by
      intro i hi
      obtain ⟨m, cs', y, hlen, hcell, ht⟩ := hf i hi
      obtain ⟨p, rfl, v0, v1, v2⟩ := elMov13_open hlen ht
      have k0 := hcell 0 _ rfl
      refine ⟨p, fun hi0 => ?_, ?_, ?_⟩
      · subst hi0; exact addrNone (by simpa using k0)
      · have := World.block_lt_of_cell? w _ k0
        rwa [block_add] at this
      · exact ⟨addAt (hcell 0 _ rfl), addAt (hcell 1 _ rfl), addAt (hcell 2 _ rfl), addAt (hcell 3 _ rfl), v0, v1, v2⟩
    obtain ⟨F, hF⟩ := choose_lt one
    refine ⟨(List.range n).map F, by simp, hl, hbn, hm, fun hn => ⟨a.block, a.off, ?_, (hF 0 hn).2.1, ?_⟩⟩
    · exact congrArg some ((hF 0 hn).1 rfl)
    · intro i p hp
      rw [List.getElem?_map] at hp
      by_cases hi : i < n
      · rw [List.getElem?_range hi] at hp
        simp at hp
        subst hp
        exact (hF i hi).2.2
      · rw [List.getElem?_eq_none (by simp; omega)] at hp
        cases hp
end
end Go.Proofs.YtcoekpomiljofaaGreat
