/- A slice of quashlaw13.Seat that came in: what its elements hold, how it is opened. -/
import Derived.Test.YtdhgiohjdhcedaaGreatOpenS
namespace Go.Proofs.YtdhgiohjdhcedaaGreat
open Go.ChangeShapes Go.WideShapes Go.Deep Go.RowKit
set_option linter.unusedVariables false
structure ElSea13 where
  live : Bool
  doomed : Bool
  stamp : Int
  words : Sg
instance : Inhabited ElSea13 := ⟨⟨false, false, 0, ⟨0, 0⟩⟩⟩
def ElSea13.cells (p : ElSea13) : List Value := [.bool p.live, .bool p.doomed, .int .i64 p.stamp, .int .u64 (p.words.a : Int), .int .u64 (p.words.b : Int)]
/-- The element in the block b from the offset o on. -/
structure ElSea13.At (w : World) (b o : Nat) (p : ElSea13) : Prop where
  c0 : w.cell? ⟨b, o, none⟩ = some (.bool p.live)
  c1 : w.cell? ⟨b, o + 1, none⟩ = some (.bool p.doomed)
  c2 : w.cell? ⟨b, o + 2, none⟩ = some (.int .i64 p.stamp)
  c3 : w.cell? ⟨b, o + 3, none⟩ = some (.int .u64 (p.words.a : Int))
  c4 : w.cell? ⟨b, o + 4, none⟩ = some (.int .u64 (p.words.b : Int))
  w0 : (Lit.int IntKind.i64 p.stamp).wf = true
  w1 : p.words.ok
/-- A slice of them. -/
def LstSea13 (w : World) (A : Option Addr) (n cap : Nat) (l : List ElSea13) : Prop :=
  l.length = n ∧ n ≤ cap ∧ cap ≤ maxLen ∧ (0 < n → ∃ b off, A = some ⟨b, off, none⟩ ∧ b < w.heap.size ∧ ∀ i p, l[i]? = some p → ElSea13.At w b (off + i * 5) p)
theorem ElSea13.At.keeps {w w' : World} {b o : Nat} {p : ElSea13} (h : ElSea13.At w b o p) (hb : b < w.heap.size) (hk : Keeps [] w w') : ElSea13.At w' b o p := by
  have hc : ∀ o, w'.cell? ⟨b, o, none⟩ = w.cell? ⟨b, o, none⟩ := fun o => World.cell?_of_block (hk.block b hb (by simp))
  obtain ⟨h0, h1, h2, h3, h4, k0, k1⟩ := h
  exact ⟨(hc _).trans h0, (hc _).trans h1, (hc _).trans h2, (hc _).trans h3, (hc _).trans h4, k0, k1⟩
theorem LstSea13.at_ {w : World} {A : Option Addr} {n cap : Nat} {l : List ElSea13} (h : LstSea13 w A n cap l) {k : Nat} (hk : k < n) :
    ∃ b off p, A = some ⟨b, off, none⟩ ∧ l[k]? = some p ∧ ∀ w', Keeps [] w w' → ElSea13.At w' b (off + k * 5) p := by
  obtain ⟨hl, _, _, h⟩ := h
  obtain ⟨b, off, hA, hb, hc⟩ := h (by omega)
  have hx : l[k]? = some (l[k]'(by omega)) := List.getElem?_eq_getElem (by omega)
  exact ⟨b, off, _, hA, hx, fun w' hw => (hc k _ hx).keeps hb hw⟩
section
variable {H : Type} {enc : TypeId × Value → H} {w : World} {base : Nat} {spare : Nat → Bool} {held : Bool}
theorem elSea13_open {n : Nat} {cs : List Value} {y : DataW H × List MemPlace} (hl : cs.length = 5) (h : DataW.trod enc Tryz.prog w base spare held n 79 cs = some y) : ∃ p : ElSea13, cs = p.cells ∧ (Lit.int IntKind.i64 p.stamp).wf = true ∧ p.words.ok := by
  obtain ⟨c0, c1, c2, c3, c4, rfl⟩ : ∃ c0 c1 c2 c3 c4, cs = [c0, c1, c2, c3, c4] := by
    match cs, hl with
    | [c0, c1, c2, c3, c4], _ => exact ⟨_, _, _, _, _, rfl⟩
  obtain ⟨n0, y0, t0⟩ := trod_field Tryz.underlying79 h 0 _ rfl 1 (by kernel_rfl) [c0] rfl
  obtain ⟨x0, e0, _⟩ := DataW.trod_bool Tryz.underlying4 t0
  simp at e0
  obtain ⟨n1, y1, t1⟩ := trod_field Tryz.underlying79 h 1 _ rfl 1 (by kernel_rfl) [c1] rfl
  obtain ⟨x1, e1, _⟩ := DataW.trod_bool Tryz.underlying4 t1
  simp at e1
  obtain ⟨n2, y2, t2⟩ := trod_field Tryz.underlying79 h 2 _ rfl 1 (by kernel_rfl) [c2] rfl
  obtain ⟨x2, e2, _, q2⟩ := DataW.trod_int Tryz.underlying3 t2
  simp at e2
  obtain ⟨n3, y3, t3⟩ := trod_field Tryz.underlying79 h 3 _ rfl 2 (by kernel_rfl) [c3, c4] rfl
  obtain ⟨s3, u3, m3, _, p3, q3⟩ := trod_array2 Tryz.arrSig.hu Tryz.arrSig.one t3
  obtain ⟨x3, e3, _, wa3⟩ := DataW.trod_int Tryz.underlying56 p3
  obtain ⟨z3, g3, _, wb3⟩ := DataW.trod_int Tryz.underlying56 q3
  simp at e3 g3
  obtain ⟨a3, rfl, ha3⟩ := wf_u64 wa3
  obtain ⟨b3, rfl, hb3⟩ := wf_u64 wb3
  exact ⟨⟨x0, x1, x2, ⟨a3, b3⟩⟩, by rw [e0, e1, e2, e3, g3]; rfl, q2, ⟨ha3, hb3⟩⟩
theorem lstSea13_open {fuel : Nat} {A : Option Addr} {n cap : Nat} {x : DataW H × List MemPlace} (h : DataW.trod enc Tryz.prog w base spare held fuel 63 [.slice A n cap] = some x) : ∃ l, LstSea13 w A n cap l := by
  rcases open_els Tryz.underlying63 (C := 5) (by kernel_rfl) h with hcs | ⟨a, len, c, hcs, hl, hm, hf⟩
  · simp at hcs
    obtain ⟨rfl, rfl, rfl⟩ := hcs
    exact ⟨[], rfl, Nat.le_refl _, by decide, fun h => absurd h (by omega)⟩
  · simp at hcs
    obtain ⟨rfl, rfl, rfl⟩ := hcs
    have one : ∀ i, i < n → ∃ p : ElSea13, (i = 0 → a = ⟨a.block, a.off, none⟩) ∧ a.block < w.heap.size ∧ ElSea13.At w a.block (a.off + i * 5) p := by
      intro i hi
      obtain ⟨m, cs', y, hlen, hcell, ht⟩ := hf i hi
      obtain ⟨p, rfl, v0, v1⟩ := elSea13_open hlen ht
      have k0 := hcell 0 _ rfl
      refine ⟨p, fun hi0 => ?_, ?_, ?_⟩
      · subst hi0; exact addrNone (by simpa using k0)
      · have := World.block_lt_of_cell? w _ k0
        rwa [block_add] at this
      · exact ⟨addAt (hcell 0 _ rfl), addAt (hcell 1 _ rfl), addAt (hcell 2 _ rfl), addAt (hcell 3 _ rfl), addAt (hcell 4 _ rfl), v0, v1⟩
    obtain ⟨F, hF⟩ := choose_lt one
    refine ⟨(List.range n).map F, by simp, hl, hm, fun hn => ⟨a.block, a.off, ?_, (hF 0 hn).2.1, ?_⟩⟩
    · exact congrArg some ((hF 0 hn).1 rfl)
    · intro i p hp
      rw [List.getElem?_map] at hp
      by_cases hi : i < n
      · rw [List.getElem?_range hi] at hp
        simp at hp
        subst hp
        exact (hF i hi).2.2
      · rw [List.getElem?_eq_none (by simp; omega)] at hp
        cases hp
end
end Go.Proofs.YtdhgiohjdhcedaaGreat
