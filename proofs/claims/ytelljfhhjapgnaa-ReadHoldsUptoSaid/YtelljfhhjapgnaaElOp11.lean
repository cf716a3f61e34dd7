/- A slice of quashlaw11.Op that came in (kinds and places alone): what its elements hold, how it is opened. -/
import Derived.Test.YtelljfhhjapgnaaOpenS
namespace Go.Proofs.Ytelljfhhjapgnaa
open Go.ChangeShapes Go.WideShapes Go.Deep Go.RowKit
set_option linter.unusedVariables false
structure ElOp where
  kind : Int
  i : Int
instance : Inhabited ElOp := ⟨⟨0, 0⟩⟩
/-- The element in the block b from the offset o on. -/
structure ElOp.At (w : World) (b o : Nat) (p : ElOp) : Prop where
  c0 : w.cell? ⟨b, o, none⟩ = some (.int .i64 p.kind)
  c2 : w.cell? ⟨b, o + 2, none⟩ = some (.int .i64 p.i)
/-- A slice of them. -/
def LstOp (w : World) (A : Option Addr) (n cap : Nat) (l : List ElOp) : Prop :=
  l.length = n ∧ n ≤ cap ∧ n ≤ 1048576 ∧ cap ≤ maxLen ∧ (0 < n → ∃ b off, A = some ⟨b, off, none⟩ ∧ b < w.heap.size ∧ ∀ i p, l[i]? = some p → ElOp.At w b (off + i * 10) p)
theorem ElOp.At.keeps {w w' : World} {b o : Nat} {p : ElOp} (h : ElOp.At w b o p) (hb : b < w.heap.size) (hk : Keeps [] w w') : ElOp.At w' b o p := by
  have hc : ∀ o, w'.cell? ⟨b, o, none⟩ = w.cell? ⟨b, o, none⟩ := fun o => World.cell?_of_block (hk.block b hb (by simp))
  exact ⟨(hc _).trans h.c0, (hc _).trans h.c2⟩
theorem LstOp.at_ {w : World} {A : Option Addr} {n cap : Nat} {l : List ElOp} (h : LstOp w A n cap l) {k : Nat} (hk : k < n) :
    ∃ b off p, A = some ⟨b, off, none⟩ ∧ l[k]? = some p ∧ ∀ w', Keeps [] w w' → ElOp.At w' b (off + k * 10) p := by
  obtain ⟨hl, _, _, _, h⟩ := h
  obtain ⟨b, off, hA, hb, hc⟩ := h (by omega)
  have hx : l[k]? = some (l[k]'(by omega)) := List.getElem?_eq_getElem (by omega)
  exact ⟨b, off, _, hA, hx, fun w' hw => (hc k _ hx).keeps hb hw⟩
section
variable {H : Type} {enc : TypeId × Value → H} {w : World} {base : Nat} {spare : Nat → Bool} {held : Bool}
theorem elOp_open {n : Nat} {cs : List Value} {y : DataW H × List MemPlace} (hl : cs.length = 10) (h : DataW.trod enc Try.prog w base spare held n 66 cs = some y) : ∃ p : ElOp, cs[0]? = some (.int .i64 p.kind) ∧ cs[2]? = some (.int .i64 p.i) := by
  obtain ⟨c0, c1, c2, c3, c4, c5, c6, c7, c8, c9, rfl⟩ : ∃ c0 c1 c2 c3 c4 c5 c6 c7 c8 c9, cs = [c0, c1, c2, c3, c4, c5, c6, c7, c8, c9] := by
    match cs, hl with
    | [c0, c1, c2, c3, c4, c5, c6, c7, c8, c9], _ => exact ⟨_, _, _, _, _, _, _, _, _, _, rfl⟩
  obtain ⟨n0, y0, t0⟩ := trod_field Try.underlying66 h 0 _ rfl 1 (by kernel_rfl) [c0] rfl
  obtain ⟨x0, e0, _⟩ := DataW.trod_int Try.underlying3 t0
  simp at e0
  obtain ⟨n2, y2, t2⟩ := trod_field Try.underlying66 h 2 _ rfl 1 (by kernel_rfl) [c2] rfl
  obtain ⟨x2, e2, _⟩ := DataW.trod_int Try.underlying3 t2
  simp at e2
  exact ⟨⟨x0, x2⟩, by rw [e0]; rfl, by rw [e2]; rfl⟩
theorem lstOp_open {fuel : Nat} {A : Option Addr} {n cap : Nat} {x : DataW H × List MemPlace} (h : DataW.trod enc Try.prog w base spare held fuel 64 [.slice A n cap] = some x) (hsz : Rows.uptoBulk x.1 ≤ 1048576) : ∃ l, LstOp w A n cap l := by
  have hbn : n ≤ 1048576 := by
    rcases open_slice Try.underlying64 h with ⟨hcs, _⟩ | ⟨a, len, c, m, q, D, Pl, hcs, _, _, _, _, hx, _⟩
    · simp at hcs
      omega
    · simp at hcs
      obtain ⟨rfl, rfl, rfl⟩ := hcs
      rw [hx] at hsz
      have h1 := Nat.le_trans (bulks.slice_le ((List.range n).map D) ((List.range (m - n)).map fun j => D (n + j))) hsz
      simp only [List.length_map, List.length_range] at h1
      omega
  rcases open_els Try.underlying64 (C := 10) (by kernel_rfl) h with hcs | ⟨a, len, c, hcs, hl, hm, hf⟩
  · simp at hcs
    obtain ⟨rfl, rfl, rfl⟩ := hcs
    exact ⟨[], rfl, Nat.le_refl _, by omega, by decide, fun h => absurd h (by omega)⟩
  · simp at hcs
    obtain ⟨rfl, rfl, rfl⟩ := hcs
    have one : ∀ i, i < n → ∃ p : ElOp, (i = 0 → a = ⟨a.block, a.off, none⟩) ∧ a.block < w.heap.size ∧ ElOp.At w a.block (a.off + i * 10) p := by
      intro i hi
      obtain ⟨m, cs', y, hlen, hcell, ht⟩ := hf i hi
      obtain ⟨p, v0, v2⟩ := elOp_open hlen ht
      have k0 := hcell 0 _ v0
      refine ⟨p, fun hi0 => ?_, ?_, ?_⟩
      · subst hi0; exact addrNone (by simpa using k0)
      · have := World.block_lt_of_cell? w _ k0
        rwa [block_add] at this
      · exact ⟨addAt (hcell 0 _ v0), addAt (hcell 2 _ v2)⟩
    obtain ⟨F, hF⟩ := choose_lt one
    refine ⟨(List.range n).map F, by simp, hl, hbn, hm, fun hn => ⟨a.block, a.off, ?_, (hF 0 hn).2.1, ?_⟩⟩
    · exact congrArg some ((hF 0 hn).1 rfl)
    · intro i p hp
      rw [List.getElem?_map] at hp
      by_cases hi : i < n
      · rw [List.getElem?_range hi] at hp
        simp at hp
        subst hp
        exact (hF i hi).2.2
      · rw [List.getElem?_eq_none (by simp; omega)] at hp
        cases hp
end
end Go.Proofs.Ytelljfhhjapgnaa
