/- A slice of quashlaw11.Deed that came in: what its elements hold, how it is opened. -/
import Derived.Test.YtelljfhhjapgnaaOpenS
import Derived.Test.YtelljfhhjapgnaaSlc
namespace Go.Proofs.Ytelljfhhjapgnaa
open Go.ChangeShapes Go.WideShapes Go.Deep Go.RowKit
set_option linter.unusedVariables false
set_option linter.unusedSimpArgs false
structure ElDeed where
  tk : Bool
  gv : Bool
  A : Option Addr
  c : Nat
  xs : List Int
  x : Int
instance : Inhabited ElDeed := ⟨⟨false, false, none, 0, [], 0⟩⟩
/-- The element in the block b from the offset o on. -/
structure ElDeed.At (w : World) (b o : Nat) (p : ElDeed) : Prop where
  c0 : w.cell? ⟨b, o, none⟩ = some (.bool p.tk)
  c1 : w.cell? ⟨b, o + 1, none⟩ = some (.bool p.gv)
  c2 : w.cell? ⟨b, o + 2, none⟩ = some (.slice p.A p.xs.length p.c)
  c3 : w.cell? ⟨b, o + 3, none⟩ = some (.int .i64 p.x)
  sl : Slc w p.A p.xs
/-- A slice of them. -/
def LstDeed (w : World) (A : Option Addr) (n cap : Nat) (l : List ElDeed) : Prop :=
  l.length = n ∧ n ≤ cap ∧ n ≤ 1048576 ∧ cap ≤ maxLen ∧ (0 < n → ∃ b off, A = some ⟨b, off, none⟩ ∧ b < w.heap.size ∧ ∀ i p, l[i]? = some p → ElDeed.At w b (off + i * 4) p)
theorem ElDeed.At.keeps {w w' : World} {b o : Nat} {p : ElDeed} (h : ElDeed.At w b o p) (hb : b < w.heap.size) (hk : Keeps [] w w') : ElDeed.At w' b o p := by
  have hc : ∀ o, w'.cell? ⟨b, o, none⟩ = w.cell? ⟨b, o, none⟩ := fun o => World.cell?_of_block (hk.block b hb (by simp))
  exact ⟨(hc _).trans h.c0, (hc _).trans h.c1, (hc _).trans h.c2, (hc _).trans h.c3, h.sl.keeps hk⟩
theorem LstDeed.at_ {w : World} {A : Option Addr} {n cap : Nat} {l : List ElDeed} (h : LstDeed w A n cap l) {k : Nat} (hk : k < n) :
    ∃ b off p, A = some ⟨b, off, none⟩ ∧ l[k]? = some p ∧ ∀ w', Keeps [] w w' → ElDeed.At w' b (off + k * 4) p := by
  obtain ⟨hl, _, _, _, h⟩ := h
  obtain ⟨b, off, hA, hb, hc⟩ := h (by omega)
  have hx : l[k]? = some (l[k]'(by omega)) := List.getElem?_eq_getElem (by omega)
  exact ⟨b, off, _, hA, hx, fun w' hw => (hc k _ hx).keeps hb hw⟩
section
variable {H : Type} {enc : TypeId × Value → H} {w : World} {base : Nat} {spare : Nat → Bool} {held : Bool}
theorem elDeed_open {n : Nat} {cs : List Value} {y : DataW H × List MemPlace} (hl : cs.length = 4) (h : DataW.trod enc Try.prog w base spare held n 91 cs = some y) : ∃ p : ElDeed, cs[0]? = some (.bool p.tk) ∧ cs[1]? = some (.bool p.gv) ∧ cs[2]? = some (.slice p.A p.xs.length p.c) ∧ cs[3]? = some (.int .i64 p.x) ∧ Slc w p.A p.xs := by
  obtain ⟨c0, c1, c2, c3, rfl⟩ : ∃ c0 c1 c2 c3, cs = [c0, c1, c2, c3] := by
    match cs, hl with
    | [c0, c1, c2, c3], _ => exact ⟨_, _, _, _, rfl⟩
  obtain ⟨n0, y0, t0⟩ := trod_field Try.underlying91 h 0 _ rfl 1 (by kernel_rfl) [c0] rfl
  obtain ⟨x0, e0, _⟩ := DataW.trod_bool Try.underlying4 t0
  simp at e0
  obtain ⟨n1, y1, t1⟩ := trod_field Try.underlying91 h 1 _ rfl 1 (by kernel_rfl) [c1] rfl
  obtain ⟨x1, e1, _⟩ := DataW.trod_bool Try.underlying4 t1
  simp at e1
  obtain ⟨n2, y2, t2⟩ := trod_field Try.underlying91 h 2 _ rfl 1 (by kernel_rfl) [c2] rfl
  obtain ⟨n3, y3, t3⟩ := trod_field Try.underlying91 h 3 _ rfl 1 (by kernel_rfl) [c3] rfl
  obtain ⟨x3, e3, _⟩ := DataW.trod_int Try.underlying2 t3
  simp at e3
  obtain ⟨A, l, c, e2⟩ : ∃ A l c, c2 = .slice A l c := by
    rcases DataW.trod_slice Try.underlying23 t2 with ⟨hcs, _⟩ | ⟨a, l, c, _, _, _, _, hcs, _⟩
    · simp at hcs; exact ⟨_, _, _, hcs⟩
    · simp at hcs; exact ⟨_, _, _, hcs⟩
  subst e2
  obtain ⟨⟨xs, hxs⟩, _⟩ := ints_open Try.underlying23 Try.underlying3 (by kernel_rfl) t2
  have hsl := Slc.of_ints hxs
  obtain rfl := hxs.1
  exact ⟨⟨x0, x1, A, c, xs, x3⟩, by rw [e0]; rfl, by rw [e1]; rfl, rfl, by rw [e3]; rfl, hsl⟩
theorem lstDeed_open {fuel : Nat} {A : Option Addr} {n cap : Nat} {x : DataW H × List MemPlace} (h : DataW.trod enc Try.prog w base spare held fuel 87 [.slice A n cap] = some x) (hsz : Rows.uptoBulk x.1 ≤ 1048576) : ∃ l, LstDeed w A n cap l := by
  have hbn : n ≤ 1048576 := by
    rcases open_slice Try.underlying87 h with ⟨hcs, _⟩ | ⟨a, len, c, m, q, D, Pl, hcs, _, _, _, _, hx, _⟩
    · simp at hcs
      omega
    · simp at hcs
      obtain ⟨rfl, rfl, rfl⟩ := hcs
      rw [hx] at hsz
      have h1 := Nat.le_trans (bulks.slice_le ((List.range n).map D) ((List.range (m - n)).map fun j => D (n + j))) hsz
      simp only [List.length_map, List.length_range] at h1
      omega
  rcases open_els Try.underlying87 (C := 4) (by kernel_rfl) h with hcs | ⟨a, len, c, hcs, hl, hm, hf⟩
  · simp at hcs
    obtain ⟨rfl, rfl, rfl⟩ := hcs
    exact ⟨[], rfl, Nat.le_refl _, by omega, by decide, fun h => absurd h (by omega)⟩
  · simp at hcs
    obtain ⟨rfl, rfl, rfl⟩ := hcs
    have one : ∀ i, i < n → ∃ p : ElDeed, (i = 0 → a = ⟨a.block, a.off, none⟩) ∧ a.block < w.heap.size ∧ ElDeed.At w a.block (a.off + i * 4) p := by
      intro i hi
      obtain ⟨m, cs', y, hlen, hcell, ht⟩ := hf i hi
      obtain ⟨p, v0, v1, v2, v3, vs⟩ := elDeed_open hlen ht
      have k0 := hcell 0 _ v0
      refine ⟨p, fun hi0 => ?_, ?_, ?_⟩
      · subst hi0; exact addrNone (by simpa using k0)
      · have := World.block_lt_of_cell? w _ k0
        rwa [block_add] at this
      · exact ⟨addAt (hcell 0 _ v0), addAt (hcell 1 _ v1), addAt (hcell 2 _ v2), addAt (hcell 3 _ v3), vs⟩
    obtain ⟨F, hF⟩ := choose_lt one
    refine ⟨(List.range n).map F, by simp, hl, hbn, hm, fun hn => ⟨a.block, a.off, ?_, (hF 0 hn).2.1, ?_⟩⟩
    · exact congrArg some ((hF 0 hn).1 rfl)
    · intro i p hp
      rw [List.getElem?_map] at hp
      by_cases hi : i < n
      · rw [List.getElem?_range hi] at hp
        simp at hp
        subst hp
        exact (hF i hi).2.2
      · rw [List.getElem?_eq_none (by simp; omega)] at hp
        cases hp
end
end Go.Proofs.Ytelljfhhjapgnaa
