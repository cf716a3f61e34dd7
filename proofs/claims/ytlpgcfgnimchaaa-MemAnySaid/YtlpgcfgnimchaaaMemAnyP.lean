/- MemAny's parts: strings that came in, the array of things, the row's calls at a nil meter. -/
import Derived.Test.YtlpgcfgnimchaaaRowST
import Derived.Test.YtlpgcfgnimchaaaSlc
import Derived.Deep.Strs
namespace Go.Proofs.Ytlpgcfgnimchaaa
open Go.RowKit
set_option linter.unusedVariables false
theorem i64_and31 (n : Int) : bits .and .i64 n 31 = n % 32 := by
  have hm : (BitVec.ofInt 64 31).toNat = 2 ^ 5 - 1 := by decide
  have key : (BitVec.ofInt 64 n &&& BitVec.ofInt 64 31).toNat = (n % ((2 ^ 64 : Nat) : Int)).toNat % 2 ^ 5 := by
    rw [BitVec.toNat_and, BitVec.toNat_ofInt, hm, Nat.and_two_pow_sub_one_eq_mod]
  show IntKind.i64.wrap ((BitVec.ofInt 64 n &&& BitVec.ofInt 64 31).toNat : Nat) = n % 32
  rw [key, IntKind.wrap_i64]
  omega
/-- A slice whose first cells are the strings ys. -/
def SlcS (w : World) (A : Option Addr) (ys : List ByteArray) : Prop :=
  ys.length ≤ maxLen ∧ (ys = [] ∨ ∃ b off, A = some ⟨b, off, none⟩ ∧ b < w.heap.size ∧ ∀ k x, ys[k]? = some x → w.cell? ⟨b, off + k, none⟩ = some (.string x))
theorem strs_open {H : Type} {enc : TypeId × Value → H} {P : Program} {w : World} {base : Nat} {spare : Nat → Bool} {held : Bool} {t e : TypeId} {fuel : Nat} {A : Option Addr} {n c : Nat} {x : DataW H × List MemPlace} (ht : P.underlying t = some (.slice e)) (he : P.underlying e = some .string) (hc : P.cellsOf e = 1)
    (h : DataW.trod enc P w base spare held fuel t [.slice A n c] = some x) : ∃ ys, ys.length = n ∧ SlcS w A ys := by
  rcases Deep.open_strs ht he hc h with ⟨hcs, _⟩ | ⟨a, len, cap, m, Sx, hcs, _, hl, hm, hmm, _, hcell⟩
  · simp at hcs
    obtain ⟨rfl, rfl, rfl⟩ := hcs
    exact ⟨[], rfl, by simp, .inl rfl⟩
  · simp at hcs
    obtain ⟨rfl, rfl, rfl⟩ := hcs
    have hlm : n ≤ m := by rw [hmm]; split <;> omega
    refine ⟨(List.range n).map Sx, by simp, by simp; omega, ?_⟩
    by_cases hn : n = 0
    · subst hn; exact .inl rfl
    · have hx : ∀ k, k < n → w.cell? (a.add k) = some (.string (Sx k)) := fun k hk => (hcell k (by omega)).1
      have hs := World.cell?_spot (hx 0 (by omega))
      have hlt := World.block_lt_of_cell? w _ (hx 0 (by omega))
      obtain ⟨b, off, sp⟩ := a
      simp [Addr.add] at hs hlt
      subst hs
      refine .inr ⟨b, off, rfl, hlt, fun k x hk => ?_⟩
      have hkn : k < n := by have := (List.getElem?_eq_some_iff.1 hk).1; simpa using this
      rw [List.getElem?_map, List.getElem?_range hkn] at hk
      simp at hk
      subst hk
      have := hx k hkn
      have e : (⟨b, off, none⟩ : Addr).add k = ⟨b, off + k, none⟩ := by unfold Addr.add; split <;> simp_all
      rwa [e] at this
/-- The array of things in block z. -/
def TArr (w : World) (z : Nat) (L : List Th) : Prop := Blk w z 32 (L.flatMap RowS.cells).toArray
theorem TArr.cells {w : World} {z : Nat} {L : List Th} (h : TArr w z L) {k : Nat} {x : Th} (hx : L[k]? = some x) : w.cell? ⟨z, k * 3, none⟩ = some (.string x.s) ∧ w.cell? ⟨z, k * 3 + 1, none⟩ = some (.int .i64 x.a) ∧ w.cell? ⟨z, k * 3 + 2, none⟩ = some (.int .i64 x.b) := by
  have hc := fun j u (hu : (RowS.cells x)[j]? = some u) => (Blk.cell h (k * 3 + j)).trans (by simpa using RowS.cells_get L k x hx j u hu)
  exact ⟨hc 0 _ rfl, hc 1 _ rfl, hc 2 _ rfl⟩
theorem TArr.put {w : World} {z : Nat} {L : List Th} (h : TArr w z L) (k : Nat) (x : Th) : TArr (((w.setCell ⟨z, k * 3, none⟩ (.string x.s)).setCell ⟨z, k * 3 + 1, none⟩ (.int .i64 x.a)).setCell ⟨z, k * 3 + 2, none⟩ (.int .i64 x.b)) z (L.set k x) := by
  have e : ((((L.flatMap RowS.cells).toArray.setIfInBounds (k * 3) (.string x.s)).setIfInBounds (k * 3 + 1) (.int .i64 x.a)).setIfInBounds (k * 3 + 2) (.int .i64 x.b)) = ((L.set k x).flatMap RowS.cells).toArray := by
    rw [← RowS.cells_set]; simp
  refine (congrArg (Blk _ z 32) e).mp ?_
  exact ((Blk.set_ h (k * 3) (.string x.s)).set_ (k * 3 + 1) (.int .i64 x.a)).set_ (k * 3 + 2) (.int .i64 x.b)
/-- A row of a nil meter and the array, made since w0. -/
structure AI (w0 w : World) (r b z : Nat) (l L : List Th) : Prop where
  row : RowS.At RowS.R w r b 0 none l
  arr : TArr w z L
  keep : Keeps [] w0 w
  lob : w0.heap.size ≤ b
  loz : w0.heap.size ≤ z
  len : L.length = 32
  same : ∀ (j : Nat) (x : Th), l[j]? = some x → L[j]? = some x
section
variable {w0 w w' : World} {r b z : Nat} {l l' L : List Th} {k : Nat} {x y : Th}
theorem AI.calm (h : AI w0 w r b z l L) (hk : Keeps [] w w') : AI w0 w' r b z l L := ⟨h.row.keeps hk (by simp) (by simp), Blk.keeps h.arr hk (by simp), h.keep.trans hk (by simp), h.lob, h.loz, h.len, h.same⟩
theorem AI.zb (h : AI w0 w r b z l L) : z ≠ b ∧ z ≠ r := ⟨Blk.ne_ h.arr h.row.row (by decide), Blk.ne_ h.arr h.row.blk (by decide)⟩
theorem room_n : Room none MS.zero := fun h => absurd rfl h
theorem met_n (w : World) : MetAt MT w none 0 MS.zero := trivial
/-- What the row's call leaves. -/
theorem AI.left (h : AI w0 w r b z l L) {s : MS} (hl : RowS.Left RowS.R MT r b 0 none l' 0 s w w') : RowS.At RowS.R w' r b 0 none l' ∧ TArr w' z L ∧ Keeps [b] w w' ∧ Keeps [] w0 w' := by
  obtain ⟨h1, _, _, h2, _⟩ := hl
  have h3 : Keeps [b] w w' := h2.mono (by simp [foot])
  exact ⟨h1, Blk.keeps h.arr h3 (by simpa using h.zb.1), h3, h.keep.trans h3 (fun q hq => by simp at hq; subst hq; exact .inr h.lob)⟩
/-- A thing put into the row, then into the array. -/
theorem AI.put {w5 : World} (h : AI w0 w r b z l L) {p : Nat} (h1 : RowS.At RowS.R w5 r b 0 none (l.set p y)) (h2 : TArr w5 z L) (h3 : Keeps [] w0 w5) : AI w0 (((w5.setCell ⟨z, p * 3, none⟩ (.string y.s)).setCell ⟨z, p * 3 + 1, none⟩ (.int .i64 y.a)).setCell ⟨z, p * 3 + 2, none⟩ (.int .i64 y.b)) r b z (l.set p y) (L.set p y) := by
  have k : Keeps [z] w5 (((w5.setCell ⟨z, p * 3, none⟩ (.string y.s)).setCell ⟨z, p * 3 + 1, none⟩ (.int .i64 y.a)).setCell ⟨z, p * 3 + 2, none⟩ (.int .i64 y.b)) := (((Keeps.refl _ _).setCell (.inl (by simp)) _).setCell (.inl (by simp)) _).setCell (.inl (by simp)) _
  have hz := h.zb
  refine ⟨h1.keeps k (by simpa using hz.2.symm) (by simpa using hz.1.symm), h2.put p y, h3.trans k (fun q hq => by simp at hq; subst hq; exact .inr h.loz), h.lob, h.loz, by simpa using h.len, fun j x hx => ?_⟩
  rw [List.getElem?_set] at hx ⊢
  by_cases e : p = j
  · subst e
    rw [if_pos rfl] at hx ⊢
    split at hx
    · rename_i hlt
      rw [if_pos (by have h4 : l[p]? = some l[p] := List.getElem?_eq_getElem hlt; exact (List.getElem?_eq_some_iff.1 (h.same p _ h4)).1)]
      exact hx
    · cases hx
  · rw [if_neg e] at hx ⊢
    exact h.same j x hx
end
end Go.Proofs.Ytlpgcfgnimchaaa
