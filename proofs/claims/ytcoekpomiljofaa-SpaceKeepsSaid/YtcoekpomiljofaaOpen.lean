/- Arguments opened: a slice of structs of one-cell fields, cell by cell. -/
import Derived.Test.YtcoekpomiljofaaMake
import Derived.ProofKit
import Derived.Deep.Slices
import Derived.Deep.Fields
import Derived.ChangeSame
import Derived.SizedLaws
namespace Go.Proofs.Ytcoekpomiljofaa
open Go.ChangeShapes Go.WideShapes Go.Deep Go.RowKit
set_option linter.unusedVariables false

section
variable {H : Type} {enc : TypeId × Value → H} {P : Program} {w : World} {base : Nat} {spare : Nat → Bool} {held : Bool}
theorem weights_mem_all {P : Program} {e : TypeId} : ∀ {l : List (DataW H)} {d : DataW H}, d ∈ l → ∀ q ∈ d.weights P e, q ∈ DataW.weightsAll P e l
  | x :: r, d, h, q, hq => by
    simp only [DataW.weightsAll, List.mem_append]
    rcases List.mem_cons.1 h with h | h
    · subst h; exact .inl hq
    · exact .inr (weights_mem_all h q hq)
  | [], _, h, _, _ => by cases h

/-- Each field of each element has its cell, and reads as data of its type; how much memory it leads to is reckoned in the whole's. -/
theorem open_rows {t e : TypeId} {fs : Array Field} {fuel : Nat} {cs : List Value} {x : DataW H × List MemPlace} (ht : P.underlying t = some (.slice e)) (he : P.underlying e = some (.struct fs))
    (hone : oneCellFields P fs = true) (hC : P.cellsOf e = fs.size) (h : DataW.trod enc P w base spare held fuel t cs = some x) :
    cs = [.slice none 0 0] ∨
    ∃ (a : Addr) (len cap : Nat), cs = [.slice (some a) len cap] ∧ len ≤ cap ∧ cap ≤ maxLen ∧ (∃ r, (len + r) * P.bytesOf e ∈ x.1.weights P t) ∧
      ∀ i, i < len → ∃ n : Nat, ∀ (j : Nat) (f : Field), fs[j]? = some f → ∃ (v : Value) (y : DataW H × List MemPlace), w.cell? (a.add (i * fs.size + j)) = some v ∧ DataW.trod enc P w base spare held n f.type [v] = some y ∧
        ∀ q ∈ y.1.weights P f.type, q ∈ x.1.weights P t := by
  rcases open_slice ht h with ⟨h0, _⟩ | ⟨a, len, cap, m, n, D, Pl, hcs, hb, hl, hm, hmm, hx, hi⟩
  · exact .inl h0
  · refine .inr ⟨a, len, cap, hcs, hl, hm, ⟨m - len, ?_⟩, fun i hil => ?_⟩
    · rw [hx]
      simp [DataW.weights, ht]
    have him : i < m := by rw [hmm]; split <;> omega
    obtain ⟨cs', hc, ht'⟩ := hi i him
    rw [hC] at hc
    obtain ⟨ys, n', hn', hy, hlen, hyl, hf⟩ := DataW.trod_struct he ht'
    obtain ⟨_, hcl, hat⟩ := World.cells?_some hc
    refine ⟨n', fun j f hj => ?_⟩
    obtain ⟨ho, hk⟩ := hone_of hone j f hj
    have hjl : j < fs.size := (Array.getElem?_eq_some_iff.1 hj).1
    have hjc : j < cs'.length := by omega
    have h1 := hf j f hj
    rw [ho, hk, List.drop_eq_getElem_cons hjc] at h1
    have hys : ys[j]? = some (ys[j]'(by omega)) := List.getElem?_eq_getElem (by omega)
    refine ⟨cs'[j], _, ?_, (show DataW.trod enc P w base spare held n' f.type [cs'[j]] = ys[j]? from h1).trans hys, ?_⟩
    · rw [← Go.Deep.add_add]
      exact (hat j hjl).trans (List.getElem?_eq_getElem hjc)
    · intro q hq
      have hD : D i = .agg (ys.map (·.1)) := by simpa using congrArg Prod.fst hy
      have hw : q ∈ (D i).weights P e := by
        rw [hD]
        simp only [DataW.weights, he]
        exact DataW.weights_mem_each (j := j) (t := f.type) (by rw [List.getElem?_map, Array.getElem?_toList, hj]; rfl) (by rw [List.getElem?_map, hys]; rfl) q hq
      rw [hx]
      simp only [DataW.weights, ht, List.mem_cons, List.mem_append]
      exact .inr (.inl (weights_mem_all (List.mem_map.2 ⟨i, List.mem_range.2 hil, rfl⟩) q hw))
end

/-- A slice of int64 or int that came in: its elements xs. -/
def Ints (k : IntKind) (w : World) (A : Option Addr) (n cap : Nat) (xs : List Int) : Prop :=
  xs.length = n ∧ n ≤ cap ∧ cap ≤ maxLen ∧ (∀ x ∈ xs, (Lit.int k x).wf = true) ∧ (0 < n → ∃ ad, A = some ad ∧ ad.block < w.heap.size ∧ ∀ j v, (xs.map (Value.int k))[j]? = some v → w.cell? (ad.add j) = some v)

theorem block_add (a : Addr) (n : Nat) : (a.add n).block = a.block := by unfold Addr.add; split <;> rfl
theorem Ints.below {k : IntKind} {w w' : World} {A : Option Addr} {n cap : Nat} {xs : List Int} (h : Ints k w A n cap xs) {B : Nat} (hB : w.heap.size ≤ B) (hb : Below B w w') : Ints k w' A n cap xs := by
  obtain ⟨h1, h2, h3, h4, h5⟩ := h
  refine ⟨h1, h2, h3, h4, fun hn => ?_⟩
  obtain ⟨ad, rfl, hlt, hc⟩ := h5 hn
  exact ⟨ad, rfl, Nat.lt_of_lt_of_le hlt hb.size, fun j v hv => (hb.cell (by rw [block_add]; omega)).trans (hc j v hv)⟩

section
variable {H : Type} {enc : TypeId × Value → H} {P : Program} {w : World} {base : Nat} {spare : Nat → Bool} {held : Bool}
theorem ints_open {t e : TypeId} {k : IntKind} {fuel : Nat} {A : Option Addr} {n cap : Nat} {x : DataW H × List MemPlace} (ht : P.underlying t = some (.slice e)) (he : P.underlying e = some (.int k)) (hc : P.cellsOf e = 1)
    (h : DataW.trod enc P w base spare held fuel t [.slice A n cap] = some x) : (∃ xs, Ints k w A n cap xs) ∧ (n = 0 ∨ ∃ r, (n + r) * P.bytesOf e ∈ x.1.weights P t) := by
  rcases open_ints ht he hc h with ⟨hcs, _⟩ | ⟨a, l, c, zs, hcs, _, hl, hm, hz, hxd, hcell, hwz⟩
  · simp at hcs
    obtain ⟨rfl, rfl, rfl⟩ := hcs
    exact ⟨⟨[], by simp, Nat.le_refl _, by decide, by simp, fun h => absurd h (by omega)⟩, .inl rfl⟩
  · simp at hcs
    obtain ⟨rfl, rfl, rfl⟩ := hcs
    have hzl : n ≤ zs.length := by rw [hz]; split <;> omega
    refine ⟨⟨zs.take n, by simp; omega, hl, hm, fun x hx => hwz x (List.mem_of_mem_take hx), fun hn => ⟨a, rfl, ?_, fun j v hv => ?_⟩⟩, .inr ⟨(zs.drop n).length, ?_⟩⟩
    · have := World.block_lt_of_cell? w _ (hcell 0 (by omega))
      rwa [block_add] at this
    · rw [List.getElem?_map, List.getElem?_take] at hv
      split at hv
      · rename_i hj
        rw [hcell j (by omega)]
        rw [List.getElem?_eq_getElem (by omega)] at hv
        simp only [Option.map_some, Option.some.injEq] at hv
        rw [← hv, List.getD_eq_getElem?_getD, List.getElem?_eq_getElem (by omega)]
        rfl
      · simp at hv
    · rw [hxd]
      simp only [DataW.weights, ht, lits, List.length_map, List.mem_cons]
      exact .inl (by congr 2; simp; omega)
end
end Go.Proofs.Ytcoekpomiljofaa
