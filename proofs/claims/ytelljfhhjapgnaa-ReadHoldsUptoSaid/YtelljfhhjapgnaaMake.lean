/- What make lays. -/
import Derived.Test.YtelljfhhjapgnaaWords
import Derived.Laws.MakeOwn
import Derived.Laws.CopyOwn
namespace Go.Proofs.Ytelljfhhjapgnaa
open Go.RowKit
set_option linter.unusedVariables false

/-- What make lays: so many zeros, cell by cell. -/
theorem rep_get {α : Type} (f : α → List Value) (size : Nat) (hs : 0 < size) (hf : ∀ x, (f x).length = size) (x : α) (n i : Nat) (hi : i < n * size) : ((List.replicate n x).flatMap f)[i]? = (f x)[i % size]? := by
  induction n generalizing i with
  | zero => omega
  | succ n ih =>
    have e : (n + 1) * size = n * size + size := by rw [Nat.add_mul]; omega
    rw [List.replicate_succ, List.flatMap_cons]
    by_cases h : i < size
    · rw [List.getElem?_append_left (by rw [hf]; exact h), Nat.mod_eq_of_lt h]
    · rw [List.getElem?_append_right (by rw [hf]; omega), hf, ih (i - size) (by omega)]
      rw [← Nat.mod_eq_sub_mod (by omega)]
theorem rep_len {α : Type} (f : α → List Value) (size : Nat) (hf : ∀ x, (f x).length = size) (x : α) (n : Nat) : ((List.replicate n x).flatMap f).length = n * size := by
  induction n with
  | zero => simp
  | succ n ih => rw [List.replicate_succ, List.flatMap_cons, List.length_append, ih, hf, Nat.add_mul]; omega
theorem madeCells_rep {α : Type} (f : α → List Value) (size : Nat) (hs : 0 < size) (hf : ∀ x, (f x).length = size) (x : α) (n : Nat) {z : Array Value} (hz : z = (f x).toArray) : madeCells z (n * size) = ((List.replicate n x).flatMap f).toArray := by
  subst hz
  apply Array.ext
  · rw [size_madeCells]; simp only [List.size_toArray]; rw [rep_len f size hf]
  · intro i h1 h2
    have hi : i < n * size := by simpa [size_madeCells] using h1
    have hg := rep_get f size hs hf x n i hi
    have hlt : i % size < (f x).length := by rw [hf]; exact Nat.mod_lt _ hs
    rw [List.getElem?_eq_getElem hlt] at hg
    simp only [madeCells, Array.getElem_map, Array.getElem_range, List.size_toArray, hf]
    rw [List.getElem?_eq_some_iff] at hg
    obtain ⟨_, hg⟩ := hg
    rw [List.getElem_toArray, hg, getElem!_pos _ _ (by simpa using hlt)]
    simp


/-- copy from any slice that is no longer than the row b that is written from its head. -/
theorem wpList_copy_row {P : Program} {w : World} {ops : Array Oper} {rest : List Oper} {o : Oper} {a : Act} {Q : Exit → Act → World → Prop} (hgd : o.guard = none) (d s : Operand) (dT sT : TypeId)
    (ho : o.op = .call { callee := .builtin .copy, args := #[d, s], argTypes := #[dT, sT] }) (elem : TypeId) (hu : P.underlying dT = some (.slice elem)) (hsz : (P.info? elem).map (·.size) = some 1)
    (g dLen dCap : Nat) (A : Option Addr) (sLen sCap : Nat) (hd : a.eval d = .slice (some ⟨g, 0, none⟩) dLen dCap) (hs : a.eval s = .slice A sLen sCap)
    (cur : Array Value) (t : TypeId) (hg : w.heap[g]? = some (.cells cur t (0, 0))) (cs : List Value) (hn : cs.length = sLen ∧ sLen ≤ dLen)
    (hsrc : 0 < sLen → ∃ ad, A = some ad ∧ ∀ j v, cs[j]? = some v → w.cell? (ad.add j) = some v) (hfit : cs.length ≤ cur.size) (h1 : ∀ v ∈ cs, v.oneCell' = true)
    (h : ∀ w' n, Hid (w'.heap[g]? = some (.cells (cs ++ cur.toList.drop cs.length).toArray t (0, 0))) → Keeps [g] w w' → wpList P ops Q rest (a.put o.dst (goInt n)) w') : wpList P ops Q (o :: rest) a w := by
  obtain ⟨hn, hle⟩ := hn
  by_cases h0 : cs.length = 0
  · obtain rfl : cs = [] := List.eq_nil_of_length_eq_zero h0
    refine wpList_copy_nothing hgd d s dT sT ho elem hu hsz _ A dLen dCap sLen sCap hd hs (by simp at hn; simp [← hn]) ?_
    exact h w 0 (show _ = _ by simpa using hg) (Keeps.refl _ _)
  · obtain ⟨ad, rfl, hsrc'⟩ := hsrc (by omega)
    refine wpList_copy_own hgd d s dT sT ho elem hu hsz g 0 dLen dCap ad sLen sCap hd hs cur t hg cs (by rw [hn]; exact (Nat.min_eq_left hle).symm) hsrc' (by simpa using hfit) h1 ?_
    refine h _ _ (show _ = _ by simpa using setRow_heap w g _ _ t _ hg) ⟨rfl, rfl, rfl, by simp [World.setRow], fun k _ hk => setRow_other w g k _ (by simpa using hk)⟩
end Go.Proofs.Ytelljfhhjapgnaa
