/- append from whatever source. -/
import Derived.Test.YtmlnedilbneekaaGreatMake
import Derived.ProofKit
import Derived.Deep.Slices
import Derived.Deep.Fields
import Derived.ChangeSame
import Derived.SizedLaws
namespace Go.Proofs.YtmlnedilbneekaaGreat
open Go.ChangeShapes Go.WideShapes Go.Deep Go.RowKit
set_option linter.unusedVariables false

section
variable {H : Type} {enc : TypeId × Value → H} {P : Program} {w : World} {base : Nat} {spare : Nat → Bool} {held : Bool}
theorem weights_mem_all {P : Program} {e : TypeId} : ∀ {l : List (DataW H)} {d : DataW H}, d ∈ l → ∀ q ∈ d.weights P e, q ∈ DataW.weightsAll P e l
  | x :: r, d, h, q, hq => by
    simp only [DataW.weightsAll, List.mem_append]
    rcases List.mem_cons.1 h with h | h
    · subst h; exact .inl hq
    · exact .inr (weights_mem_all h q hq)
  | [], _, h, _, _ => by cases h

/-- Each field of each element has its cell, and reads as data of its type; how much memory it leads to is reckoned in the whole's. -/
theorem open_rows {t e : TypeId} {fs : Array Field} {fuel : Nat} {cs : List Value} {x : DataW H × List MemPlace} (ht : P.underlying t = some (.slice e)) (he : P.underlying e = some (.struct fs))
    (hone : oneCellFields P fs = true) (hC : P.cellsOf e = fs.size) (h : DataW.trod enc P w base spare held fuel t cs = some x) :
    cs = [.slice none 0 0] ∨
    ∃ (a : Addr) (len cap : Nat), cs = [.slice (some a) len cap] ∧ len ≤ cap ∧ cap ≤ maxLen ∧ (∃ r, (len + r) * P.bytesOf e ∈ x.1.weights P t) ∧
      ∀ i, i < len → ∃ n : Nat, ∀ (j : Nat) (f : Field), fs[j]? = some f → ∃ (v : Value) (y : DataW H × List MemPlace), w.cell? (a.add (i * fs.size + j)) = some v ∧ DataW.trod enc P w base spare held n f.type [v] = some y ∧
        ∀ q ∈ y.1.weights P f.type, q ∈ x.1.weights P t := by
  rcases open_slice ht h with ⟨h0, _⟩ | ⟨a, len, cap, m, n, D, Pl, hcs, hb, hl, hm, hmm, hx, hi⟩
  · exact .inl h0
  · refine .inr ⟨a, len, cap, hcs, hl, hm, ⟨m - len, ?_⟩, fun i hil => ?_⟩
    · rw [hx]
      simp [DataW.weights, ht]
    have him : i < m := by rw [hmm]; split <;> omega
    obtain ⟨cs', hc, ht'⟩ := hi i him
    rw [hC] at hc
    obtain ⟨ys, n', hn', hy, hlen, hyl, hf⟩ := DataW.trod_struct he ht'
    obtain ⟨_, hcl, hat⟩ := World.cells?_some hc
    refine ⟨n', fun j f hj => ?_⟩
    obtain ⟨ho, hk⟩ := hone_of hone j f hj
    have hjl : j < fs.size := (Array.getElem?_eq_some_iff.1 hj).1
    have hjc : j < cs'.length := by omega
    have h1 := hf j f hj
    rw [ho, hk, List.drop_eq_getElem_cons hjc] at h1
    have hys : ys[j]? = some (ys[j]'(by omega)) := List.getElem?_eq_getElem (by omega)
    refine ⟨cs'[j], _, ?_, (show DataW.trod enc P w base spare held n' f.type [cs'[j]] = ys[j]? from h1).trans hys, ?_⟩
    · rw [← Go.Deep.add_add]
      exact (hat j hjl).trans (List.getElem?_eq_getElem hjc)
    · intro q hq
      have hD : D i = .agg (ys.map (·.1)) := by simpa using congrArg Prod.fst hy
      have hw : q ∈ (D i).weights P e := by
        rw [hD]
        simp only [DataW.weights, he]
        exact DataW.weights_mem_each (j := j) (t := f.type) (by rw [List.getElem?_map, Array.getElem?_toList, hj]; rfl) (by rw [List.getElem?_map, hys]; rfl) q hq
      rw [hx]
      simp only [DataW.weights, ht, List.mem_cons, List.mem_append]
      exact .inr (.inl (weights_mem_all (List.mem_map.2 ⟨i, List.mem_range.2 hil, rfl⟩) q hw))
end

/-- A slice of int64 or int that came in: its elements xs. -/
def Ints (k : IntKind) (w : World) (A : Option Addr) (n cap : Nat) (xs : List Int) : Prop :=
  xs.length = n ∧ n ≤ cap ∧ cap ≤ maxLen ∧ (∀ x ∈ xs, (Lit.int k x).wf = true) ∧ (0 < n → ∃ ad, A = some ad ∧ ad.block < w.heap.size ∧ ∀ j v, (xs.map (Value.int k))[j]? = some v → w.cell? (ad.add j) = some v)

theorem block_add (a : Addr) (n : Nat) : (a.add n).block = a.block := by unfold Addr.add; split <;> rfl
theorem Ints.below {k : IntKind} {w w' : World} {A : Option Addr} {n cap : Nat} {xs : List Int} (h : Ints k w A n cap xs) {B : Nat} (hB : w.heap.size ≤ B) (hb : Below B w w') : Ints k w' A n cap xs := by
  obtain ⟨h1, h2, h3, h4, h5⟩ := h
  refine ⟨h1, h2, h3, h4, fun hn => ?_⟩
  obtain ⟨ad, rfl, hlt, hc⟩ := h5 hn
  exact ⟨ad, rfl, Nat.lt_of_lt_of_le hlt hb.size, fun j v hv => (hb.cell (by rw [block_add]; omega)).trans (hc j v hv)⟩

section
variable {H : Type} {enc : TypeId × Value → H} {P : Program} {w : World} {base : Nat} {spare : Nat → Bool} {held : Bool}
theorem ints_open {t e : TypeId} {k : IntKind} {fuel : Nat} {A : Option Addr} {n cap : Nat} {x : DataW H × List MemPlace} (ht : P.underlying t = some (.slice e)) (he : P.underlying e = some (.int k)) (hc : P.cellsOf e = 1)
    (h : DataW.trod enc P w base spare held fuel t [.slice A n cap] = some x) : (∃ xs, Ints k w A n cap xs) ∧ (n = 0 ∨ ∃ r, (n + r) * P.bytesOf e ∈ x.1.weights P t) := by
  rcases open_ints ht he hc h with ⟨hcs, _⟩ | ⟨a, l, c, zs, hcs, _, hl, hm, hz, hxd, hcell, hwz⟩
  · simp at hcs
    obtain ⟨rfl, rfl, rfl⟩ := hcs
    exact ⟨⟨[], by simp, Nat.le_refl _, by decide, by simp, fun h => absurd h (by omega)⟩, .inl rfl⟩
  · simp at hcs
    obtain ⟨rfl, rfl, rfl⟩ := hcs
    have hzl : n ≤ zs.length := by rw [hz]; split <;> omega
    refine ⟨⟨zs.take n, by simp; omega, hl, hm, fun x hx => hwz x (List.mem_of_mem_take hx), fun hn => ⟨a, rfl, ?_, fun j v hv => ?_⟩⟩, .inr ⟨(zs.drop n).length, ?_⟩⟩
    · have := World.block_lt_of_cell? w _ (hcell 0 (by omega))
      rwa [block_add] at this
    · rw [List.getElem?_map, List.getElem?_take] at hv
      split at hv
      · rename_i hj
        rw [hcell j (by omega)]
        rw [List.getElem?_eq_getElem (by omega)] at hv
        simp only [Option.map_some, Option.some.injEq] at hv
        rw [← hv, List.getD_eq_getElem?_getD, List.getElem?_eq_getElem (by omega)]
        rfl
      · simp at hv
    · rw [hxd]
      simp only [DataW.weights, ht, lits, List.length_map, List.mem_cons]
      exact .inl (by congr 2; simp; omega)
end
end Go.Proofs.YtmlnedilbneekaaGreat

namespace Go.Proofs.YtmlnedilbneekaaGreat
open Go.RowKit
set_option linter.unusedVariables false

/-- A slice whose first cells are xs. -/
def Slc (w : World) (A : Option Addr) (xs : List Int) : Prop :=
  xs.length ≤ maxLen ∧ (xs = [] ∨ ∃ b off, A = some ⟨b, off, none⟩ ∧ b < w.heap.size ∧ ∀ k x, xs[k]? = some x → w.cell? ⟨b, off + k, none⟩ = some (.int .i64 x))

theorem keeps_cell {S : List Nat} {w w' : World} (h : Keeps S w w') {p : Addr} (hp : p.block < w.heap.size) (hS : p.block ∉ S) : w'.cell? p = w.cell? p := World.cell?_of_block (h.block p.block hp hS)
theorem Slc.keeps {w w' : World} {A : Option Addr} {xs : List Int} (h : Slc w A xs) (hk : Keeps [] w w') : Slc w' A xs := by
  refine ⟨h.1, ?_⟩
  rcases h.2 with h | ⟨b, off, hA, hb, hc⟩
  · exact .inl h
  · exact .inr ⟨b, off, hA, Nat.lt_of_lt_of_le hb hk.size, fun k x hx => (keeps_cell hk hb (by simp)).trans (hc k x hx)⟩
theorem Slc.of_ints {w : World} {A : Option Addr} {n cap : Nat} {xs : List Int} (h : Ints .i64 w A n cap xs) : Slc w A xs := by
  obtain ⟨h1, h2, h3, _, h4⟩ := h
  refine ⟨by omega, ?_⟩
  by_cases hn : n = 0
  · exact .inl (List.eq_nil_of_length_eq_zero (by omega))
  · obtain ⟨ad, rfl, hlt, hc⟩ := h4 (by omega)
    have hx : ∀ k x, xs[k]? = some x → w.cell? (ad.add k) = some (.int .i64 x) := fun k x hx => hc k _ (by rw [List.getElem?_map, hx]; rfl)
    obtain ⟨x0, hx0⟩ : ∃ x, xs[0]? = some x := ⟨_, List.getElem?_eq_getElem (by omega)⟩
    have hs := World.cell?_spot (hx 0 x0 hx0)
    obtain ⟨b, off, sp⟩ := ad
    simp [Addr.add] at hs
    subst hs
    refine .inr ⟨b, off, rfl, hlt, fun k x hk => ?_⟩
    have := hx k x hk
    have e : (⟨b, off, none⟩ : Addr).add k = ⟨b, off + k, none⟩ := by unfold Addr.add; split <;> simp_all
    rwa [e] at this
theorem Slc.of_own {w : World} {base n e : Nat} {v : Value} {l : List Int} (h : w.ownsRow base e 1 v n (l.map (Value.int .i64))) (hf : l.length ≤ maxLen) : ∃ A c, v = .slice A n c ∧ n = l.length ∧ Slc w A l := by
  have hn : n = l.length := by have := h.1; simp at this; omega
  rcases h.2 with ⟨rfl, h0⟩ | ⟨g, cap, cur, rfl, hb, hg, h1, h2, h3, h4⟩
  · exact ⟨none, 0, by rw [h0], hn, hf, .inl (List.eq_nil_of_length_eq_zero (by omega))⟩
  · refine ⟨_, _, rfl, hn, hf, .inr ⟨g, 0, rfl, (Array.getElem?_eq_some_iff.1 hg).1, fun k x hx => ?_⟩⟩
    have hc := h.cells (g := g) rfl k (.int .i64 x) (by rw [List.getElem?_map, hx]; rfl)
    have e : (⟨g, 0, none⟩ : Addr).add k = ⟨g, 0 + k, none⟩ := by unfold Addr.add; split <;> simp_all
    rwa [e] at hc
end Go.Proofs.YtmlnedilbneekaaGreat

namespace Go.Proofs.YtmlnedilbneekaaGreat
open Go.RowKit
set_option linter.unusedVariables false
section
variable {P : Program} {w : World}
/-- append(v, x...): v is the call's own (or nil), x comes from anywhere. -/
theorem run_append_src (t ty e : TypeId) (i : TypeInfo) (z : Value) (size bytes : Nat) (ht : P.underlying t = some (.slice e)) (hi : P.info? e = some i) (hz : i.zero = some z)
    (hsize : i.size = size) (hby : i.bytes = bytes) (hzs : z.cells.size = size) (hsz : 0 < size) (v : Value) (n : Nat) (xs : List Value) (hown : w.ownsRow 0 e size v n xs)
    (A : Option Addr) (m c : Nat) (news : List Value) (hl : news.length = m * size) (hsrc : 0 < m → ∃ ad, A = some ad ∧ ∀ j u, news[j]? = some u → w.cell? (ad.add j) = some u)
    (h1 : ∀ u ∈ news, u.oneCell' = true) (h63 : n + m ≤ maxLen) (hbytes : (n + m) * bytes ≤ 140737488355328) :
    ∃ v' w', (Builtin.append_ #[t, t] ty #[v, .slice A m c]).run P w = .ok v' w' ∧ w'.ownsRow 0 e size v' (n + m) (xs ++ news) ∧ w.grownBy w' v.ownBlock ∧ (v'.ownBlock = v.ownBlock ∨ v'.ownBlock = some w.heap.size) := by
  rcases A with _ | ad
  · have hm : m = 0 := by
      rcases Nat.eq_zero_or_pos m with h0 | h0
      · exact h0
      · obtain ⟨ad, h, _⟩ := hsrc h0; cases h
    subst hm
    have hn : news = [] := List.eq_nil_of_length_eq_zero (by simpa using hl)
    subst hn
    refine ⟨v, w, ?_, by simpa using hown, World.grownBy.refl w _, .inl rfl⟩
    rcases hown.2 with ⟨rfl, rfl⟩ | ⟨g, cap, cur, rfl, _, _, hnc, _⟩
    · simp [Builtin.append_, run_underlying ht, sizeOf, typeInfo, hi, Builtin.lenOf, Builtin.firstCells]
    · simp [Builtin.append_, run_underlying ht, sizeOf, typeInfo, hi, Builtin.lenOf, Builtin.firstCells, hnc, storeCells]
  · have hc : ∀ j u, news[j]? = some u → w.cell? (ad.add j) = some u := by
      intro j u hu
      rcases Nat.eq_zero_or_pos m with h0 | h0
      · subst h0
        have hn : news = [] := List.eq_nil_of_length_eq_zero (by simpa using hl)
        subst hn; simp at hu
      · obtain ⟨ad', h, hc⟩ := hsrc h0
        injection h with h; subst h
        exact hc j u hu
    obtain ⟨v', w', hrun, h2, h3, _, h5⟩ := run_append_own_at (P := P) w 0 t ty e i z size bytes ht hi hz hsize hby hzs hsz v n xs hown ad m c news hl hc h1 h63 hbytes (Nat.zero_le _)
    exact ⟨v', w', hrun, h2, h3, h5⟩

theorem wpList_append_src {ops : Array Oper} {rest : List Oper} {o : Oper} {a : Act} {Q : Exit → Act → World → Prop} (hgd : o.guard = none) (s x : Operand) (t : TypeId)
    (ho : o.op = .call { callee := .builtin .append, args := #[s, x], argTypes := #[t, t] })
    (e : TypeId) (i : TypeInfo) (z : Value) (size bytes : Nat) (ht : P.underlying t = some (.slice e)) (hi : P.info? e = some i) (hz : i.zero = some z)
    (hsize : i.size = size) (hby : i.bytes = bytes) (hzs : z.cells.size = size) (hsz : 0 < size) (v : Value) (n : Nat) (xs : List Value) (hs : a.eval s = v) (hown : w.ownsRow 0 e size v n xs)
    (A : Option Addr) (m c : Nat) (news : List Value) (hx : a.eval x = .slice A m c) (hl : news.length = m * size) (hsrc : 0 < m → ∃ ad, A = some ad ∧ ∀ j u, news[j]? = some u → w.cell? (ad.add j) = some u)
    (h1 : ∀ u ∈ news, u.oneCell' = true) (h63 : n + m ≤ maxLen) (hbytes : (n + m) * bytes ≤ 140737488355328)
    (h : ∀ v' w', w'.ownsRow 0 e size v' (n + m) (xs ++ news) → w.grownBy w' v.ownBlock → (v'.ownBlock = v.ownBlock ∨ v'.ownBlock = some w.heap.size) → wpList P ops Q rest (a.put o.dst v') w') : wpList P ops Q (o :: rest) a w := by
  refine wpList_plain hgd fun K hK => ?_
  obtain ⟨v', w', hrun, h2, h3, h4⟩ := run_append_src (P := P) (w := w) t o.type e i z size bytes ht hi hz hsize hby hzs hsz v n xs hown A m c news hl hsrc h1 h63 hbytes
  unfold Oper.wp execOp
  simp only [ho, resolve, invoke, builtin, Sem.run_bind, Sem.run_pure, Result.andThen_ok, List.map_toArray, List.map_cons, List.map_nil, hs, hx, hrun]
  exact hK _ _ (h v' w' h2 h3 h4)
end
end Go.Proofs.YtmlnedilbneekaaGreat
