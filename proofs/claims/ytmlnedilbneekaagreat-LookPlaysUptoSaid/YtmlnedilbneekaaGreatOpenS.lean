/- Arguments opened: slices of structs whose fields may have many cells. -/
import Derived.Test.YtmlnedilbneekaaGreatRows
import Derived.Test.YtmlnedilbneekaaGreatSigMeets
import Derived.WideKeyArr2
import Derived.Test.YtmlnedilbneekaaGreatSrc
namespace Go.Proofs.YtmlnedilbneekaaGreat.bulks
theorem one_le {H : Type} (d : DataW H) : 1 ≤ Rows.uptoBulk d := by
  cases d with
  | lit l => cases l <;> simp [Rows.uptoBulk]
  | nil => simp [Rows.uptoBulk]
  | ptr d => simp [Rows.uptoBulk]
  | slice elems spare => simp [Rows.uptoBulk]
  | agg parts => simp [Rows.uptoBulk]
  | iface t d => simp [Rows.uptoBulk]
  | map entries => simp [Rows.uptoBulk]
  | held h => simp [Rows.uptoBulk]
theorem part_le {H : Type} {d : DataW H} {l : List (DataW H)} (h : d ∈ l) : Rows.uptoBulk d ≤ Rows.uptoBulkAll l := by
  induction l with
  | nil => cases h
  | cons x r ih =>
    simp only [Rows.uptoBulkAll]
    cases List.mem_cons.1 h with
    | inl e => subst e; omega
    | inr e => have := ih e; omega
theorem length_le {H : Type} (l : List (DataW H)) : l.length ≤ Rows.uptoBulkAll l := by
  induction l with
  | nil => simp [Rows.uptoBulkAll]
  | cons x r ih => have := one_le x; simp only [Rows.uptoBulkAll, List.length_cons]; omega
theorem slice_le {H : Type} (elems spare : List (DataW H)) : elems.length + spare.length + 1 ≤ Rows.uptoBulk (.slice elems spare) := by
  have h1 := length_le elems
  have h2 := length_le spare
  simp only [Rows.uptoBulk]
  omega
/-- A part of what is read, under the bound. -/
theorem small {H : Type} {l : List (DataW H)} (hk : Rows.uptoSmall H l = true) {d : DataW H} (h : d ∈ l) : Rows.uptoBulk d ≤ 1048576 := by
  have h1 : Rows.uptoBulkAll l ≤ 1048576 := of_decide_eq_true hk
  exact Nat.le_trans (part_le h) h1
end Go.Proofs.YtmlnedilbneekaaGreat.bulks

namespace Go.Proofs.YtmlnedilbneekaaGreat
open Go.RowKit Go.ChangeShapes Go.WideShapes
set_option linter.unusedVariables false
variable {H : Type} {enc : TypeId × Value → H} {P : Program} {w : World} {base : Nat} {spare : Nat → Bool} {held : Bool}
theorem trod_array2 {t e : TypeId} {fuel : Nat} {c0 c1 : Value} {x : DataW H × List MemPlace} (ht : P.underlying t = some (.array 2 e)) (hce : P.cellsOf e = 1)
    (h : DataW.trod enc P w base spare held fuel t [c0, c1] = some x) :
    ∃ y0 y1 n, x = (.agg [y0.1, y1.1], y0.2 ++ y1.2) ∧ DataW.trod enc P w base spare held n e [c0] = some y0 ∧ DataW.trod enc P w base spare held n e [c1] = some y1 := by
  cases fuel with
  | zero => simp [DataW.trod] at h
  | succ n =>
    unfold DataW.trod at h
    rw [ht] at h
    have r3 : List.range 2 = [0, 1] := rfl
    simp [r3, hce] at h
    obtain ⟨_, h⟩ := h
    cases h0 : DataW.trod enc P w base spare held n e [c0] with
    | none => simp [h0] at h
    | some y0 =>
      cases h1 : DataW.trod enc P w base spare held n e [c1] with
      | none => simp [h0, h1] at h
      | some y1 =>
        simp [h0, h1] at h
        exact ⟨y0, y1, n, h.symm, h0, h1⟩
set_option maxRecDepth 100000 in
theorem Tryz.arrSig : WideMaps.ArrKey Tryz.prog 47 45 2 := ⟨by kernel_rfl, by kernel_rfl, by kernel_rfl, by kernel_rfl⟩
theorem wf_u64 {a : Int} (h : (Lit.int IntKind.u64 a).wf = true) : ∃ n : Nat, a = n ∧ n < 18446744073709551616 := by
  have h2 : IntKind.u64.min ≤ a ∧ a ≤ IntKind.u64.max := by simpa [Lit.wf] using h
  have e1 : IntKind.u64.min = 0 := by decide
  have e2 : IntKind.u64.max = 18446744073709551615 := by decide
  rw [e1, e2] at h2
  exact ⟨a.toNat, by omega, by omega⟩
set_option maxRecDepth 100000 in
theorem sig_open {b0 : Nat} {v : Value} {d : DataW H} {p : List MemPlace} (hok : Value.okWide Tryz.prog w .any b0 47 v) (h : DataW.Trod enc Tryz.prog w base spare held 47 v d p) : ∃ s : Sg, v = .agg #[.int .u64 (s.a : Int), .int .u64 (s.b : Int)] ∧ s.ok := by
  obtain ⟨xs, rfl, hn⟩ := WideMaps.okWide_arr Tryz.arrSig hok
  obtain ⟨c0, c1, hx⟩ : ∃ c0 c1, xs.toList = [c0, c1] := by
    have : xs.toList.length = 2 := by simpa using hn
    match xs.toList, this with
    | [c0, c1], _ => exact ⟨c0, c1, rfl⟩
  have hx' : xs = #[c0, c1] := by cases xs; simp_all
  subst hx'
  obtain ⟨fuel, hf⟩ := h
  obtain ⟨y0, y1, n, _, h0, h1⟩ := trod_array2 Tryz.arrSig.hu Tryz.arrSig.one hf
  obtain ⟨a, ea, _, wa⟩ := DataW.trod_int Tryz.underlying45 h0
  obtain ⟨b, eb, _, wb⟩ := DataW.trod_int Tryz.underlying45 h1
  simp at ea eb
  obtain ⟨m, rfl, hm⟩ := wf_u64 wa
  obtain ⟨k, rfl, hk⟩ := wf_u64 wb
  exact ⟨⟨m, k⟩, by rw [ea, eb], hm, hk⟩
end Go.Proofs.YtmlnedilbneekaaGreat

namespace Go.Proofs.YtmlnedilbneekaaGreat
open Go.ChangeShapes Go.WideShapes Go.Deep Go.RowKit
set_option linter.unusedVariables false
section
variable {H : Type} {enc : TypeId × Value → H} {P : Program} {w : World} {base : Nat} {spare : Nat → Bool} {held : Bool}
/-- The elements of a slice. -/
theorem open_els {t e : TypeId} {fuel C : Nat} {cs : List Value} {x : DataW H × List MemPlace} (ht : P.underlying t = some (.slice e)) (hC : P.cellsOf e = C) (h : DataW.trod enc P w base spare held fuel t cs = some x) :
    cs = [.slice none 0 0] ∨
    ∃ (a : Addr) (len cap : Nat), cs = [.slice (some a) len cap] ∧ len ≤ cap ∧ cap ≤ maxLen ∧
      ∀ i, i < len → ∃ (n : Nat) (cs' : List Value) (y : DataW H × List MemPlace), cs'.length = C ∧ (∀ k v, cs'[k]? = some v → w.cell? (a.add (i * C + k)) = some v) ∧ DataW.trod enc P w base spare held n e cs' = some y := by
  rcases open_slice ht h with ⟨h0, _⟩ | ⟨a, len, cap, m, n, D, Pl, hcs, hb, hl, hm, hmm, hx, hi⟩
  · exact .inl h0
  · refine .inr ⟨a, len, cap, hcs, hl, hm, fun i hil => ?_⟩
    have him : i < m := by rw [hmm]; split <;> omega
    obtain ⟨cs', hc, ht'⟩ := hi i him
    rw [hC] at hc
    obtain ⟨_, hcl, hat⟩ := World.cells?_some hc
    refine ⟨n, cs', _, hcl, fun k v hk => ?_, ht'⟩
    rw [← Go.Deep.add_add]
    have hkl := (List.getElem?_eq_some_iff.1 hk).1
    exact (hat k (by omega)).trans hk
/-- A field of a struct. -/
theorem trod_field {t : TypeId} {fs : Array Field} {fuel : Nat} {cs : List Value} {x : DataW H × List MemPlace} (ht : P.underlying t = some (.struct fs)) (h : DataW.trod enc P w base spare held fuel t cs = some x)
    (j : Nat) (f : Field) (hj : fs[j]? = some f) (k : Nat) (hk : P.cellsOf f.type = k) (cs' : List Value) (hcs : (cs.drop f.offset).take k = cs') : ∃ n y, DataW.trod enc P w base spare held n f.type cs' = some y := by
  obtain ⟨ys, n', hn', hy, hlen, hyl, hf⟩ := DataW.trod_struct ht h
  have hjl : j < fs.size := (Array.getElem?_eq_some_iff.1 hj).1
  have h1 := hf j f hj
  rw [hk, hcs] at h1
  exact ⟨n', _, h1.trans (List.getElem?_eq_getElem (by omega))⟩
theorem addAt {w : World} {a : Addr} {k : Nat} {v : Value} (h : w.cell? (a.add k) = some v) : w.cell? ⟨a.block, a.off + k, none⟩ = some v := by
  have hs := World.cell?_spot h
  obtain ⟨b, o, s⟩ := a
  by_cases hk : k = 0
  · subst hk
    simp [Addr.add] at hs
    subst hs
    simpa [Addr.add] using h
  · simpa [Addr.add, hk] using h
theorem addrNone {w : World} {a : Addr} {v : Value} (h : w.cell? (a.add 0) = some v) : a = ⟨a.block, a.off, none⟩ := by
  have hs := World.cell?_spot h
  obtain ⟨b, o, s⟩ := a
  simp [Addr.add] at hs
  simp [hs]
end
theorem wf_u {a : Int} (h : (Lit.int IntKind.u64 a).wf = true) : 0 ≤ a ∧ a < 18446744073709551616 := by
  obtain ⟨n, rfl, hn⟩ := wf_u64 h
  omega
end Go.Proofs.YtmlnedilbneekaaGreat
