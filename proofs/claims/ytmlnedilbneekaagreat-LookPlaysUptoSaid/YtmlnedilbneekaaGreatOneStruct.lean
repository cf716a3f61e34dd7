/- A struct of one-cell fields that came in as an argument, field by field; configs and events. -/
import Derived.Test.YtmlnedilbneekaaGreatSrc
import Derived.Test.YtmlnedilbneekaaGreatSlR
namespace Go.Proofs.YtmlnedilbneekaaGreat
open Go.ChangeShapes Go.WideShapes Go.Deep Go.RowKit
set_option linter.unusedVariables false
section
variable {H : Type} {enc : TypeId × Value → H} {P : Program} {w : World} {base : Nat} {spare : Nat → Bool} {held : Bool}
theorem struct_open {e : TypeId} {fs : Array Field} {v : Value} {b0 : Nat} {d : DataW H} {p : List MemPlace} (he : P.underlying e = some (.struct fs)) (hone : oneCellFields P fs = true) (hC : P.cellsOf e = fs.size)
    (hok : Value.okWide P w .any b0 e v) (h : DataW.Trod enc P w base spare held e v d p) :
    ∃ cs : Array Value, v = .agg cs ∧ cs.size = fs.size ∧ ∀ (j : Nat) (f : Field), fs[j]? = some f → ∃ (c : Value) (y : DataW H × List MemPlace) (n : Nat), cs[j]? = some c ∧ DataW.trod enc P w base spare held n f.type [c] = some y := by
  obtain ⟨cs, rfl, hsz⟩ := okWide_struct he hok
  rw [hC] at hsz
  obtain ⟨fuel, hf⟩ := h
  obtain ⟨ys, n', hn', hy, hlen, hyl, hf⟩ := DataW.trod_struct he hf
  refine ⟨cs, rfl, hsz, fun j f hj => ?_⟩
  obtain ⟨ho, hk⟩ := hone_of hone j f hj
  have hjl : j < fs.size := (Array.getElem?_eq_some_iff.1 hj).1
  have hjc : j < cs.toList.length := by simpa using (by omega : j < cs.size)
  have h1 := hf j f hj
  have hc : (Value.agg cs).cells.toList = cs.toList := rfl
  rw [hc, ho, hk, List.drop_eq_getElem_cons hjc] at h1
  have hys : ys[j]? = some (ys[j]'(by omega)) := List.getElem?_eq_getElem (by omega)
  exact ⟨cs.toList[j], _, n', by rw [← Array.getElem?_toList]; exact List.getElem?_eq_getElem hjc, (show DataW.trod enc P w base spare held n' f.type [cs.toList[j]] = ys[j]? from h1).trans hys⟩
theorem arr6 {cs : Array Value} (hn : cs.size = 6) {c0 c1 c2 c3 c4 c5 : Value} (h0 : cs[0]? = some c0) (h1 : cs[1]? = some c1) (h2 : cs[2]? = some c2) (h3 : cs[3]? = some c3) (h4 : cs[4]? = some c4) (h5 : cs[5]? = some c5) : cs = #[c0, c1, c2, c3, c4, c5] := by
  apply Array.ext_getElem?
  intro i
  rcases Nat.lt_or_ge i 6 with hi | hi
  · have : i = 0 ∨ i = 1 ∨ i = 2 ∨ i = 3 ∨ i = 4 ∨ i = 5 := by omega
    rcases this with rfl | rfl | rfl | rfl | rfl | rfl
    · rw [h0]; rfl
    · rw [h1]; rfl
    · rw [h2]; rfl
    · rw [h3]; rfl
    · rw [h4]; rfl
    · rw [h5]; rfl
  · rw [Array.getElem?_eq_none (by omega), Array.getElem?_eq_none (by simpa using hi)]
set_option maxRecDepth 100000 in
theorem cfg_open {v : Value} {b0 : Nat} {d : DataW H} {p : List MemPlace} (hok : Value.okWide Tryz.prog w .any b0 23 v) (h : DataW.Trod enc Tryz.prog w base spare held 23 v d p) :
    ∃ c : Cf, v = .agg #[.int .i64 c.cells, .int .i64 c.slots, .int .i64 c.bits, .int .i64 c.tag, .int .i64 c.bias, .int .i64 c.defer] := by
  obtain ⟨cs, rfl, hn, hc⟩ := struct_open Tryz.underlying23 (by kernel_rfl) (by kernel_rfl) hok h
  obtain ⟨c0, y0, n0, e0, t0⟩ := hc 0 _ rfl
  obtain ⟨c1, y1, n1, e1, t1⟩ := hc 1 _ rfl
  obtain ⟨c2, y2, n2, e2, t2⟩ := hc 2 _ rfl
  obtain ⟨c3, y3, n3, e3, t3⟩ := hc 3 _ rfl
  obtain ⟨c4, y4, n4, e4, t4⟩ := hc 4 _ rfl
  obtain ⟨c5, y5, n5, e5, t5⟩ := hc 5 _ rfl
  obtain ⟨x0, z0, _⟩ := DataW.trod_int Tryz.underlying3 t0
  obtain ⟨x1, z1, _⟩ := DataW.trod_int Tryz.underlying3 t1
  obtain ⟨x2, z2, _⟩ := DataW.trod_int Tryz.underlying3 t2
  obtain ⟨x3, z3, _⟩ := DataW.trod_int Tryz.underlying3 t3
  obtain ⟨x4, z4, _⟩ := DataW.trod_int Tryz.underlying3 t4
  obtain ⟨x5, z5, _⟩ := DataW.trod_int Tryz.underlying3 t5
  simp at z0 z1 z2 z3 z4 z5
  subst z0 z1 z2 z3 z4 z5
  exact ⟨⟨x0, x1, x2, x3, x4, x5⟩, by rw [arr6 hn e0 e1 e2 e3 e4 e5]⟩
end
end Go.Proofs.YtmlnedilbneekaaGreat
