/- A signature that came in. -/
import Derived.Test.YtlpgcfgnimchaaaDoorSigSet
import Derived.WideKeyArr2
namespace Go.Proofs.YtlpgcfgnimchaaaDoor
open Go.RowKit Go.ChangeShapes Go.WideShapes
set_option linter.unusedVariables false
variable {H : Type} {enc : TypeId × Value → H} {P : Program} {w : World} {base : Nat} {spare : Nat → Bool} {held : Bool}
theorem trod_array2 {t e : TypeId} {fuel : Nat} {c0 c1 : Value} {x : DataW H × List MemPlace} (ht : P.underlying t = some (.array 2 e)) (hce : P.cellsOf e = 1)
    (h : DataW.trod enc P w base spare held fuel t [c0, c1] = some x) :
    ∃ y0 y1 n, x = (.agg [y0.1, y1.1], y0.2 ++ y1.2) ∧ DataW.trod enc P w base spare held n e [c0] = some y0 ∧ DataW.trod enc P w base spare held n e [c1] = some y1 := by
  cases fuel with
  | zero => simp [DataW.trod] at h
  | succ n =>
    unfold DataW.trod at h
    rw [ht] at h
    have r3 : List.range 2 = [0, 1] := rfl
    simp [r3, hce] at h
    obtain ⟨_, h⟩ := h
    cases h0 : DataW.trod enc P w base spare held n e [c0] with
    | none => simp [h0] at h
    | some y0 =>
      cases h1 : DataW.trod enc P w base spare held n e [c1] with
      | none => simp [h0, h1] at h
      | some y1 =>
        simp [h0, h1] at h
        exact ⟨y0, y1, n, h.symm, h0, h1⟩
theorem Tryd.arrSig : WideMaps.ArrKey Tryd.prog 31 29 2 := ⟨by kernel_rfl, by kernel_rfl, by kernel_rfl, by kernel_rfl⟩
theorem wf_u64 {a : Int} (h : (Lit.int IntKind.u64 a).wf = true) : ∃ n : Nat, a = n ∧ n < 18446744073709551616 := by
  have h2 : IntKind.u64.min ≤ a ∧ a ≤ IntKind.u64.max := by simpa [Lit.wf] using h
  have e1 : IntKind.u64.min = 0 := by decide
  have e2 : IntKind.u64.max = 18446744073709551615 := by decide
  rw [e1, e2] at h2
  exact ⟨a.toNat, by omega, by omega⟩
theorem sig_open {b0 : Nat} {v : Value} {d : DataW H} {p : List MemPlace} (hok : Value.okWide Tryd.prog w .any b0 31 v) (h : DataW.Trod enc Tryd.prog w base spare held 31 v d p) : ∃ s : Sg, v = .agg #[.int .u64 (s.a : Int), .int .u64 (s.b : Int)] ∧ s.ok := by
  obtain ⟨xs, rfl, hn⟩ := WideMaps.okWide_arr Tryd.arrSig hok
  obtain ⟨c0, c1, hx⟩ : ∃ c0 c1, xs.toList = [c0, c1] := by
    have : xs.toList.length = 2 := by simpa using hn
    match xs.toList, this with
    | [c0, c1], _ => exact ⟨c0, c1, rfl⟩
  have hx' : xs = #[c0, c1] := by cases xs; simp_all
  subst hx'
  obtain ⟨fuel, hf⟩ := h
  obtain ⟨y0, y1, n, _, h0, h1⟩ := trod_array2 Tryd.arrSig.hu Tryd.arrSig.one hf
  obtain ⟨a, ea, _, wa⟩ := DataW.trod_int Tryd.underlying29 h0
  obtain ⟨b, eb, _, wb⟩ := DataW.trod_int Tryd.underlying29 h1
  simp at ea eb
  obtain ⟨m, rfl, hm⟩ := wf_u64 wa
  obtain ⟨k, rfl, hk⟩ := wf_u64 wb
  exact ⟨⟨m, k⟩, by rw [ea, eb], hm, hk⟩
end Go.Proofs.YtlpgcfgnimchaaaDoor
