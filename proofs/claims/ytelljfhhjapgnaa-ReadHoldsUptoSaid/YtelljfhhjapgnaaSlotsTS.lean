/- A table of a nil meter, made since the world w0; and quashlaw06.awake: the document's first example. -/
import Derived.Test.YtelljfhhjapgnaaSlotsCl
namespace Go.Proofs.Ytelljfhhjapgnaa
open Go.RowKit
set_option linter.unusedVariables false
/-- The table, made since w0. -/
structure TS (w0 w : World) (t : Tb) (H : List Hd) (W : List Int) : Prop where
  tab : TabAt w t none H W
  keep : Keeps [] w0 w
  lob : w0.heap.size ≤ t.b
  loc : w0.heap.size ≤ t.c
section
variable {w0 w w' : World} {t : Tb} {H H' : List Hd} {W W' : List Int}
theorem TS.calm (h : TS w0 w t H W) (hk : Keeps [] w w') : TS w0 w' t H W := ⟨h.tab.calm hk, h.keep.trans hk (by simp), h.lob, h.loc⟩
theorem TS.far (h : TS w0 w t H W) {S : List Nat} (hk : Keeps S w w') (hS : ∀ z, z ∈ S → w0.heap.size ≤ z ∧ z ≠ t.q ∧ z ≠ t.r ∧ z ≠ t.b ∧ z ≠ t.s ∧ z ≠ t.c) : TS w0 w' t H W :=
  ⟨h.tab.keeps hk (fun q => (hS _ q).2.1 rfl) (fun q => (hS _ q).2.2.1 rfl) (fun q => (hS _ q).2.2.2.1 rfl) (fun q => (hS _ q).2.2.2.2.1 rfl) (fun q => (hS _ q).2.2.2.2.2 rfl), h.keep.trans hk (fun z hz => .inr (hS z hz).1), h.lob, h.loc⟩
theorem TS.next (h : TS w0 w t H W) {lb : Nat} {s : MS} (hl : TLeft t none H' W' lb s w w') : TS w0 w' t H' W' ∧ Keeps [t.b, t.c] w w' := by
  obtain ⟨h1, _, _, h2, _⟩ := hl
  have h3 : Keeps [t.b, t.c] w w' := h2.mono (by simp [foot])
  have hlo := h.lob
  have hlc := h.loc
  exact ⟨⟨h1, h.keep.trans h3 (fun z hz => by simp at hz; exact .inr (by omega)), h.lob, h.loc⟩, h3⟩
theorem TS.step (h : TS w0 w t H W) {f : FuncId} {args : Array Value} {v : Value} {lb : Nat} {s : MS} (hc : Calls Try.prog f args w fun e w' => e = .returned v ∧ TLeft t none H' W' lb s w w') :
    Calls Try.prog f args w fun e w' => e = .returned v ∧ TS w0 w' t H' W' ∧ Keeps [t.b, t.c] w w' := hc.mono fun e w' ⟨he, hl⟩ => ⟨he, h.next hl⟩
theorem TS.still (h : TS w0 w t H W) {f : FuncId} {args : Array Value} {v : Value} (hc : Calls Try.prog f args w fun e w' => e = .returned v ∧ Keeps [] w w') :
    Calls Try.prog f args w fun e w' => e = .returned v ∧ TS w0 w' t H W ∧ Keeps [t.b, t.c] w w' := hc.mono fun e w' ⟨he, hk⟩ => ⟨he, h.calm hk, hk.mono (by simp)⟩
theorem room0 : Room none MS.zero := fun h => absurd rfl h
theorem met0 (w : World) : MetAt MT w none 0 MS.zero := trivial
end
theorem ts_new (w0 w : World) (hk : Keeps [] w0 w) (n : Nat) (h1 : 1 ≤ n) (h2 : n ≤ 8) : Calls Try.prog 67 #[.pointer none, .int .i64 n] w fun e w' =>
    ∃ t, e = .returned (.tuple #[.pointer (some ⟨t.q, 0, none⟩), .int .i64 0]) ∧ TS w0 w' t (List.replicate n Hd.zero) (List.replicate (n * 2) 0) ∧ Keeps [] w w' ∧ w.heap.size ≤ t.b ∧ w.heap.size ≤ t.c ∧ w.heap.size ≤ t.q ∧ w.heap.size ≤ t.r ∧ w.heap.size ≤ t.s :=
  (slots_new w none n h1 h2).mono fun e w' ⟨he, h3, h4⟩ => ⟨Tb.new w.heap.size, he, ⟨h3, hk.trans h4 (by simp), hk.size, Nat.le_trans hk.size (by simp [Tb.new])⟩, h4, Nat.le_refl _, by simp [Tb.new], by simp [Tb.new], by simp [Tb.new], by simp [Tb.new]⟩

end Go.Proofs.Ytelljfhhjapgnaa
