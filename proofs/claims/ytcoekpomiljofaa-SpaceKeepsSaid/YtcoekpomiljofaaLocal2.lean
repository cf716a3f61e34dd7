/- More on what lies beside a space: rows written over, reading slices that came in. -/
import Derived.Test.YtcoekpomiljofaaLocal
import Derived.Test.YtcoekpomiljofaaSlc
import Derived.Deep.MidRow
namespace Go.Proofs.Ytcoekpomiljofaa
open Go.RowKit
set_option linter.unusedVariables false
theorem slc_src {w : World} {A : Option Addr} {xs : List Int} (h : Slc w A xs) : Src w A xs := fun h0 => by
  rcases h.2 with rfl | ⟨b, off, rfl, _, hc⟩
  · simp at h0
  · refine ⟨_, rfl, fun j v hv => ?_⟩
    rw [List.getElem?_map] at hv
    cases hx : xs[j]? with
    | none => simp [hx] at hv
    | some x =>
      simp [hx] at hv
      have e : (⟨b, off, none⟩ : Addr).add j = ⟨b, off + j, none⟩ := by unfold Addr.add; split <;> simp_all
      rw [e, ← hv]
      exact hc j x hx
theorem slL_rep8 : ∀ n, slL (List.replicate n Hd.zero) (List.replicate (n * 2) 0) = List.replicate n ⟨Hd.zero, 0, 0⟩
  | 0 => rfl
  | n + 1 => by
    have e : (n + 1) * 2 = n * 2 + 1 + 1 := by omega
    rw [e]
    simp only [List.replicate_succ, slL, slL_rep8 n]
theorem acc_eq (w : World) : (Op.equalIn 10000 61 (.agg #[.int .i64 1, .int .i64 1, .int .i64 1, .int .i64 0, .int .i64 1, .bool true]) (.agg #[.int .i64 1, .int .i64 1, .int .i64 1, .int .i64 0, .int .i64 1, .bool true])).run Try.prog w = .ok true w := by
  simp [go_sem]
theorem slot_eq (w : World) : (Op.equalIn 10000 59 (.agg #[.int .i64 0, .int .i64 0, .int .i64 0, .int .i64 0, .bool false, .int .i64 0, .int .u64 0, .int .u64 0]) (.agg #[.int .i64 0, .int .i64 0, .int .i64 0, .int .i64 0, .bool false, .int .i64 0, .int .u64 0, .int .u64 0])).run Try.prog w = .ok true w := by
  simp [go_sem, sig_same9]
/-- The view's cells, written over. -/
def OverC (wB : World) (F : List Nat) (a n c : Nat) (wr : World) : Prop := (∃ l : List Int, l.length = n ∧ LocR wr F a 2 1 n c (l.flatMap RowI.cells)) ∧ Keeps [a] wB wr
theorem OverC.spot {wB wr : World} {F : List Nat} {a n c k : Nat} (h : OverC wB F a n c wr) (hk : k < n) : (∃ x : Int, wr.cell? ⟨a, k, none⟩ = some (.int .i64 x)) ∧ wr.frozen? ⟨a, k, none⟩ = false := by
  obtain ⟨⟨l, hl, h1⟩, _⟩ := h
  exact ⟨⟨l[k]'(by omega), h1.cell (RowI.cells_get l k _ (List.getElem?_eq_getElem (by omega)))⟩, h1.frozen k⟩
theorem OverC.put {wB wr : World} {F : List Nat} {a n c : Nat} (h : OverC wB F a n c wr) (k : Nat) (x : Int) : OverC wB F a n c (wr.setCell ⟨a, k, none⟩ (.int .i64 x)) := by
  obtain ⟨⟨l, hl, h1, h2⟩, h3⟩ := h
  refine ⟨⟨l.set k x, by simpa using hl, ?_, h2⟩, h3.setCell (.inl (by simp)) _⟩
  have := (h1.stored k (.int .i64 x)).1
  rw [RowI.cells_map, ← List.map_set] at this
  rw [RowI.cells_map]
  exact this
theorem OverC.drew {wB wr : World} {F : List Nat} {a n c : Nat} (h : OverC wB F a n c wr) : OverC wB F a n c wr.drew := by
  obtain ⟨⟨l, hl, h1⟩, h3⟩ := h
  exact ⟨⟨l, hl, h1.calm (Keeps.refl [] _).drew⟩, h3.drew⟩
/-- A row of the call's own, written over. -/
def OverR (wB : World) (F : List Nat) (a : Nat) (t : TypeId) (size n c : Nat) (wr : World) : Prop := (∃ cs : List Value, LocR wr F a t size n c cs) ∧ Keeps [a] wB wr
theorem OverR.spot {wB wr : World} {F : List Nat} {a size n c k : Nat} {t : TypeId} (h : OverR wB F a t size n c wr) (hk : k < n * size) : (∃ u, wr.cell? ⟨a, k, none⟩ = some u) ∧ wr.frozen? ⟨a, k, none⟩ = false := by
  obtain ⟨⟨cs, h1⟩, _⟩ := h
  have hl : cs.length = n * size := h1.own.1
  exact ⟨⟨cs[k]'(by omega), h1.cell (List.getElem?_eq_getElem (by omega))⟩, h1.frozen k⟩
theorem OverR.put {wB wr : World} {F : List Nat} {a size n c : Nat} {t : TypeId} (h : OverR wB F a t size n c wr) (k : Nat) (u : Value) : OverR wB F a t size n c (wr.setCell ⟨a, k, none⟩ u) := by
  obtain ⟨⟨cs, h1, h2⟩, h3⟩ := h
  exact ⟨⟨_, (h1.stored k u).1, h2⟩, h3.setCell (.inl (by simp)) _⟩
theorem ev_row0 (w : World) (k : Nat) (hk : w.heap.size = k) : (w.alloc (.cells #[.int .i64 0, .int .i64 0, .int .i64 0, .int .i64 0, .int .i64 0, .int .i64 0, .bool false, .int .i64 0, .int .i64 0, .int .i64 0] 27)).ownsRow 0 27 10 (.slice (some ⟨k, 0, none⟩) 1 1) 1 [.int .i64 0, .int .i64 0, .int .i64 0, .int .i64 0, .int .i64 0, .int .i64 0, .bool false, .int .i64 0, .int .i64 0, .int .i64 0] := by
  subst hk
  exact ⟨rfl, .inr ⟨w.heap.size, 1, _, rfl, Nat.zero_le _, heap_alloc_new w _, Nat.le_refl _, by decide, rfl, rfl⟩⟩
theorem ev_ones0 : ∀ u ∈ [Value.int .i64 0, .int .i64 0, .int .i64 0, .int .i64 0, .int .i64 0, .int .i64 0, .bool false, .int .i64 0, .int .i64 0, .int .i64 0], u.oneCell' = true := by
  intro u hu
  simp only [List.mem_cons, List.not_mem_nil, or_false] at hu
  rcases hu with rfl | rfl | rfl | rfl | rfl | rfl | rfl | rfl | rfl | rfl <;> rfl
theorem acc_row0 (w : World) (k : Nat) (hk : w.heap.size = k) : (w.alloc (.cells #[.int .i64 0, .int .i64 0, .int .i64 0, .int .i64 0, .int .i64 0, .bool false] 61)).ownsRow 0 61 6 (.slice (some ⟨k, 0, none⟩) 1 1) 1 [.int .i64 0, .int .i64 0, .int .i64 0, .int .i64 0, .int .i64 0, .bool false] := by
  subst hk
  exact ⟨rfl, .inr ⟨w.heap.size, 1, _, rfl, Nat.zero_le _, heap_alloc_new w _, Nat.le_refl _, by decide, rfl, rfl⟩⟩
theorem acc_ones0 : ∀ u ∈ [Value.int .i64 0, .int .i64 0, .int .i64 0, .int .i64 0, .int .i64 0, .bool false], u.oneCell' = true := by
  intro u hu
  simp only [List.mem_cons, List.not_mem_nil, or_false] at hu
  rcases hu with rfl | rfl | rfl | rfl | rfl | rfl <;> rfl
theorem OverR.sets {wB : World} {F : List Nat} {a size n c : Nat} {t : TypeId} : ∀ (vs : List Value) (k : Nat) {wr : World}, OverR wB F a t size n c wr → OverR wB F a t size n c (wr.setCells a k vs)
  | [], _, _, h => h
  | v :: vs, k, _, h => OverR.sets vs (k + 1) (h.put k v)
theorem OverR.there {wB wr : World} {F : List Nat} {a size n c k m : Nat} {t : TypeId} (h : OverR wB F a t size n c wr) (hk : k + m ≤ n * size) : wr.there a k m := fun j hj => by
  obtain ⟨⟨u, hu⟩, hf⟩ := h.spot (k := k + j) (by omega)
  exact ⟨by rw [hu]; rfl, hf⟩
section
variable {w0 w w' : World} {z : Sb} {F : List Nat} {S : Sp} {a b size n c : Nat} {s t : TypeId} {cs : Array Value} {xs : List Value}
theorem LocR.ty (h : LocR w F a t size n c xs) : tyOf w a = some t := own_tyOf h.own rfl
theorem Loc.ty (h : Loc w F b t cs) : tyOf w b = some t := h.blk.tyOf
theorem ne_ty (ha : tyOf w a = some s) (hb : tyOf w b = some t) (h : s ≠ t) : a ≠ b := by
  rintro rfl
  rw [ha] at hb
  injection hb with hb
  exact h hb
/-- A local row is written. -/
theorem SP.wrote (h : SP w0 w z F S) (hk : Keeps [a] w w') (h1 : w0.heap.size ≤ a) (h2 : a ∉ F) (h3 : tyOf w a = some t) (h4 : t ∉ spFix) : SP w0 w' z F S :=
  h.away hk (fun x hx => by
    simp at hx
    subst hx
    exact ⟨h1, h2, fun t' ht' => by rw [h3] at ht'; injection ht' with ht'; subst ht'; exact h4⟩)
end
end Go.Proofs.Ytcoekpomiljofaa
