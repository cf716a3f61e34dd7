/- Rows of one's own that are written over: facts for SigSets. -/
import Derived.Test.YtlpgcfgnimchaaaDoorSigRAsk
import Derived.Test.YtlpgcfgnimchaaaDoorSigRBits
import Derived.Test.YtlpgcfgnimchaaaDoorSigRJoin
import Derived.Laws.OwnMore
namespace Go.Proofs.YtlpgcfgnimchaaaDoor
open Go.RowKit
set_option linter.unusedVariables false
theorem cnt_bits (s : Sg) (hs : s.ok) : (bitsL s).length = cnt s := by
  unfold bitsL cnt pc
  rw [List.length_append, List.length_map, List.length_map, bl_eq s.a hs.1, bl_eq s.b hs.2, List.countP_eq_length_filter, List.countP_eq_length_filter]
theorem words_len (m : Sg) : (wordsL m).length ≤ 2 := by
  unfold wordsL P2 P1 P0
  split <;> split <;> simp
theorem RowAt.far {wa wb wc wd : World} {v v' : Value} {l l' : List Int} (h : RowAt wa wb v l) (h' : RowAt wc wd v' l') (hs : wb.heap.size ≤ wc.heap.size) : ∀ k, v.ownBlock = some k → k ∉ v'.ownBlock.toList := by
  intro k hk hm
  have h1 := own_lt h.1 hk
  have h2 := (h'.1.lt k (by simpa using hm)).1
  omega
theorem RowAt.far' {wa wb wc wd : World} {v v' : Value} {l l' : List Int} (h : RowAt wa wb v l) (h' : RowAt wc wd v' l') (hs : wb.heap.size ≤ wc.heap.size) : ∀ k, v'.ownBlock = some k → k ∉ v.ownBlock.toList := by
  intro k hk hm
  exact RowAt.far h h' hs k (by simpa using hm) (by simp [hk])
theorem slc_own {w : World} {base n c e : Nat} {A : Option Addr} {l : List Int} (h : w.ownsRow base e 1 (.slice A n c) n (l.map (Value.int .i64))) (hf : l.length ≤ maxLen) : Slc w A l := by
  obtain ⟨A', c', hv, _, hS⟩ := Slc.of_own h hf
  injection hv with h1
  exact h1 ▸ hS
/-- A row of the call's own that the loop writes over. -/
def Over (wB : World) (S : List Nat) (v : Value) (n : Nat) (wr : World) : Prop := (∃ xs : List Int, wr.ownsRow 0 3 1 v n (xs.map (Value.int .i64))) ∧ Keeps S wB wr
theorem Over.spot {wB wr : World} {S : List Nat} {A : Option Addr} {n c : Nat} (h : Over wB S (.slice A n c) n wr) {k : Nat} (hk : k < n) : ∃ g, A = some ⟨g, 0, none⟩ ∧ (∃ z : Int, wr.cell? ⟨g, k, none⟩ = some (.int .i64 z)) ∧ wr.frozen? ⟨g, k, none⟩ = false := by
  obtain ⟨⟨xs, ho⟩, _⟩ := h
  have hl : xs.length = n := by have := ho.1; simpa using this
  rcases ho.2 with ⟨h0, h1⟩ | ⟨g, cap, cur, h0, _⟩
  · omega
  · injection h0 with h1 h2 h3
    subst h1 h3
    refine ⟨g, rfl, ?_, ho.frozenAt k⟩
    have hc := ho.cellAt k (by omega)
    rw [List.getElem?_map, List.getElem?_eq_getElem (by omega)] at hc
    exact ⟨_, hc⟩
theorem Over.put {wB wr : World} {S : List Nat} {g n c : Nat} (h : Over wB S (.slice (some ⟨g, 0, none⟩) n c) n wr) (hS : g ∈ S) (k : Nat) (z : Int) : Over wB S (.slice (some ⟨g, 0, none⟩) n c) n (wr.setCell ⟨g, k, none⟩ (.int .i64 z)) := by
  obtain ⟨⟨xs, ho⟩, hk⟩ := h
  refine ⟨⟨xs.set k z, ?_⟩, hk.setCell (.inl hS) _⟩
  have := (ho.stored k (.int .i64 z)).1
  rwa [List.map_set]
theorem Over.of {wa wr : World} {v : Value} {n : Nat} {l : List Int} {S : List Nat} (h : wr.ownsRow wa.heap.size 3 1 v n (l.map (Value.int .i64))) : Over wr S v n wr := ⟨⟨l, own_base h (fun k _ => Nat.zero_le k)⟩, Keeps.refl _ _⟩
end Go.Proofs.YtlpgcfgnimchaaaDoor
