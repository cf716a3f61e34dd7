/- Layer 12: what a look and a dooming tell. -/
import Derived.Test.YtcoekpomiljofaaGreatLkAt
import Derived.Deep.QuietTactic
import Derived.BigQuiet
namespace Go.Proofs.YtcoekpomiljofaaGreat
open Go.RowKit
set_option linter.unusedVariables false
section
variable {w0 w w' w'' : World} {z : Sb} {F G : List Nat} {S S' : Sp} {k b : Nat} {x x' : Lk} {tv wv vv : Value}
theorem lk_done (h : LkAt w z b tv wv vv x) : Calls Tryz.prog 105 #[PT b] w fun e w' => e = .returned (.bool x.turns.isEmpty) ∧ w = w' := by
  have c4 : w.cell? ⟨b, 4, none⟩ = some tv := (Blk.cell h.blk 4).trans rfl
  obtain ⟨_, A, c, rfl, _⟩ := h.turns
  clear h
  cases ht : x.turns with
  | nil =>
    rw [ht] at c4
    simp only [List.length_nil] at c4
    clear ht
    go_enter Tryz.func105, Tryz.ntmps105
    go_wp2
    go_ret
    exact ⟨rfl, rfl⟩
  | cons t l =>
    rw [ht] at c4
    simp only [List.length_cons] at c4
    have h4 : (((l.length + 1 : Nat) : Int) == 0) = false := by simp; omega
    clear ht
    generalize l.length + 1 = m at c4 h4
    go_enter Tryz.func105, Tryz.ntmps105
    go_wp2
    go_ret
    exact ⟨rfl, rfl⟩
theorem lk_turned (h : LkAt w z b tv wv vv x) (tv' : Value) (hs : SlR w 3 1 tv' x.turn.turns.length (x.turn.turns.map (Value.int .i64))) (hv : ∀ q, q ∈ vblk tv' → q ∈ vblk tv) :
    ∃ tv'', LkAt (((w.setCell ⟨b, 4, none⟩ tv').setCell ⟨b, 11, none⟩ (.slice none 0 0)).setCell ⟨b, 12, none⟩ (.bool false)) z b tv'' (.slice none 0 0) vv x.turn ∧ Keeps [b] w (((w.setCell ⟨b, 4, none⟩ tv').setCell ⟨b, 11, none⟩ (.slice none 0 0)).setCell ⟨b, 12, none⟩ (.bool false)) ∧ (∀ q, q ∈ vblk tv'' → q ∈ vblk tv) := by
  have hk : Keeps [b] w (((w.setCell ⟨b, 4, none⟩ tv').setCell ⟨b, 11, none⟩ (.slice none 0 0)).setCell ⟨b, 12, none⟩ (.bool false)) := (((Keeps.refl [b] w).setCell (.inl (by simp)) _).setCell (.inl (by simp)) _).setCell (.inl (by simp)) _
  refine ⟨tv', ⟨?_, hs.keeps hk ?_, World.ownsRow_nil _ _ _ _, own_keeps h.vs hk ?_⟩, hk, hv⟩
  · have := ((h.blk.set_ 4 tv').set_ 11 (.slice none 0 0)).set_ 12 (.bool false)
    simpa [Lk.turn] using this
  · intro q hq hx
    simp at hx
    subst hx
    have h1 := hs.ty q hq
    rw [h.blk.tyOf] at h1
    revert h1
    decide
  · intro q hq hx
    simp at hx
    subst hx
    exact own_blk_ne h.vs h.blk (by decide) hq
theorem lk_turn (h : LkAt w z b tv wv vv x) (hne : x.turns ≠ []) : Calls Tryz.prog 159 #[PT b] w fun e w' => e = .returned (.tuple #[]) ∧ ∃ tv', LkAt w' z b tv' (.slice none 0 0) vv x.turn ∧ Keeps [b] w w' ∧ (∀ q, q ∈ vblk tv' → q ∈ vblk tv) := by
  have c4 : w.cell? ⟨b, 4, none⟩ = some tv := (Blk.cell h.blk 4).trans rfl
  have f4 := h.blk.frozen 4
  have f11 := h.blk.frozen 11
  have f12 := h.blk.frozen 12
  have c11 : w.cell? ⟨b, 11, none⟩ = some wv := (Blk.cell h.blk 11).trans rfl
  have c12 : w.cell? ⟨b, 12, none⟩ = some (.bool x.looked) := (Blk.cell h.blk 12).trans rfl
  obtain ⟨n, hn⟩ : ∃ n, x.turns.length = n + 1 := ⟨x.turns.length - 1, by have := List.length_pos_iff.2 hne; omega⟩
  have hs := h.turns
  rw [hn] at hs
  obtain ⟨g, off, c, rfl, hc, hm, _⟩ := hs.spot
  obtain ⟨hc1, hc2⟩ := hs.cut1
  have HC := Lib.hid (And.intro hc1 hc2)
  have hnc : (1 : Int) ≤ (n + 1 : Nat) := by omega
  have hnc2 : ((n + 1 : Nat) : Int) ≤ (c : Int) := by omega
  have HB := Lib.hid h
  have HN := Lib.hid hn
  have hd : (x.turns.map (Value.int .i64)).drop 1 = x.turn.turns.map (Value.int .i64) := by show _ = x.turns.tail.map _; rw [List.map_tail, List.drop_one]
  have hl : n = x.turn.turns.length := by show n = x.turns.tail.length; rw [List.length_tail, hn]; rfl
  have HD := Lib.hid (And.intro hd hl)
  clear h hn hne hc1 hc2 hs hd hl
  go_enter Tryz.func159, Tryz.ntmps159
  go_wp2
  all_goals
    go_end0
    first
      | (have e : c = 1 := by assumption
         subst e
         exact ⟨rfl, lk_turned HB.out _ (HD.out.1 ▸ HD.out.2 ▸ HC.out.1 rfl) (fun q hq => by simpa [vblk, Value.ownBlock] using hq)⟩)
      | exact ⟨rfl, lk_turned HB.out _ (HD.out.1 ▸ HD.out.2 ▸ HC.out.2 (by assumption)) (fun q hq => by simpa [vblk, Value.ownBlock] using hq)⟩
end
end Go.Proofs.YtcoekpomiljofaaGreat

namespace Go.Proofs.YtcoekpomiljofaaGreat
open Go.RowKit
set_option linter.unusedVariables false
theorem vc_one (l : List Vc) : ∀ u ∈ vcCells l, u.oneCell' = true := by
  intro u hu
  simp only [vcCells, List.mem_flatMap] at hu
  obtain ⟨x, _, hx⟩ := hu
  simp only [Vc.cells, List.mem_cons, List.not_mem_nil, or_false] at hx
  rcases hx with rfl | rfl | rfl | rfl <;> rfl
section
variable {w0 w w' w'' : World} {z : Sb} {F G : List Nat} {S S' : Sp} {k b : Nat} {x x' : Lk} {y : Dm} {tv wv vv lv dv : Value}
theorem lk_victims (h : LkAt w z b tv wv vv x) (hl : x.victims.length ≤ 1099511627776) : Calls Tryz.prog 72 #[PT b] w fun e w' => ∃ v, e = .returned v ∧ NewRow 216 4 x.victims.length (vcCells x.victims) [] w w' v := by
  have c7 : w.cell? ⟨b, 13, none⟩ = some vv := (Blk.cell h.blk 13).trans rfl
  have hplt := h.blk.lt
  have hpne : b ≠ w.heap.size := by omega
  have HO := Lib.hid h.vs
  have hmx : Hid (0 + x.victims.length ≤ maxLen) := by unfold Hid maxLen; omega
  have hby : Hid ((0 + x.victims.length) * 32 ≤ 140737488355328) := by unfold Hid; omega
  clear h hl
  obtain ⟨i0, hi, hz0, hz1, hz2⟩ := info_parts Tryz.infoVc
  go_enter Tryz.func72, Tryz.ntmps72
  go_wp2_with (at_builtin; refine wpList_append_row rfl (.tmp 3) (.tmp 7) 88 rfl 216 i0 _ 4 32 Tryz.underlying88 hi hz0 hz1 hz2 rfl (by decide) (.slice (some ⟨w.heap.size, 0, none⟩) 0 0) 0 [] rfl (World.ownsRow_made _ _ _ (Nat.zero_le _) (by decide) rfl) vv x.victims.length (vcCells x.victims) rfl (own_keeps HO.out ((Keeps.refl [] _).alloc _) (by simp)) (vc_one _) hmx.out hby.out ?_; intro v1 w1 hown1 hg1 hat1)
  go_ret
  refine ⟨v1, rfl, own_base (by simpa using hown1) ?_, (Keeps.refl _ _).alloc _ |>.grown hg1 ?_⟩
  · intro k hk
    rcases hat1 with e | e <;> rw [e] at hk <;> simp [Value.ownBlock] at hk <;> omega
  · simp [Value.ownBlock]
theorem dm_doomed (h : DmAt w z b lv dv y) (hl : y.doomed.length ≤ 1099511627776) : Calls Tryz.prog 111 #[PT b] w fun e w' => ∃ v, e = .returned v ∧ NewRow 216 4 y.doomed.length (vcCells y.doomed) [] w w' v := by
  have c7 : w.cell? ⟨b, 3, none⟩ = some dv := (Blk.cell h.blk 3).trans rfl
  have hplt := h.blk.lt
  have hpne : b ≠ w.heap.size := by omega
  have HO := Lib.hid h.doomed
  have hmx : Hid (0 + y.doomed.length ≤ maxLen) := by unfold Hid maxLen; omega
  have hby : Hid ((0 + y.doomed.length) * 32 ≤ 140737488355328) := by unfold Hid; omega
  clear h hl
  obtain ⟨i0, hi, hz0, hz1, hz2⟩ := info_parts Tryz.infoVc
  go_enter Tryz.func111, Tryz.ntmps111
  go_wp2_with (at_builtin; refine wpList_append_row rfl (.tmp 3) (.tmp 7) 88 rfl 216 i0 _ 4 32 Tryz.underlying88 hi hz0 hz1 hz2 rfl (by decide) (.slice (some ⟨w.heap.size, 0, none⟩) 0 0) 0 [] rfl (World.ownsRow_made _ _ _ (Nat.zero_le _) (by decide) rfl) dv y.doomed.length (vcCells y.doomed) rfl (own_keeps HO.out ((Keeps.refl [] _).alloc _) (by simp)) (vc_one _) hmx.out hby.out ?_; intro v1 w1 hown1 hg1 hat1)
  go_ret
  refine ⟨v1, rfl, own_base (by simpa using hown1) ?_, (Keeps.refl _ _).alloc _ |>.grown hg1 ?_⟩
  · intro k hk
    rcases hat1 with e | e <;> rw [e] at hk <;> simp [Value.ownBlock] at hk <;> omega
  · simp [Value.ownBlock]
theorem dm_done (h : DmAt w z b lv dv y) : Calls Tryz.prog 110 #[PT b] w fun e w' => e = .returned (.bool y.left.isEmpty) ∧ w = w' := by
  have c4 : w.cell? ⟨b, 2, none⟩ = some lv := (Blk.cell h.blk 2).trans rfl
  obtain ⟨_, A, c, rfl, _⟩ := h.left
  clear h
  cases ht : y.left with
  | nil =>
    rw [ht] at c4
    simp only [List.length_nil] at c4
    clear ht
    go_enter Tryz.func110, Tryz.ntmps110
    go_wp2
    go_ret
    exact ⟨rfl, rfl⟩
  | cons t l =>
    rw [ht] at c4
    simp only [List.length_cons] at c4
    have h4 : (((l.length + 1 : Nat) : Int) == 0) = false := by simp; omega
    clear ht
    generalize l.length + 1 = m at c4 h4
    go_enter Tryz.func110, Tryz.ntmps110
    go_wp2
    go_ret
    exact ⟨rfl, rfl⟩
end
end Go.Proofs.YtcoekpomiljofaaGreat
