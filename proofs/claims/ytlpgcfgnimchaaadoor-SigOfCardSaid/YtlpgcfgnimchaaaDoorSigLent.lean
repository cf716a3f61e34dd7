/- quashlaw02.lent. -/
import Derived.Test.YtlpgcfgnimchaaaDoorSigBits
import Derived.Test.YtlpgcfgnimchaaaDoorSrc
import Derived.Test.YtlpgcfgnimchaaaDoorSigSame
import Derived.Deep.AppendLies
namespace Go.Proofs.YtlpgcfgnimchaaaDoor
open Go.RowKit
set_option linter.unusedVariables false
theorem ownsRow_new (w : World) (e size k : Nat) (hk : w.heap.size = k) : (w.alloc (.cells #[] e)).ownsRow 0 e size (.slice (some ⟨k, 0, none⟩) 0 0) 0 [] := by
  subst hk
  exact World.ownsRow_made _ _ _ (Nat.zero_le _) (by decide) (by simp)
theorem add0 (b off j : Nat) : (⟨b, off, none⟩ : Addr).add j = ⟨b, off + j, none⟩ := by unfold Addr.add; split <;> simp_all
theorem Slc.src {w w' : World} {A : Option Addr} {xs : List Int} (h : Slc w A xs) (hk : Keeps [] w w') : 0 < xs.length → ∃ ad, A = some ad ∧ ∀ j u, (xs.map (Value.int .i64))[j]? = some u → w'.cell? (ad.add j) = some u := by
  intro hp
  rcases (h.keeps hk).2 with h0 | ⟨b, off, rfl, hb, hc⟩
  · subst h0; simp at hp
  · refine ⟨_, rfl, fun j u hu => ?_⟩
    rw [List.getElem?_map] at hu
    obtain ⟨x, hx, rfl⟩ := Option.map_eq_some_iff.1 hu
    rw [add0]
    exact hc j x hx
theorem Slc.left {w : World} {A : Option Addr} {xs ys : List Int} (h : Slc w A (xs ++ ys)) : Slc w A xs := by
  refine ⟨by have := h.1; simp at this; omega, ?_⟩
  rcases h.2 with h0 | ⟨b, off, rfl, hb, hc⟩
  · exact .inl (by simp at h0; exact h0.1)
  · refine .inr ⟨b, off, rfl, hb, fun k x hx => hc k x ?_⟩
    rw [List.getElem?_append_left (List.getElem?_eq_some_iff.1 hx).1]
    exact hx
/-- What lent answers: the list, marks behind it. -/
def Lent (w w' : World) (v : Value) (xs : List Int) : Prop := ∃ g c, v = .slice (some ⟨g, 0, none⟩) xs.length c ∧ xs.length + 2 ≤ c ∧ c ≤ maxLen ∧ Slc w' (some ⟨g, 0, none⟩) (xs ++ [991, 992]) ∧ Keeps [] w w'
theorem grown2 {w w1 w2 : World} {v1 : Value} (hg1 : (w.alloc (.cells #[] 3)).grownBy w1 (some w.heap.size)) (hat1 : v1.ownBlock = some w.heap.size ∨ v1.ownBlock = some (w.alloc (.cells #[] 3)).heap.size) (o : Obj) (hg2 : (w1.alloc o).grownBy w2 v1.ownBlock) : Keeps [] w w2 := by
  have h1 : Keeps [] w w1 := ((Keeps.refl [] w).alloc _).grown hg1 (by intro k hk; injection hk with hk; exact .inr (by omega))
  refine (h1.alloc o).grown hg2 ?_
  intro k hk
  right
  rcases hat1 with e | e <;> rw [e] at hk <;> simp at hk <;> omega
theorem own_cap {w : World} {g n m cap : Nat} {xs : List Value} (h : w.ownsRow 0 3 1 (.slice (some ⟨g, 0, none⟩) n cap) m xs) : n ≤ cap ∧ cap ≤ maxLen := by
  rcases h.2 with ⟨h0, _⟩ | ⟨g', cap', cur, h0, _, _, h1, h2, _⟩
  · cases h0
  · injection h0 with _ h3 h4
    subst h3 h4
    exact ⟨h1, h2⟩
theorem own_cap2 {w : World} {g m cap k : Nat} {xs : List Value} (h : w.ownsRow 0 3 1 (.slice (some ⟨g, 0, none⟩) (0 + k + 2) cap) m xs) : k ≤ cap := by
  have := (own_cap h).1
  omega
theorem lent_of {w w2 : World} {g cap : Nat} {xs : List Int} (hK : Keeps [] w w2) (h : w2.ownsRow 0 3 1 (.slice (some ⟨g, 0, none⟩) (0 + xs.length + 2) cap) (0 + xs.length + 2) ([] ++ xs.map (Value.int .i64) ++ [.int .i64 991, .int .i64 992])) (hlt : g < w2.heap.size) (hl : xs.length + 2 ≤ maxLen) :
    Lent w w2 (.slice (some ⟨g, 0, none⟩) xs.length cap) xs := by
  have hc := own_cap h
  refine ⟨g, cap, rfl, by omega, hc.2, ⟨by simpa using hl, .inr ⟨g, 0, rfl, hlt, fun k x hx => ?_⟩⟩, hK⟩
  have := h.cells (g := g) rfl k (.int .i64 x) (by
    have e : [] ++ xs.map (Value.int .i64) ++ [Value.int .i64 991, .int .i64 992] = (xs ++ [991, 992]).map (Value.int .i64) := by simp
    rw [e, List.getElem?_map, hx]; rfl)
  rwa [add0] at this
set_option maxHeartbeats 1000000 in
theorem lent_any (w : World) (A : Option Addr) (c : Nat) (xs : List Int) (hA : Slc w A xs) (hl : (xs.length + 2) * 8 ≤ 140737488355328) :
    Calls Tryd.prog 12 #[.slice A xs.length c] w fun e w' => ∃ v, e = .returned v ∧ Lent w w' v xs := by
  obtain ⟨i0, hi, hz0, hz1, hz2⟩ := info_parts Tryd.infoInt
  have HA := Lib.hid hA
  have hmx : Hid (0 + xs.length ≤ maxLen) := by unfold Hid maxLen; omega
  have hby : Hid ((0 + xs.length) * 8 ≤ 140737488355328) := by unfold Hid; omega
  have hmx2 : Hid (0 + xs.length + 2 ≤ maxLen) := by unfold Hid maxLen; omega
  have hby2 : Hid ((0 + xs.length + 2) * 8 ≤ 140737488355328) := by unfold Hid; omega
  clear hA
  go_enter Tryd.func12, Tryd.ntmps12
  go_wp2_with (first
    | (at_builtin; refine wpList_append_src (o := ⟨some 6, _, _, _, _, _⟩) rfl (.tmp 4) (.tmp 5) 27 rfl 3 i0 _ 1 8 Tryd.underlying27 hi hz0 hz1 hz2 rfl (by decide) (.slice (some ⟨w.heap.size, 0, none⟩) 0 0) 0 [] rfl (ownsRow_new _ _ _ _ rfl) A xs.length c (xs.map (Value.int .i64)) rfl (by simp) (HA.out.src ((Keeps.refl [] w).alloc _)) (one_ints _) hmx.out hby.out ?_; intro v1 w1 hown1 hg1 hat1)
    | (at_builtin; refine wpList_append_lies _ (o := ⟨some 9, _, _, _, _, _⟩) rfl (.tmp 7) (.tmp 8) 27 rfl 0 3 i0 _ 1 8 Tryd.underlying27 hi hz0 hz1 hz2 rfl (by decide) v1 (0 + xs.length) ([] ++ xs.map (Value.int .i64)) rfl (hown1.alloc _) ⟨w1.heap.size, 0, none⟩ 2 2 [.int .i64 991, .int .i64 992] rfl rfl (World.news_of_block (new_at _ _ _ rfl)) (by simp [Value.oneCell']) (by decide) hmx2.out hby2.out (Nat.zero_le _) _ rfl ?_; intro g2 cap2 w2 hown2 hg2 hat2 hlt2; have HK := Lib.hid (grown2 hg1 hat1 _ hg2); have HO := Lib.hid hown2; have hcap := own_cap2 hown2; clear hown1 hg1 hat1 hown2 hg2 hat2))
  go_ret
  exact ⟨_, rfl, lent_of HK.out HO.out hlt2 (by have := hmx2.out; omega)⟩
end Go.Proofs.YtlpgcfgnimchaaaDoor
