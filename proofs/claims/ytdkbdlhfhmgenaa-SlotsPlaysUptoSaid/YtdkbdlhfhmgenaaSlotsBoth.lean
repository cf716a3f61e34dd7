/- A call of a table and of the document's table: the same answer, the same end. -/
import Derived.Test.YtdkbdlhfhmgenaaRefSlots
namespace Go.Proofs.Ytdkbdlhfhmgenaa
open Go.RowKit
set_option linter.unusedVariables false
theorem note_one6 (s : MS) (a p o : Int) (y : Bool) : (s.note a p o y).log.length ≤ s.log.length + 1 := by
  show (s.log ++ [_]).length ≤ _
  simp
section
variable {H : List Hd} {W : List Int} {s : MS} {k : Nat}
theorem both_claim (hg : Gens k H) (hk : k ≤ 4611686018427387903) (hW : W.length = 2 * H.length) (hl : s.log.length < 2199023255552) (m : Nat) (t : Tb) (z n d : Nat) (sl th : Int) : ∃ (a b : Int) (H' : List Hd) (s' : MS), Gens (k + 1) H' ∧ s'.log.length ≤ s.log.length + 1 ∧
    (∀ w lb, TabAt w t (some m) H W → MetAt MT w (some m) lb s → Calls Try.prog 24 #[.pointer (some ⟨t.q, 0, none⟩), .int .i64 sl, .int .i64 th] w fun e w' => e = .returned (.tuple #[.int .i64 a, .int .i64 b]) ∧ TLeft t (some m) H' W lb s' w w') ∧
    (∀ w lbx, RT w z n d H W → MetAt XT w (some n) lbx s → Calls Try.prog 64 #[.pointer (some ⟨z, 0, none⟩), .int .i64 sl, .int .i64 th] w fun e w' => e = .returned (.tuple #[.int .i64 a, .int .i64 b]) ∧ RTLeft z n d H' W lbx s' w w') := by
  by_cases ht : 1 ≤ th ∧ th ≤ 8
  · by_cases hs : 0 ≤ sl ∧ sl < H.length
    · skip
      obtain ⟨i, rfl⟩ : ∃ i : Nat, sl = i := ⟨sl.toNat, by omega⟩
      obtain ⟨x, hx⟩ : ∃ x, H[i]? = some x := ⟨_, List.getElem?_eq_getElem (by omega)⟩
      have hgx := hg i x hx
      by_cases h0 : x.state = 0
      · have hwg : wrap64 (x.gen + 1) = x.gen + 1 := by unfold wrap64; omega
        exact ⟨x.gen + 1, 0, H.set i ⟨x.gen + 1, 1, 0, th, false, 0⟩, s.note 3 i 3 true, (Moved.set (s := i) hg ⟨x.gen + 1, 1, 0, th, false, 0⟩ (by simp only; omega) (by simp only; omega)).gens, note_one6 _ _ _ _ _, fun w lb hT hM => by have h := claim_ok w t (some m) H W hT lb s hM (fun _ => hl) i x hx th ht.1 ht.2 h0; rw [hwg] at h; exact h, fun w lbx hR hX => rclaim_ok w z n d H W hR lbx s hX hl i x hx th ht.1 ht.2 hgx.1 (by omega) h0⟩
      · exact ⟨0, 5, H, s.note 3 i 3 false, (Moved.same (s := 0) hg).gens, note_one6 _ _ _ _ _, fun w lb hT hM => claim_held w t (some m) H W hT lb s hM (fun _ => hl) i x hx th ht.1 ht.2 (by omega) h0, fun w lbx hR hX => rclaim_held w z n d H W hR lbx s hX hl i x hx th ht.1 ht.2 h0⟩
    · exact ⟨0, 2, H, s, (Moved.same (s := 0) hg).gens, by omega, fun w lb hT hM => (claim_place w t (some m) H W hT sl (by omega) th ht.1 ht.2).mono fun e w' ⟨he, hk'⟩ => ⟨he, TLeft.rest hT hM hk'⟩, fun w lbx hR hX => (rclaim_place w z n d H W hR sl (by omega) th ht.1 ht.2).mono fun e w' ⟨he, hw⟩ => ⟨he, RTLeft.rest hR hX (hw ▸ Keeps.refl _ _)⟩⟩
  · exact ⟨0, 1, H, s, (Moved.same (s := 0) hg).gens, by omega, fun w lb hT hM => (claim_bad w t.q sl th (by omega)).mono fun e w' ⟨he, hk'⟩ => ⟨he, TLeft.rest hT hM hk'⟩, fun w lbx hR hX => (rclaim_bad w z sl th (by omega)).mono fun e w' ⟨he, hw⟩ => ⟨he, RTLeft.rest hR hX (hw ▸ Keeps.refl _ _)⟩⟩
theorem both_ready (hg : Gens k H) (hk : k ≤ 4611686018427387903) (hW : W.length = 2 * H.length) (hl : s.log.length < 2199023255552) (m : Nat) (t : Tb) (z n d : Nat) (sl g st : Int) : ∃ (b : Int) (H' : List Hd) (s' : MS), Gens (k + 1) H' ∧ s'.log.length ≤ s.log.length + 1 ∧
    (∀ w lb, TabAt w t (some m) H W → MetAt MT w (some m) lb s → Calls Try.prog 25 #[.pointer (some ⟨t.q, 0, none⟩), .int .i64 sl, .int .i64 g, .int .i64 st] w fun e w' => e = .returned (.int .i64 b) ∧ TLeft t (some m) H' W lb s' w w') ∧
    (∀ w lbx, RT w z n d H W → MetAt XT w (some n) lbx s → Calls Try.prog 65 #[.pointer (some ⟨z, 0, none⟩), .int .i64 sl, .int .i64 g, .int .i64 st] w fun e w' => e = .returned (.int .i64 b) ∧ RTLeft z n d H' W lbx s' w w') := by
  by_cases ht : 1 ≤ st
  · by_cases hs : 0 ≤ sl ∧ sl < H.length
    · skip
      obtain ⟨i, rfl⟩ : ∃ i : Nat, sl = i := ⟨sl.toNat, by omega⟩
      obtain ⟨x, hx⟩ : ∃ x, H[i]? = some x := ⟨_, List.getElem?_eq_getElem (by omega)⟩
      have hgx := hg i x hx
      by_cases h0 : x.state = 1
      · by_cases h1 : x.gen = g
        · exact ⟨0, H.set i ⟨x.gen, 2, st, x.thread, x.doomed, x.who⟩, s.note 3 i 3 true, (Moved.set (s := i) hg ⟨x.gen, 2, st, x.thread, x.doomed, x.who⟩ (by simp only; omega) (by simp only; omega)).gens, note_one6 _ _ _ _ _, fun w lb hT hM => ready_ok w t (some m) H W hT lb s hM (fun _ => hl) i x hx g st ht h0 h1, fun w lbx hR hX => rready_ok w z n d H W hR lbx s hX hl i x hx g st ht h0 h1⟩
        · exact ⟨4, H, s.note 3 i 3 false, (Moved.same (s := 0) hg).gens, note_one6 _ _ _ _ _, fun w lb hT hM => ready_no w t (some m) H W hT lb s hM (fun _ => hl) i x hx g st ht (by omega) h0 h1, fun w lbx hR hX => rready_no w z n d H W hR lbx s hX hl i x hx g st ht h0 h1⟩
      · exact ⟨4, H, s.note 3 i 3 false, (Moved.same (s := 0) hg).gens, note_one6 _ _ _ _ _, fun w lb hT hM => ready_not w t (some m) H W hT lb s hM (fun _ => hl) i x hx g st ht (by omega) h0, fun w lbx hR hX => rready_not w z n d H W hR lbx s hX hl i x hx g st ht h0⟩
    · exact ⟨2, H, s, (Moved.same (s := 0) hg).gens, by omega, fun w lb hT hM => (ready_place w t (some m) H W hT sl (by omega) g st ht).mono fun e w' ⟨he, hk'⟩ => ⟨he, TLeft.rest hT hM hk'⟩, fun w lbx hR hX => (rready_place w z n d H W hR sl (by omega) g st ht).mono fun e w' ⟨he, hw⟩ => ⟨he, RTLeft.rest hR hX (hw ▸ Keeps.refl _ _)⟩⟩
  · exact ⟨1, H, s, (Moved.same (s := 0) hg).gens, by omega, fun w lb hT hM => (ready_bad w t.q sl g st (by omega)).mono fun e w' ⟨he, hk'⟩ => ⟨he, TLeft.rest hT hM hk'⟩, fun w lbx hR hX => (rready_bad w z sl g st (by omega)).mono fun e w' ⟨he, hw⟩ => ⟨he, RTLeft.rest hR hX (hw ▸ Keeps.refl _ _)⟩⟩
theorem both_doom (hg : Gens k H) (hk : k ≤ 4611686018427387903) (hW : W.length = 2 * H.length) (hl : s.log.length < 2199023255552) (m : Nat) (t : Tb) (z n d : Nat) (sl g b' : Int) : ∃ (b : Int) (H' : List Hd) (s' : MS), Gens (k + 1) H' ∧ s'.log.length ≤ s.log.length + 1 ∧
    (∀ w lb, TabAt w t (some m) H W → MetAt MT w (some m) lb s → Calls Try.prog 26 #[.pointer (some ⟨t.q, 0, none⟩), .int .i64 sl, .int .i64 g, .int .i64 b'] w fun e w' => e = .returned (.int .i64 b) ∧ TLeft t (some m) H' W lb s' w w') ∧
    (∀ w lbx, RT w z n d H W → MetAt XT w (some n) lbx s → Calls Try.prog 67 #[.pointer (some ⟨z, 0, none⟩), .int .i64 sl, .int .i64 g, .int .i64 b'] w fun e w' => e = .returned (.int .i64 b) ∧ RTLeft z n d H' W lbx s' w w') := by
  by_cases ht : 1 ≤ b' ∧ b' ≤ 8
  · by_cases hs : 0 ≤ sl ∧ sl < H.length
    · skip
      obtain ⟨i, rfl⟩ : ∃ i : Nat, sl = i := ⟨sl.toNat, by omega⟩
      obtain ⟨x, hx⟩ : ∃ x, H[i]? = some x := ⟨_, List.getElem?_eq_getElem (by omega)⟩
      have hgx := hg i x hx
      by_cases hd : x.doomed = true
      · by_cases h0 : x.state = 2
        · by_cases h1 : x.gen = g
          · exact ⟨0, H, s.note 3 i 3 true, (Moved.same (s := 0) hg).gens, note_one6 _ _ _ _ _, fun w lb hT hM => by have h := doom_old w t (some m) H W hT lb s hM (fun _ => hl) i x hx g b' ht.1 ht.2 h0 h1 hd; rw [set_self hx] at h; exact h, fun w lbx hR hX => rdoom_old w z n d H W hR lbx s hX hl i x hx g b' ht.1 ht.2 h0 h1 hd⟩
          · exact ⟨4, H, s.note 3 i 3 false, (Moved.same (s := 0) hg).gens, note_one6 _ _ _ _ _, fun w lb hT hM => doom_no1 w t (some m) H W hT lb s hM (fun _ => hl) i x hx g b' ht.1 ht.2 (by omega) h0 h1 hd, fun w lbx hR hX => rdoom_no w z n d H W hR lbx s hX hl i x hx g b' ht.1 ht.2 h0 h1⟩
        · exact ⟨4, H, s.note 3 i 3 false, (Moved.same (s := 0) hg).gens, note_one6 _ _ _ _ _, fun w lb hT hM => doom_not1 w t (some m) H W hT lb s hM (fun _ => hl) i x hx g b' ht.1 ht.2 (by omega) h0 hd, fun w lbx hR hX => rdoom_not w z n d H W hR lbx s hX hl i x hx g b' ht.1 ht.2 h0⟩
      · have hd : x.doomed = false := by simpa using hd
        by_cases h0 : x.state = 2
        · by_cases h1 : x.gen = g
          · exact ⟨0, H.set i ⟨x.gen, x.state, x.stamp, x.thread, true, b'⟩, s.note 3 i 3 true, (Moved.set (s := i) hg ⟨x.gen, x.state, x.stamp, x.thread, true, b'⟩ (by simp only; omega) (by simp only; omega)).gens, note_one6 _ _ _ _ _, fun w lb hT hM => doom_new w t (some m) H W hT lb s hM (fun _ => hl) i x hx g b' ht.1 ht.2 h0 h1 hd, fun w lbx hR hX => rdoom_new w z n d H W hR lbx s hX hl i x hx g b' ht.1 ht.2 h0 h1 hd⟩
          · exact ⟨4, H, s.note 3 i 3 false, (Moved.same (s := 0) hg).gens, note_one6 _ _ _ _ _, fun w lb hT hM => doom_no0 w t (some m) H W hT lb s hM (fun _ => hl) i x hx g b' ht.1 ht.2 (by omega) h0 h1 hd, fun w lbx hR hX => rdoom_no w z n d H W hR lbx s hX hl i x hx g b' ht.1 ht.2 h0 h1⟩
        · exact ⟨4, H, s.note 3 i 3 false, (Moved.same (s := 0) hg).gens, note_one6 _ _ _ _ _, fun w lb hT hM => doom_not0 w t (some m) H W hT lb s hM (fun _ => hl) i x hx g b' ht.1 ht.2 (by omega) h0 hd, fun w lbx hR hX => rdoom_not w z n d H W hR lbx s hX hl i x hx g b' ht.1 ht.2 h0⟩
    · exact ⟨2, H, s, (Moved.same (s := 0) hg).gens, by omega, fun w lb hT hM => (doom_place w t (some m) H W hT sl (by omega) g b' ht.1 ht.2).mono fun e w' ⟨he, hk'⟩ => ⟨he, TLeft.rest hT hM hk'⟩, fun w lbx hR hX => (rdoom_place w z n d H W hR sl (by omega) g b' ht.1 ht.2).mono fun e w' ⟨he, hw⟩ => ⟨he, RTLeft.rest hR hX (hw ▸ Keeps.refl _ _)⟩⟩
  · exact ⟨1, H, s, (Moved.same (s := 0) hg).gens, by omega, fun w lb hT hM => (doom_bad w t.q sl g b' (by omega)).mono fun e w' ⟨he, hk'⟩ => ⟨he, TLeft.rest hT hM hk'⟩, fun w lbx hR hX => (rdoom_bad w z sl g b' (by omega)).mono fun e w' ⟨he, hw⟩ => ⟨he, RTLeft.rest hR hX (hw ▸ Keeps.refl _ _)⟩⟩
theorem both_free (hg : Gens k H) (hk : k ≤ 4611686018427387903) (hW : W.length = 2 * H.length) (hl : s.log.length < 2199023255552) (m : Nat) (t : Tb) (z n d : Nat) (sl g : Int) : ∃ (b : Int) (H' : List Hd) (s' : MS), Gens (k + 1) H' ∧ s'.log.length ≤ s.log.length + 1 ∧
    (∀ w lb, TabAt w t (some m) H W → MetAt MT w (some m) lb s → Calls Try.prog 27 #[.pointer (some ⟨t.q, 0, none⟩), .int .i64 sl, .int .i64 g] w fun e w' => e = .returned (.int .i64 b) ∧ TLeft t (some m) H' W lb s' w w') ∧
    (∀ w lbx, RT w z n d H W → MetAt XT w (some n) lbx s → Calls Try.prog 68 #[.pointer (some ⟨z, 0, none⟩), .int .i64 sl, .int .i64 g] w fun e w' => e = .returned (.int .i64 b) ∧ RTLeft z n d H' W lbx s' w w') := by
  by_cases hs : 0 ≤ sl ∧ sl < H.length
  · skip
    obtain ⟨i, rfl⟩ : ∃ i : Nat, sl = i := ⟨sl.toNat, by omega⟩
    obtain ⟨x, hx⟩ : ∃ x, H[i]? = some x := ⟨_, List.getElem?_eq_getElem (by omega)⟩
    have hgx := hg i x hx
    by_cases h0 : x.state = 0
    · exact ⟨4, H, s.note 3 i 3 false, (Moved.same (s := 0) hg).gens, note_one6 _ _ _ _ _, fun w lb hT hM => free_not w t (some m) H W hT lb s hM (fun _ => hl) i x hx g (by omega) h0, fun w lbx hR hX => rfree_not w z n d H W hR lbx s hX hl i x hx g h0⟩
    · by_cases h1 : x.gen = g
      · exact ⟨0, H.set i ⟨g, 0, 0, 0, false, 0⟩, s.note 3 i 3 true, (Moved.set (s := i) hg ⟨g, 0, 0, 0, false, 0⟩ (by simp only; omega) (by simp only; omega)).gens, note_one6 _ _ _ _ _, fun w lb hT hM => by have h := free_ok w t (some m) H W hT lb s hM (fun _ => hl) i x hx g h0 h1; rw [h1] at h; exact h, fun w lbx hR hX => rfree_ok w z n d H W hR lbx s hX hl i x hx g h0 h1⟩
      · exact ⟨4, H, s.note 3 i 3 false, (Moved.same (s := 0) hg).gens, note_one6 _ _ _ _ _, fun w lb hT hM => free_no w t (some m) H W hT lb s hM (fun _ => hl) i x hx g (by omega) h0 h1, fun w lbx hR hX => rfree_no w z n d H W hR lbx s hX hl i x hx g h0 h1⟩
  · exact ⟨2, H, s, (Moved.same (s := 0) hg).gens, by omega, fun w lb hT hM => (free_place w t (some m) H W hT sl (by omega) g).mono fun e w' ⟨he, hk'⟩ => ⟨he, TLeft.rest hT hM hk'⟩, fun w lbx hR hX => (rfree_place w z n d H W hR sl (by omega) g).mono fun e w' ⟨he, hw⟩ => ⟨he, RTLeft.rest hR hX (hw ▸ Keeps.refl _ _)⟩⟩
theorem both_look (hg : Gens k H) (hk : k ≤ 4611686018427387903) (hW : W.length = 2 * H.length) (hl : s.log.length < 2199023255552) (m : Nat) (t : Tb) (z n d : Nat) (sl : Int) : ∃ (x : Hd) (b : Int) (s' : MS), s'.log.length ≤ s.log.length + 1 ∧
    (∀ w lb, TabAt w t (some m) H W → MetAt MT w (some m) lb s → Calls Try.prog 29 #[.pointer (some ⟨t.q, 0, none⟩), .int .i64 sl] w fun e w' => e = .returned (.tuple #[.agg #[.int .i64 x.gen, .int .i64 x.state, .int .i64 x.stamp, .int .i64 x.thread, .bool x.doomed, .int .i64 x.who], .int .i64 b]) ∧ TLeft t (some m) H W lb s' w w') ∧
    (∀ w lbx, RT w z n d H W → MetAt XT w (some n) lbx s → Calls Try.prog 66 #[.pointer (some ⟨z, 0, none⟩), .int .i64 sl] w fun e w' => e = .returned (.tuple #[.agg #[.int .i64 x.gen, .int .i64 x.state, .int .i64 x.stamp, .int .i64 x.thread, .bool x.doomed, .int .i64 x.who], .int .i64 b]) ∧ RTLeft z n d H W lbx s' w w') := by
  by_cases hs : 0 ≤ sl ∧ sl < H.length
  · skip
    obtain ⟨i, rfl⟩ : ∃ i : Nat, sl = i := ⟨sl.toNat, by omega⟩
    obtain ⟨x, hx⟩ : ∃ x, H[i]? = some x := ⟨_, List.getElem?_eq_getElem (by omega)⟩
    have hgx := hg i x hx
    exact ⟨x, 0, s.note 3 i 1 true, note_one6 _ _ _ _ _, fun w lb hT hM => slots_look w t (some m) H W hT lb s hM (fun _ => hl) i x hx, fun w lbx hR hX => rlook6 w z n d H W hR lbx s hX hl i x hx⟩
  · exact ⟨Hd.zero, 2, s, by omega, fun w lb hT hM => (slots_look_no w t (some m) H W hT sl (by omega)).mono fun e w' ⟨he, hk'⟩ => ⟨he, TLeft.rest hT hM hk'⟩, fun w lbx hR hX => (rlook6_no w z n d H W hR sl (by omega)).mono fun e w' ⟨he, hk'⟩ => ⟨he, RTLeft.rest hR hX hk'⟩⟩
theorem both_word (hg : Gens k H) (hk : k ≤ 4611686018427387903) (hW : W.length = 2 * H.length) (hl : s.log.length < 2199023255552) (m : Nat) (t : Tb) (z n d : Nat) (sl j : Int) : ∃ (v b : Int) (s' : MS), s'.log.length ≤ s.log.length + 1 ∧
    (∀ w lb, TabAt w t (some m) H W → MetAt MT w (some m) lb s → Calls Try.prog 30 #[.pointer (some ⟨t.q, 0, none⟩), .int .i64 sl, .int .i64 j] w fun e w' => e = .returned (.tuple #[.int .u64 v, .int .i64 b]) ∧ TLeft t (some m) H W lb s' w w') ∧
    (∀ w lbx, RT w z n d H W → MetAt XT w (some n) lbx s → Calls Try.prog 69 #[.pointer (some ⟨z, 0, none⟩), .int .i64 sl, .int .i64 j] w fun e w' => e = .returned (.tuple #[.int .u64 v, .int .i64 b]) ∧ RTLeft z n d H W lbx s' w w') := by
  by_cases hs : 0 ≤ sl ∧ sl < H.length ∧ 0 ≤ j ∧ j < 2
  · obtain ⟨i, rfl⟩ : ∃ i : Nat, sl = i := ⟨sl.toNat, by omega⟩
    obtain ⟨q, rfl⟩ : ∃ q : Nat, j = q := ⟨j.toNat, by omega⟩
    obtain ⟨v, hv⟩ : ∃ v, W[2 * i + q]? = some v := ⟨_, List.getElem?_eq_getElem (by omega)⟩
    exact ⟨v, 0, s.note 4 (2 * i + q : Nat) 1 true, note_one6 _ _ _ _ _, fun w lb hT hM => slots_word w t (some m) H W hT lb s hM (fun _ => hl) i q (by omega) v hv, fun w lbx hR hX => rword6 w z n d H W hR lbx s hX hl i q (by omega) v hv⟩
  · exact ⟨0, 2, s, by omega, fun w lb hT hM => (slots_word_no w t (some m) H W hT sl j (by omega)).mono fun e w' ⟨he, hk'⟩ => ⟨he, TLeft.rest hT hM hk'⟩, fun w lbx hR hX => (rword6_no w z n d H W hR sl j (by omega)).mono fun e w' ⟨he, hw⟩ => ⟨he, RTLeft.rest hR hX (hw ▸ Keeps.refl _ _)⟩⟩
theorem both_put (hg : Gens k H) (hk : k ≤ 4611686018427387903) (hW : W.length = 2 * H.length) (hl : s.log.length < 2199023255552) (m : Nat) (t : Tb) (z n d : Nat) (sl j v : Int) : ∃ (b : Int) (W' : List Int) (s' : MS), W'.length = W.length ∧ s'.log.length ≤ s.log.length + 1 ∧
    (∀ w lb, TabAt w t (some m) H W → MetAt MT w (some m) lb s → Calls Try.prog 28 #[.pointer (some ⟨t.q, 0, none⟩), .int .i64 sl, .int .i64 j, .int .u64 v] w fun e w' => e = .returned (.int .i64 b) ∧ TLeft t (some m) H W' lb s' w w') ∧
    (∀ w lbx, RT w z n d H W → MetAt XT w (some n) lbx s → Calls Try.prog 70 #[.pointer (some ⟨z, 0, none⟩), .int .i64 sl, .int .i64 j, .int .u64 v] w fun e w' => e = .returned (.int .i64 b) ∧ RTLeft z n d H W' lbx s' w w') := by
  by_cases hs : 0 ≤ sl ∧ sl < H.length ∧ 0 ≤ j ∧ j < 2
  · obtain ⟨i, rfl⟩ : ∃ i : Nat, sl = i := ⟨sl.toNat, by omega⟩
    by_cases h0 : j = 0
    · subst h0
      exact ⟨0, W.set (2 * i + 0) v, s.note 4 (2 * i + 0 : Nat) 2 true, by simp, note_one6 _ _ _ _ _, fun w lb hT hM => slots_put w t (some m) H W hT lb s hM (fun _ => hl) i 0 (by omega) v, fun w lbx hR hX => rput6_0 w z n d H W hR lbx s hX hl i (by omega) v⟩
    · obtain rfl : j = 1 := by omega
      exact ⟨0, W.set (2 * i + 1) v, s.note 4 (2 * i + 1 : Nat) 2 true, by simp, note_one6 _ _ _ _ _, fun w lb hT hM => slots_put w t (some m) H W hT lb s hM (fun _ => hl) i 1 (by omega) v, fun w lbx hR hX => rput6_1 w z n d H W hR lbx s hX hl i (by omega) v⟩
  · exact ⟨2, W, s, rfl, by omega, fun w lb hT hM => (slots_put_no w t (some m) H W hT sl j (by omega) v).mono fun e w' ⟨he, hk'⟩ => ⟨he, TLeft.rest hT hM hk'⟩, fun w lbx hR hX => (rput6_no w z n d H W hR sl j (by omega) v).mono fun e w' ⟨he, hw⟩ => ⟨he, RTLeft.rest hR hX (hw ▸ Keeps.refl _ _)⟩⟩
end
end Go.Proofs.Ytdkbdlhfhmgenaa
