/- quashlaw12's does: a step of a script over the law's bundle, whatever it is. -/
import Derived.Test.YtmlnedilbneekaaGreatLpR
import Derived.Test.YtmlnedilbneekaaGreatElOp12
import Derived.Test.YtmlnedilbneekaaGreatDdN
import Derived.Test.YtmlnedilbneekaaGreatAw12b
import Derived.Test.YtmlnedilbneekaaGreatLdB
import Derived.Test.YtmlnedilbneekaaGreatRegT
import Derived.Deep.RegionHeld3
import Derived.Deep.QuietTactic
import Derived.BigQuiet
import Derived.Deep.DeepCutAuto
import Derived.Deep.CutBlock
namespace Go.Proofs.YtmlnedilbneekaaGreat
open Go.RowKit
set_option linter.unusedVariables false
namespace LP
open PR Ld
theorem Pair.mono {σ : Type} {J J' : σ → Prop} {M N : Nat → Option (Nat × σ)} (h : Pair J M N) (hj : ∀ x, J x → J' x) : Pair J' M N := fun i => (h i).imp id (fun ⟨a, b, x, e1, e2, hx⟩ => ⟨a, b, x, e1, e2, hj x hx⟩)
theorem asU_isU (x : Int) : isU (asU x) := by
  unfold asU isU
  have := IntKind.wrap_u64 x
  omega
theorem raw_wu {S : Sp} (h : S.wu) (kd i n x : Int) : (S.raw kd i n x).wu := by
  unfold Sp.raw
  split; exact Sp.wu_of h (by unfold Sp.store; split <;> rfl)
  split; exact Sp.wu_of h (by unfold Sp.take; split; rfl; split <;> rfl)
  split; exact Sp.wu_of h (by unfold Sp.give; split; rfl; split <;> rfl)
  split; exact Sp.wu_of h (Sp.claim_W S i n).1
  split; exact Sp.wu_of h (Sp.ready_W S i n x).1
  split; exact Sp.wu_of h (Sp.doom_W S i n x).1
  split; exact Sp.wu_of h (Sp.free_W S i n).1
  split; exact (Sp.put_wu h i n _ (asU_isU x)).1
  exact h
theorem lk_c (x : Lk) (S : Sp) : (x.step S).2.2.c = S.c := by
  unfold Lk.step
  split
  · rfl
  · split
    · rename_i t _ _ _; show (S.look t).2.c = S.c; unfold Sp.look; split <;> rfl
    · rename_i t _ _ _; show (S.word t x.words.length).2.c = S.c; unfold Sp.word; split <;> rfl
theorem dm_cw (x : Dm) (S : Sp) : (x.step S).2.2.c = S.c ∧ (x.step S).2.2.W = S.W := by
  unfold Dm.step
  split
  · exact ⟨rfl, rfl⟩
  · rename_i v l _
    exact ⟨(Sp.doom_W S v.slot v.gen x.who).2, (Sp.doom_W S v.slot v.gen x.who).1⟩
theorem dm_len (x : Dm) (S : Sp) : (x.step S).2.1.doomed.length ≤ x.doomed.length + 1 := by
  unfold Dm.step
  split
  · simp
  · dsimp only
    split <;> simp
/-- What the law's state is between steps; k: how many there were. -/
structure Ins (w0 w : World) (z : Sb) (y : Rb) (n gb k : Nat) (cf : Cf) (S : Sp) (M N : ML) (A B : MD) : Prop where
  rg : Rg w0 w z y n gb none S S M N A B
  fit : Fit k S
  wu : S.wu
  c : S.c = cf
  pl : Pair (Lk.Ok k) M N
  pd : Pair (fun v : Dm => v.doomed.length ≤ k) A B
def Out (w0 w : World) (z : Sb) (y : Rb) (n gb k : Nat) (cf : Cf) : Prop := ∃ S M N A B, Ins w0 w z y n gb k cf S M N A B
theorem okS {k : Nat} {x : Lk} (h : x.Ok k) : x.Ok (k + 1) := h.wide (Nat.le_succ k)
section
variable {w0 w w1 w' : World} {z : Sb} {y : Rb} {n gb k : Nat} {cf : Cf} {S S' : Sp} {M N : ML} {A B : MD} {j : Nat}
theorem set2 (M N : ML) (A B : MD) (h : j < 2) (p q : Option (Nat × Lk)) : ((rigA z y M N A B).setIfInBounds (2 + j) (pv p)).setIfInBounds (4 + j) (pv q) = rigA z y (upd' M j p) (upd' N j q) A B ∧ ((rigA z y M N A B).setIfInBounds (4 + j) (pv q)).setIfInBounds (2 + j) (pv p) = rigA z y (upd' M j p) (upd' N j q) A B := by
  have : j = 0 ∨ j = 1 := by omega
  rcases this with rfl | rfl <;> constructor <;> simp [rigA, upd']
theorem set2d (M N : ML) (A B : MD) (h : j < 2) (p q : Option (Nat × Dm)) : ((rigA z y M N A B).setIfInBounds (6 + j) (pv p)).setIfInBounds (8 + j) (pv q) = rigA z y M N (upd' A j p) (upd' B j q) ∧ ((rigA z y M N A B).setIfInBounds (8 + j) (pv q)).setIfInBounds (6 + j) (pv p) = rigA z y M N (upd' A j p) (upd' B j q) := by
  have : j = 0 ∨ j = 1 := by omega
  rcases this with rfl | rfl <;> constructor <;> simp [rigA, upd']
theorem st2 (hb : Blk w gb 43 (rigA z y M N A B)) (h : j < 2) (p q : Option (Nat × Lk)) : Blk ((w.setCell ⟨gb, 2 + j, none⟩ (pv p)).setCell ⟨gb, 4 + j, none⟩ (pv q)) gb 43 (rigA z y (upd' M j p) (upd' N j q) A B) := by
  rw [← (set2 M N A B h p q).1]; exact (hb.set_ _ _).set_ _ _
theorem st2' (hb : Blk w gb 43 (rigA z y M N A B)) (h : j < 2) (p q : Option (Nat × Lk)) : Blk ((w.setCell ⟨gb, 4 + j, none⟩ (pv q)).setCell ⟨gb, 2 + j, none⟩ (pv p)) gb 43 (rigA z y (upd' M j p) (upd' N j q) A B) := by
  rw [← (set2 M N A B h p q).2]; exact (hb.set_ _ _).set_ _ _
theorem st2d (hb : Blk w gb 43 (rigA z y M N A B)) (h : j < 2) (p q : Option (Nat × Dm)) : Blk ((w.setCell ⟨gb, 6 + j, none⟩ (pv p)).setCell ⟨gb, 8 + j, none⟩ (pv q)) gb 43 (rigA z y M N (upd' A j p) (upd' B j q)) := by
  rw [← (set2d M N A B h p q).1]; exact (hb.set_ _ _).set_ _ _
theorem st2d' (hb : Blk w gb 43 (rigA z y M N A B)) (h : j < 2) (p q : Option (Nat × Dm)) : Blk ((w.setCell ⟨gb, 8 + j, none⟩ (pv q)).setCell ⟨gb, 6 + j, none⟩ (pv p)) gb 43 (rigA z y M N (upd' A j p) (upd' B j q)) := by
  rw [← (set2d M N A B h p q).2]; exact (hb.set_ _ _).set_ _ _

/-- A row of victims and a mark, from number i on. -/
def Kb (w : World) (q i m : Nat) (L : List Vc) : Prop := ∃ cs, Blk w q 113 cs ∧ ∀ t, i * 4 ≤ t → t < (m + 1) * 4 → cs[t]? = (vcCells L ++ mark.cells)[t]?
theorem own_blk {w : World} {q m cap : Nat} {xs : List Value} (h : w.ownsRow 0 113 4 (.slice (some ⟨q, 0, none⟩) (m + 1) cap) (m + 1) xs) : ∃ cs, Blk w q 113 cs ∧ ∀ t, t < (m + 1) * 4 → cs[t]? = xs[t]? := by
  rcases h.2 with ⟨h0, _⟩ | ⟨g, cap', cur, h0, hb, hg, hnc, hcm, hcs, ht⟩
  · cases h0
  · injection h0 with h1 h2 h3
    injection h1 with h1
    injection h1 with h1
    subst h1
    refine ⟨cur, hg, fun t htl => ?_⟩
    rw [← ht, List.getElem?_take, if_pos htl, Array.getElem?_toList]
theorem Kb.fz {w : World} {q i m : Nat} {L : List Vc} (h : Kb w q i m L) (o : Nat) : w.frozen? ⟨q, o, none⟩ = false := by
  obtain ⟨cs, hb, _⟩ := h
  exact hb.frozen o
theorem Kb.drewN {w : World} {q i m : Nat} {L : List Vc} (h : Kb w q i m L) (a : Nat) : Kb (w.drewN a) q i m L := by
  obtain ⟨cs, hb, hc⟩ := h
  exact ⟨cs, hb.drewN a, hc⟩
theorem Kb.at_ {w : World} {q i m t : Nat} {L : List Vc} {v : Vc} (h : Kb w q i m L) (hm : L.length = m) (hi : i ≤ t) (ht : t < m) (hv : L[t]? = some v) : w.cell? ⟨q, t * 4, none⟩ = some (.int .i64 v.slot) ∧ w.cell? ⟨q, t * 4 + 1, none⟩ = some (.int .i64 v.gen) ∧ w.cell? ⟨q, t * 4 + 2, none⟩ = some (.int .i64 v.stamp) ∧ w.cell? ⟨q, t * 4 + 3, none⟩ = some (.int .i64 v.thread) := by
  obtain ⟨cs, hb, hc⟩ := h
  obtain ⟨v0, v1, v2, v3⟩ := vc_at L t v hv
  have e : ∀ o u, i * 4 ≤ o → o < m * 4 → (vcCells L)[o]? = some u → w.cell? ⟨q, o, none⟩ = some u := fun o u h1 h2 hu => by
    rw [hb.cell o, hc o h1 (by omega), List.getElem?_append_left (by rw [vcCells_len]; omega)]
    exact hu
  exact ⟨e _ _ (by omega) (by omega) v0, e _ _ (by omega) (by omega) v1, e _ _ (by omega) (by omega) v2, e _ _ (by omega) (by omega) v3⟩
theorem Kb.last {w : World} {q m : Nat} {L : List Vc} (h : Kb w q m m L) (hm : L.length = m) : w.cell? ⟨q, m * 4, none⟩ = some (.int .i64 (-77)) ∧ w.cell? ⟨q, m * 4 + 1, none⟩ = some (.int .i64 0) ∧ w.cell? ⟨q, m * 4 + 2, none⟩ = some (.int .i64 0) ∧ w.cell? ⟨q, m * 4 + 3, none⟩ = some (.int .i64 0) := by
  obtain ⟨cs, hb, hc⟩ := h
  have e : ∀ o, o < 4 → w.cell? ⟨q, m * 4 + o, none⟩ = mark.cells[o]? := fun o h1 => by
    rw [hb.cell, hc _ (by omega) (by omega), List.getElem?_append_right (by rw [vcCells_len]; omega), vcCells_len, hm, Nat.add_sub_cancel_left]
  exact ⟨e 0 (by decide), e 1 (by decide), e 2 (by decide), e 3 (by decide)⟩
theorem Kb.stored {w : World} {q t m : Nat} {L : List Vc} (h : Kb w q t m L) (a b c d : Value) : Kb ((((w.setCell ⟨q, t * 4, none⟩ a).setCell ⟨q, t * 4 + 1, none⟩ b).setCell ⟨q, t * 4 + 2, none⟩ c).setCell ⟨q, t * 4 + 3, none⟩ d) q (t + 1) m L := by
  obtain ⟨cs, hb, hc⟩ := h
  refine ⟨_, (((hb.set_ _ a).set_ _ b).set_ _ c).set_ _ d, fun o h1 h2 => ?_⟩
  rw [Array.getElem?_setIfInBounds_ne (by omega), Array.getElem?_setIfInBounds_ne (by omega), Array.getElem?_setIfInBounds_ne (by omega), Array.getElem?_setIfInBounds_ne (by omega)]
  exact hc o (by omega) h2
theorem kstored {w w1 : World} {q t : Nat} (h : Keeps [q] w w1) (a b c d : Value) : Keeps [q] w ((((w1.setCell ⟨q, t * 4, none⟩ a).setCell ⟨q, t * 4 + 1, none⟩ b).setCell ⟨q, t * 4 + 2, none⟩ c).setCell ⟨q, t * 4 + 3, none⟩ d) :=
  (((h.setCell (.inl (by simp)) _).setCell (.inl (by simp)) _).setCell (.inl (by simp)) _).setCell (.inl (by simp)) _
theorem dm_new_no {F : List Nat} {vv : Value} (h : SP w0 w z F S) (hf : Fit k S) (vs : List Vc) (hvs : w.ownsRow 0 113 4 vv vs.length (vcCells vs)) (who : Int) (hE : dmE S.H.length who vs ≠ 0) (hl : vs.length ≤ 1099511627776) :
    Calls Tryz.prog 34 #[PT z.p, .int .i64 who, vv] w fun e w' => e = .returned (.tuple #[.pointer none, .int .i64 (dmE S.H.length who vs)]) ∧ Keeps [] w w' := by
  by_cases h1 : who < 1 ∨ 8 < who
  · have e : dmE S.H.length who vs = 1 := by unfold dmE; rw [if_pos h1]
    rw [e]
    exact dm_new_who w z who vv h1
  · by_cases h2 : vs.any (Vc.off S.H.length) = true
    · have e : dmE S.H.length who vs = 2 := by unfold dmE; rw [if_neg h1, if_pos h2]
      rw [e]
      exact dm_new_place h hf vs hvs who (by omega) (by omega) h2 hl
    · exact absurd (by unfold dmE; rw [if_neg h1, if_neg h2]) hE
set_option maxRecDepth 100000 in
set_option maxHeartbeats 16000000 in
theorem does_raw (hI : Ins w0 w z y n gb k cf S M N A B) (hk : k ≤ 1048576) (hn : cf.slots = (n : Int)) (n8 : n ≤ 8) (kd : Int) (mm pi pn px : Int) (fa fb : Nat) (hsg : (⟨fa, fb⟩ : Sg).ok) (lv : Value) (e20 : kd ≠ 20) (e21 : kd ≠ 21) (e22 : kd ≠ 22) (e23 : kd ≠ 23) :
    Calls Tryz.prog 8 #[PT gb, .agg #[.int .i64 kd, .int .i64 mm, .int .i64 pi, .int .i64 pn, .int .i64 px, .int .u64 (fa : Int), .int .u64 (fb : Int), lv]] w fun e w' => e = .returned (.bool true) ∧ Out w0 w' z y n gb (k + 1) cf := by
  obtain ⟨j, hj⟩ : ∃ j : Nat, mm % 2 = (j : Int) := ⟨(mm % 2).toNat, by omega⟩
  have m1 : bits .and .i64 mm 1 = (j : Int) := (i64_and1 mm).trans hj
  have hj2 : j < 2 := by omega
  have j0 : (0 : Int) ≤ (j : Int) := by omega
  have j1 : (j : Int) < 2 := by omega
  clear hj
  have HI := Lib.hid hI
  have HN := Lib.hid (And.intro hn n8)
  have HK := Lib.hid hk
  have HSG := Lib.hid hsg
  have HR1 := Lib.hid (hI.rg.laid #[.int .i64 kd, .int .i64 mm, .int .i64 pi, .int .i64 pn, .int .i64 px, .int .u64 (fa : Int), .int .u64 (fb : Int), lv])
  clear hI hn n8 hk hsg
  go_enter Tryz.func8, Tryz.ntmps8
  go_upto_region 1 with fail
  obtain ⟨wa, hwa⟩ : ∃ v, w.alloc (.cells #[.int .i64 kd, .int .i64 mm, .int .i64 pi, .int .i64 pn, .int .i64 px, .int .u64 (fa : Int), .int .u64 (fb : Int), lv] 50) = v := ⟨_, rfl⟩
  obtain ⟨bo, hbo⟩ : ∃ b, w.heap.size = b := ⟨_, rfl⟩
  rw [hwa] at HR1
  rw [hbo] at HR1
  try rw [hwa]
  try rw [hbo]
  have bx := HR1.out.box
  obtain ⟨g0, g1⟩ := HR1.out.pc
  clear hwa hbo
  have d1 : wa.cell? ⟨bo, 1, none⟩ = some (.int .i64 mm) := (bx.cell 1).trans rfl
  clear bx
  go_wp2_with fail
  refine (HR1.out.turn _).mono ?_
  rintro e w1 ⟨rfl, hr2⟩
  have HR2 := Lib.hid hr2
  clear g0 g1 d1 HR1 m1
  obtain ⟨g0, g1⟩ := hr2.pc
  have yc := hr2.yc
  clear hr2
  go_wp2_with fail
  refine (HR2.out.begin _).mono ?_
  rintro e w2 ⟨rfl, hr3⟩
  have HR3 := Lib.hid hr3
  clear g0 g1 yc HR2
  have bx := hr3.box
  have d0 : w2.cell? ⟨bo, 0, none⟩ = some (.int .i64 kd) := (bx.cell 0).trans rfl
  have d1 : w2.cell? ⟨bo, 1, none⟩ = some (.int .i64 mm) := (bx.cell 1).trans rfl
  have d2 : w2.cell? ⟨bo, 2, none⟩ = some (.int .i64 pi) := (bx.cell 2).trans rfl
  have d3 : w2.cell? ⟨bo, 3, none⟩ = some (.int .i64 pn) := (bx.cell 3).trans rfl
  have d4 : w2.cell? ⟨bo, 4, none⟩ = some (.int .i64 px) := (bx.cell 4).trans rfl
  have d5 : w2.cell? ⟨bo, 5, none⟩ = some (.int .u64 (fa : Int)) := (bx.cell 5).trans rfl
  have d6 : w2.cell? ⟨bo, 6, none⟩ = some (.int .u64 (fb : Int)) := (bx.cell 6).trans rfl
  have d7 : w2.cell? ⟨bo, 7, none⟩ = some (lv) := (bx.cell 7).trans rfl
  clear hr3 bx
  have HF1 : Hid (Fit k (S.begin j)) := HI.out.fit.begin _
  have HC1 : Hid ((S.begin j).c = cf) := HI.out.c
  have HW1 : Hid ((S.begin j).wu) := HI.out.wu
  obtain ⟨S1, hS1⟩ : ∃ v, S.begin j = v := ⟨_, rfl⟩
  rw [hS1] at HR3 HF1 HC1 HW1
  clear hS1
  have n20 : (kd == 20) = false := by simpa using e20
  have n21 : (kd == 21) = false := by simpa using e21
  have n22 : (kd == 22) = false := by simpa using e22
  have n23 : (kd == 23) = false := by simpa using e23
  have QR : Hid (∀ w', Keeps [] w2 w' → Calls Tryz.prog 52 #[PT z.p, PT y.p, .agg #[.int .i64 kd, .int .i64 mm, .int .i64 pi, .int .i64 pn, .int .i64 px, .int .u64 (fa : Int), .int .u64 (fb : Int), lv]] w' fun e w'' => e = .returned (.bool true) ∧ Rg w0 w'' z y n gb (some (bo, #[.int .i64 kd, .int .i64 mm, .int .i64 pi, .int .i64 pn, .int .i64 px, .int .u64 (fa : Int), .int .u64 (fb : Int), lv])) (S1.raw kd pi pn px) (S1.raw kd pi pn px) M N A B) := fun w' hk => raw_any (HR3.out.calm hk) HF1.out (by have := HK.out; omega) kd mm pi pn px fa fb lv
  have HC : Hid (∀ w', Keeps [] w2 w' → w'.cell? ⟨gb, 0, none⟩ = some (PT z.p) ∧ w'.cell? ⟨gb, 1, none⟩ = some (PT y.p) ∧ w'.cell? ⟨bo, 0, none⟩ = some (.int .i64 kd) ∧ w'.cell? ⟨bo, 1, none⟩ = some (.int .i64 mm) ∧ w'.cell? ⟨bo, 2, none⟩ = some (.int .i64 pi) ∧ w'.cell? ⟨bo, 3, none⟩ = some (.int .i64 pn) ∧ w'.cell? ⟨bo, 4, none⟩ = some (.int .i64 px) ∧ w'.cell? ⟨bo, 5, none⟩ = some (.int .u64 (fa : Int)) ∧ w'.cell? ⟨bo, 6, none⟩ = some (.int .u64 (fb : Int)) ∧ w'.cell? ⟨bo, 7, none⟩ = some (lv)) := fun w' hk => by
    have h := HR3.out.calm hk
    have b := h.box
    exact ⟨h.pc.1, h.pc.2, (b.cell 0).trans rfl, (b.cell 1).trans rfl, (b.cell 2).trans rfl, (b.cell 3).trans rfl, (b.cell 4).trans rfl, (b.cell 5).trans rfl, (b.cell 6).trans rfl, (b.cell 7).trans rfl⟩
  have hkB : Keeps [] w2 w2 := Keeps.refl _ _
  go_upto_region 5 with fail
  clear d0 d1 d2 d3 d4 d5 d6 d7
  go_region_held3 (fun w' => w'.cell? ⟨gb, 0, none⟩ = some (PT z.p) ∧ w'.cell? ⟨gb, 1, none⟩ = some (PT y.p) ∧ w'.cell? ⟨bo, 0, none⟩ = some (.int .i64 kd) ∧ w'.cell? ⟨bo, 1, none⟩ = some (.int .i64 mm) ∧ w'.cell? ⟨bo, 2, none⟩ = some (.int .i64 pi) ∧ w'.cell? ⟨bo, 3, none⟩ = some (.int .i64 pn) ∧ w'.cell? ⟨bo, 4, none⟩ = some (.int .i64 px) ∧ w'.cell? ⟨bo, 5, none⟩ = some (.int .u64 (fa : Int)) ∧ w'.cell? ⟨bo, 6, none⟩ = some (.int .u64 (fb : Int)) ∧ w'.cell? ⟨bo, 7, none⟩ = some (lv)) (first | with_reducible exact HC.out _ (by first | with_reducible assumption | with_reducible exact Keeps.drew (by with_reducible assumption)) | exact hH5 | go_keep) ((go_at_call 52; (with_reducible refine (QR.out _ (by first | with_reducible assumption | with_reducible exact Keeps.drew (by with_reducible assumption))).mono ?_); rintro e w5 ⟨rfl, hr5⟩; have HR4 := Lib.hid hr5; have hH5 : w5.cell? ⟨gb, 0, none⟩ = some (PT z.p) ∧ w5.cell? ⟨gb, 1, none⟩ = some (PT y.p) ∧ w5.cell? ⟨bo, 0, none⟩ = some (.int .i64 kd) ∧ w5.cell? ⟨bo, 1, none⟩ = some (.int .i64 mm) ∧ w5.cell? ⟨bo, 2, none⟩ = some (.int .i64 pi) ∧ w5.cell? ⟨bo, 3, none⟩ = some (.int .i64 pn) ∧ w5.cell? ⟨bo, 4, none⟩ = some (.int .i64 px) ∧ w5.cell? ⟨bo, 5, none⟩ = some (.int .u64 (fa : Int)) ∧ w5.cell? ⟨bo, 6, none⟩ = some (.int .u64 (fb : Int)) ∧ w5.cell? ⟨bo, 7, none⟩ = some (lv) := ⟨hr5.pc.1, hr5.pc.2, (hr5.box.cell 0).trans rfl, (hr5.box.cell 1).trans rfl, (hr5.box.cell 2).trans rfl, (hr5.box.cell 3).trans rfl, (hr5.box.cell 4).trans rfl, (hr5.box.cell 5).trans rfl, (hr5.box.cell 6).trans rfl, (hr5.box.cell 7).trans rfl⟩; clear hr5))
  go_wp2_with fail
  go_ret
  exact ⟨rfl, _, _, _, _, _, HR4.out.left, HF1.out.raw kd pi pn px, raw_wu HW1.out kd pi pn px, (raw_c S1 kd pi pn px).trans HC1.out, Pair.mono HI.out.pl (fun x h => okS h), Pair.mono HI.out.pd (fun x h => Nat.le_succ_of_le h)⟩
set_option maxRecDepth 100000 in
set_option maxHeartbeats 16000000 in
theorem does_step (hI : Ins w0 w z y n gb k cf S M N A B) (hk : k ≤ 1048576) (hn : cf.slots = (n : Int)) (n8 : n ≤ 8) (mm pi pn px : Int) (fa fb : Nat) (hsg : (⟨fa, fb⟩ : Sg).ok) (lv : Value) :
    Calls Tryz.prog 8 #[PT gb, .agg #[.int .i64 21, .int .i64 mm, .int .i64 pi, .int .i64 pn, .int .i64 px, .int .u64 (fa : Int), .int .u64 (fb : Int), lv]] w fun e w' => e = .returned (.bool true) ∧ Out w0 w' z y n gb (k + 1) cf := by
  obtain ⟨j, hj⟩ : ∃ j : Nat, mm % 2 = (j : Int) := ⟨(mm % 2).toNat, by omega⟩
  have m1 : bits .and .i64 mm 1 = (j : Int) := (i64_and1 mm).trans hj
  have hj2 : j < 2 := by omega
  have j0 : (0 : Int) ≤ (j : Int) := by omega
  have j1 : (j : Int) < 2 := by omega
  clear hj
  have HI := Lib.hid hI
  have HN := Lib.hid (And.intro hn n8)
  have HK := Lib.hid hk
  have HSG := Lib.hid hsg
  have HR1 := Lib.hid (hI.rg.laid #[.int .i64 21, .int .i64 mm, .int .i64 pi, .int .i64 pn, .int .i64 px, .int .u64 (fa : Int), .int .u64 (fb : Int), lv])
  clear hI hn n8 hk hsg
  go_enter Tryz.func8, Tryz.ntmps8
  go_upto_region 1 with fail
  obtain ⟨wa, hwa⟩ : ∃ v, w.alloc (.cells #[.int .i64 21, .int .i64 mm, .int .i64 pi, .int .i64 pn, .int .i64 px, .int .u64 (fa : Int), .int .u64 (fb : Int), lv] 50) = v := ⟨_, rfl⟩
  obtain ⟨bo, hbo⟩ : ∃ b, w.heap.size = b := ⟨_, rfl⟩
  rw [hwa] at HR1
  rw [hbo] at HR1
  try rw [hwa]
  try rw [hbo]
  have bx := HR1.out.box
  obtain ⟨g0, g1⟩ := HR1.out.pc
  clear hwa hbo
  have d1 : wa.cell? ⟨bo, 1, none⟩ = some (.int .i64 mm) := (bx.cell 1).trans rfl
  clear bx
  go_wp2_with fail
  refine (HR1.out.turn _).mono ?_
  rintro e w1 ⟨rfl, hr2⟩
  have HR2 := Lib.hid hr2
  clear g0 g1 d1 HR1 m1
  obtain ⟨g0, g1⟩ := hr2.pc
  have yc := hr2.yc
  clear hr2
  go_wp2_with fail
  refine (HR2.out.begin _).mono ?_
  rintro e w2 ⟨rfl, hr3⟩
  have HR3 := Lib.hid hr3
  clear g0 g1 yc HR2
  have bx := hr3.box
  have d0 : w2.cell? ⟨bo, 0, none⟩ = some (.int .i64 21) := (bx.cell 0).trans rfl
  clear hr3 bx
  have HF1 : Hid (Fit k (S.begin j)) := HI.out.fit.begin _
  have HC1 : Hid ((S.begin j).c = cf) := HI.out.c
  have HW1 : Hid ((S.begin j).wu) := HI.out.wu
  obtain ⟨S1, hS1⟩ : ∃ v, S.begin j = v := ⟨_, rfl⟩
  rw [hS1] at HR3 HF1 HC1 HW1
  clear hS1
  rcases HI.out.pl j with ⟨e1, e2⟩ | ⟨a, b, x, e1, e2, hok⟩
  · have cx : w2.cell? ⟨gb, 2 + j, none⟩ = some (.pointer none) := by have h5 := (HR3.out.cells hj2).1; rw [e1] at h5; exact h5
    go_wp2_with fail
    go_ret
    exact ⟨rfl, _, _, _, _, _, HR3.out.left, HF1.out.succ, HW1.out, HC1.out, Pair.mono HI.out.pl (fun x h => okS h), Pair.mono HI.out.pd (fun x h => Nat.le_succ_of_le h)⟩
  · have cx : w2.cell? ⟨gb, 2 + j, none⟩ = some (PT a) := by have h5 := (HR3.out.cells hj2).1; rw [e1] at h5; exact h5
    have HE := Lib.hid (And.intro e1 (And.intro e2 hok))
    have hk40 : k ≤ 1099511627776 := by have := HK.out; omega
    have QP : Hid (∀ w', Keeps [] w2 w' → Calls Tryz.prog 32 #[PT a] w' fun e w'' => e = .returned (.int .i64 (x.step S1).1) ∧ Rg w0 w'' z y n gb (some (bo, #[.int .i64 21, .int .i64 mm, .int .i64 pi, .int .i64 pn, .int .i64 px, .int .u64 (fa : Int), .int .u64 (fb : Int), lv])) (x.step S1).2.2 S1 (upd' M j (some (a, (x.step S1).2.1))) N A B) := fun w' hk => lk_calls (HR3.out.calm hk) HE.out.1 HF1.out hk40 HW1.out HE.out.2.2 hk40
    clear e1 e2 hok
    have HOUT := Lib.hid (show Fit (k + 1) (x.step S1).2.2 ∧ (x.step S1).2.2.wu ∧ (x.step S1).2.2.c = cf ∧ Pair (Lk.Ok (k + 1)) (upd' M j (some (a, (x.step S1).2.1))) (upd' N j (some (b, (x.step S1).2.1))) ∧ Pair (fun v : Dm => v.doomed.length ≤ k + 1) A B from ⟨HF1.out.lkstep x, HW1.out.lkstep x, (lk_c x S1).trans HC1.out, (Pair.mono HI.out.pl (fun x h => okS h)).set j (HE.out.2.2.step HW1.out), Pair.mono HI.out.pd (fun x h => Nat.le_succ_of_le h)⟩)
    obtain ⟨ans, hans⟩ : ∃ v, (x.step S1).1 = v := ⟨_, rfl⟩
    rw [hans] at QP
    go_wp2_with fail
    refine (QP.out _ (Keeps.refl _ _)).mono ?_
    rintro e w3 ⟨rfl, hr4⟩
    have QD : Hid (∀ w', Keeps [] w3 w' → Calls Tryz.prog 50 #[PT b] w' fun e w'' => e = .returned (.int .i64 ans) ∧ Rg w0 w'' z y n gb (some (bo, #[.int .i64 21, .int .i64 mm, .int .i64 pi, .int .i64 pn, .int .i64 px, .int .u64 (fa : Int), .int .u64 (fb : Int), lv])) (x.step S1).2.2 (x.step S1).2.2 (upd' M j (some (a, (x.step S1).2.1))) (upd' N j (some (b, (x.step S1).2.1))) A B) := fun w' hk => by
      have h5 := ld_calls (hr4.calm hk) HE.out.2.1 HF1.out hk40 HW1.out (by rw [HC1.out]; exact HN.out.1) HE.out.2.2.sg (by have := HE.out.2.2.vs; omega)
      rw [hans] at h5
      exact h5
    have HC := Lib.hid (show ∀ w', Keeps [] w3 w' → w'.cell? ⟨gb, 4 + j, none⟩ = some (PT b) ∧ w'.cell? ⟨gb, 0, none⟩ = some (PT z.p) ∧ w'.cell? ⟨gb, 1, none⟩ = some (PT y.p) ∧ w'.cell? ⟨z.p, 0, none⟩ = some (PT z.m) ∧ w'.cell? ⟨y.p, 6, none⟩ = some (PT y.m) from fun w' hk => by
      have hx := hr4.calm hk
      have hq := (hx.cells hj2).2.1
      rw [HE.out.2.1] at hq
      exact ⟨hq, hx.pc.1, hx.pc.2, hx.zc, hx.yc⟩)
    have hkB : Keeps [] w3 w3 := Keeps.refl _ _
    clear hr4 QP HR3 HF1 HC1 HW1 HE cx d0 hans
    generalize (x.step S1).2.1 = x' at *
    generalize (x.step S1).2.2 = S' at *
    go_wp2_with fail
    refine wp_region_noPanic ?_
    refine wp_region_L 99 (fun w' => w'.cell? ⟨gb, 4 + j, none⟩ = some (PT b) ∧ w'.cell? ⟨gb, 0, none⟩ = some (PT z.p) ∧ w'.cell? ⟨gb, 1, none⟩ = some (PT y.p) ∧ w'.cell? ⟨z.p, 0, none⟩ = some (PT z.m) ∧ w'.cell? ⟨y.p, 6, none⟩ = some (PT y.m)) (by kernel_rfl) ?_
    have hHeld := HC.out _ hkB.drew
    refine wpAnyL_takeT (i := 0) (v := ?rv0) rfl (by kernel_rfl) (by kernel_rfl) (by kernel_rfl) (by kernel_rfl) (fun _ _ _ h => h) (Or.inl ⟨by rfl, ?ry0⟩) hHeld ?rr0
    case ry0 => (intro w' hSw; (try dsimp only at hSw); go_simp; first | done | with_reducible rfl)
    case' rr0 => (try simp only [Act.put, List.setIfInBounds_toArray, List.set_cons_zero, List.set_cons_succ])
    refine wpAnyL_takeT (i := 1) (v := ?rv1) rfl (by kernel_rfl) (by kernel_rfl) (by kernel_rfl) (by kernel_rfl) (fun _ _ _ h => h) (Or.inl ⟨by rfl, ?ry1⟩) hHeld ?rr1
    case ry1 => (intro w' hSw; (try dsimp only at hSw); go_simp; first | done | with_reducible rfl)
    case' rr1 => (try simp only [Act.put, List.setIfInBounds_toArray, List.set_cons_zero, List.set_cons_succ])
    refine wpAnyL_takeT (i := 2) (v := ?rv2) rfl (by kernel_rfl) (by kernel_rfl) (by kernel_rfl) (by kernel_rfl) (fun _ _ _ h => h) (Or.inl ⟨by rfl, ?ry2⟩) hHeld ?rr2
    case ry2 => (intro w' hSw; (try dsimp only at hSw); go_simp; first | done | with_reducible rfl)
    case' rr2 => (try simp only [Act.put, List.setIfInBounds_toArray, List.set_cons_zero, List.set_cons_succ])
    refine wpAnyL_takeT (i := 3) (v := ?rv3) rfl (by kernel_rfl) (by kernel_rfl) (by kernel_rfl) (by kernel_rfl) (fun _ _ _ h => h) (Or.inl ⟨by rfl, ?ry3⟩) hHeld ?rr3
    case ry3 => (intro w' hSw; (try dsimp only at hSw); go_simp; first | done | with_reducible rfl)
    case' rr3 => (try simp only [Act.put, List.setIfInBounds_toArray, List.set_cons_zero, List.set_cons_succ])
    refine wpAnyL_takeT (i := 4) (v := ?rv4) rfl (by kernel_rfl) (by kernel_rfl) (by kernel_rfl) (by kernel_rfl) (fun _ _ _ h => h) (Or.inl ⟨by rfl, ?ry4⟩) hHeld ?rr4
    case ry4 => (intro w' hSw; (try dsimp only at hSw); go_simp; first | done | with_reducible rfl)
    case' rr4 => (try simp only [Act.put, List.setIfInBounds_toArray, List.set_cons_zero, List.set_cons_succ])
    refine wpAnyL_takeT (i := 5) (v := ?rv5) rfl (by kernel_rfl) (by kernel_rfl) (by kernel_rfl) (by kernel_rfl) (fun _ _ _ h => h) (Or.inl ⟨by rfl, ?ry5⟩) hHeld ?rr5
    case ry5 => (intro w' hSw; (try dsimp only at hSw); go_simp; first | done | with_reducible rfl)
    case' rr5 => (try simp only [Act.put, List.setIfInBounds_toArray, List.set_cons_zero, List.set_cons_succ])
    refine wpAnyL_takeT (i := 6) (v := ?rv6) rfl (by kernel_rfl) (by kernel_rfl) (by kernel_rfl) (by kernel_rfl) (fun _ _ _ h => h) (Or.inl ⟨by rfl, ?ry6⟩) hHeld ?rr6
    case ry6 => (intro w' hSw; (try dsimp only at hSw); go_simp; first | done | with_reducible rfl)
    case' rr6 => (try simp only [Act.put, List.setIfInBounds_toArray, List.set_cons_zero, List.set_cons_succ])
    refine wpAnyL_oneT (i := 7) (by kernel_rfl) rfl (fun K hK => ?_)
    go_simp
    go_at_call 50
    refine (QD.out _ hkB.drew).mono ?_
    rintro e w5 ⟨rfl, hr5⟩
    have hS5 : w5.cell? ⟨gb, 4 + j, none⟩ = some (PT b) ∧ w5.cell? ⟨gb, 0, none⟩ = some (PT z.p) ∧ w5.cell? ⟨gb, 1, none⟩ = some (PT y.p) ∧ w5.cell? ⟨z.p, 0, none⟩ = some (PT z.m) ∧ w5.cell? ⟨y.p, 6, none⟩ = some (PT y.m) := ⟨by have h5 := (hr5.cells hj2).2.1; rw [upd_at] at h5; exact h5, hr5.pc.1, hr5.pc.2, hr5.zc, hr5.yc⟩
    go_simp
    refine hK.out _ _ (fun _ => hS5) ?_
    clear hK K
    try simp only [Act.put, List.setIfInBounds_toArray, List.set_cons_zero, List.set_cons_succ]
    replace hHeld := hS5
    clear hS5
    have HQ := Lib.hid hr5
    have cm2 := hr5.done_cell
    have QM := Lib.hid hr5.done_call
    clear hr5
    refine wpAnyL_takeT (i := 8) (v := ?rv8) rfl (by kernel_rfl) (by kernel_rfl) (by kernel_rfl) (by kernel_rfl) (fun _ _ _ h => h) (Or.inl ⟨by rfl, ?ry8⟩) hHeld ?rr8
    case ry8 => (intro w' hSw; (try dsimp only at hSw); go_simp; first | done | with_reducible rfl)
    case' rr8 => (try simp only [Act.put, List.setIfInBounds_toArray, List.set_cons_zero, List.set_cons_succ])
    refine wpAnyL_takeT (i := 9) (v := ?rv9) rfl (by kernel_rfl) (by kernel_rfl) (by kernel_rfl) (by kernel_rfl) (fun _ _ _ h => h) (Or.inl ⟨by rfl, ?ry9⟩) hHeld ?rr9
    case ry9 => (intro w' hSw; (try dsimp only at hSw); go_simp; first | done | with_reducible rfl)
    case' rr9 => (try simp only [Act.put, List.setIfInBounds_toArray, List.set_cons_zero, List.set_cons_succ])
    refine wpAnyL_takeT (i := 10) (v := ?rv10) rfl (by kernel_rfl) (by kernel_rfl) (by kernel_rfl) (by kernel_rfl) (fun _ _ _ h => h) (Or.inl ⟨by rfl, ?ry10⟩) hHeld ?rr10
    case ry10 => (intro w' hSw; (try dsimp only at hSw); go_simp; first | done | with_reducible rfl)
    case' rr10 => (try simp only [Act.put, List.setIfInBounds_toArray, List.set_cons_zero, List.set_cons_succ])
    refine wpAnyL_takeT (i := 11) (v := ?rv11) rfl (by kernel_rfl) (by kernel_rfl) (by kernel_rfl) (by kernel_rfl) (fun _ _ _ h => h) (Or.inl ⟨by rfl, ?ry11⟩) hHeld ?rr11
    case ry11 => (intro w' hSw; (try dsimp only at hSw); go_simp; first | done | with_reducible rfl)
    case' rr11 => (try simp only [Act.put, List.setIfInBounds_toArray, List.set_cons_zero, List.set_cons_succ])
    refine wpAnyL_takeT (i := 12) (v := ?rv12) rfl (by kernel_rfl) (by kernel_rfl) (by kernel_rfl) (by kernel_rfl) (fun _ _ _ h => h) (Or.inl ⟨by rfl, ?ry12⟩) hHeld ?rr12
    case ry12 => (intro w' hSw; (try dsimp only at hSw); go_simp; first | done | with_reducible rfl)
    case' rr12 => (try simp only [Act.put, List.setIfInBounds_toArray, List.set_cons_zero, List.set_cons_succ])
    refine wpAnyL_takeT (i := 13) (v := ?rv13) rfl (by kernel_rfl) (by kernel_rfl) (by kernel_rfl) (by kernel_rfl) (fun _ _ _ h => h) (Or.inl ⟨by rfl, ?ry13⟩) hHeld ?rr13
    case ry13 => (intro w' hSw; (try dsimp only at hSw); go_simp; first | done | with_reducible rfl)
    case' rr13 => (try simp only [Act.put, List.setIfInBounds_toArray, List.set_cons_zero, List.set_cons_succ])
    refine wpAnyL_takeT (i := 14) (v := ?rv14) rfl (by kernel_rfl) (by kernel_rfl) (by kernel_rfl) (by kernel_rfl) (fun _ _ _ h => h) (Or.inl ⟨by rfl, ?ry14⟩) hHeld ?rr14
    case ry14 => (intro w' hSw; (try dsimp only at hSw); go_simp; first | done | with_reducible rfl)
    case' rr14 => (try simp only [Act.put, List.setIfInBounds_toArray, List.set_cons_zero, List.set_cons_succ])
    refine wpAnyL_takeT (i := 15) (v := ?rv15) rfl (by kernel_rfl) (by kernel_rfl) (by kernel_rfl) (by kernel_rfl) (fun _ _ _ h => h) (Or.inl ⟨by rfl, ?ry15⟩) hHeld ?rr15
    case ry15 => (intro w' hSw; (try dsimp only at hSw); go_simp; first | done | with_reducible rfl)
    case' rr15 => (try simp only [Act.put, List.setIfInBounds_toArray, List.set_cons_zero, List.set_cons_succ])
    refine wpAnyL_takeT (i := 16) (v := ?rv16) rfl (by kernel_rfl) (by kernel_rfl) (by kernel_rfl) (by kernel_rfl) (fun _ _ _ h => h) (Or.inl ⟨by rfl, ?ry16⟩) hHeld ?rr16
    case ry16 => (intro w' hSw; (try dsimp only at hSw); go_simp; first | done | with_reducible rfl)
    case' rr16 => (try simp only [Act.put, List.setIfInBounds_toArray, List.set_cons_zero, List.set_cons_succ])
    refine wpAnyL_takeT (i := 18) (v := ?rv18) rfl (by kernel_rfl) (by kernel_rfl) (by kernel_rfl) (by kernel_rfl) (fun _ _ _ h => h) (Or.inl ⟨by rfl, ?ry18⟩) hHeld ?rr18
    case ry18 => (intro w' hSw; (try dsimp only at hSw); go_simp; first | done | with_reducible rfl)
    case' rr18 => (try simp only [Act.put, List.setIfInBounds_toArray, List.set_cons_zero, List.set_cons_succ])
    refine wpAnyL_takeT (i := 19) (v := ?rv19) rfl (by kernel_rfl) (by kernel_rfl) (by kernel_rfl) (by kernel_rfl) (fun _ _ _ h => h) (Or.inl ⟨by rfl, ?ry19⟩) hHeld ?rr19
    case ry19 => (intro w' hSw; (try dsimp only at hSw); go_simp; first | done | with_reducible rfl)
    case' rr19 => (try simp only [Act.put, List.setIfInBounds_toArray, List.set_cons_zero, List.set_cons_succ])
    refine wpAnyL_takeT (i := 20) (v := ?rv20) rfl (by kernel_rfl) (by kernel_rfl) (by kernel_rfl) (by kernel_rfl) (fun _ _ _ h => h) (Or.inl ⟨by rfl, ?ry20⟩) hHeld ?rr20
    case ry20 => (intro w' hSw; (try dsimp only at hSw); go_simp; first | done | with_reducible rfl)
    case' rr20 => (try simp only [Act.put, List.setIfInBounds_toArray, List.set_cons_zero, List.set_cons_succ])
    refine wpAnyL_takeT (i := 21) (v := ?rv21) rfl (by kernel_rfl) (by kernel_rfl) (by kernel_rfl) (by kernel_rfl) (fun _ _ _ h => h) (Or.inl ⟨by rfl, ?ry21⟩) hHeld ?rr21
    case ry21 => (intro w' hSw; (try dsimp only at hSw); go_simp; first | done | with_reducible rfl)
    case' rr21 => (try simp only [Act.put, List.setIfInBounds_toArray, List.set_cons_zero, List.set_cons_succ])
    refine wpAnyL_takeT (i := 22) (v := ?rv22) rfl (by kernel_rfl) (by kernel_rfl) (by kernel_rfl) (by kernel_rfl) (fun _ _ _ h => h) (Or.inl ⟨by rfl, ?ry22⟩) hHeld ?rr22
    case ry22 => (intro w' hSw; (try dsimp only at hSw); go_simp; first | done | with_reducible rfl)
    case' rr22 => (try simp only [Act.put, List.setIfInBounds_toArray, List.set_cons_zero, List.set_cons_succ])
    refine wpAnyL_takeT (i := 23) (v := ?rv23) rfl (by kernel_rfl) (by kernel_rfl) (by kernel_rfl) (by kernel_rfl) (fun _ _ _ h => h) (Or.inl ⟨by rfl, ?ry23⟩) hHeld ?rr23
    case ry23 => (intro w' hSw; (try dsimp only at hSw); go_simp; first | done | with_reducible rfl)
    case' rr23 => (try simp only [Act.put, List.setIfInBounds_toArray, List.set_cons_zero, List.set_cons_succ])
    refine wpAnyL_takeT (i := 24) (v := ?rv24) rfl (by kernel_rfl) (by kernel_rfl) (by kernel_rfl) (by kernel_rfl) (fun _ _ _ h => h) (Or.inl ⟨by rfl, ?ry24⟩) hHeld ?rr24
    case ry24 => (intro w' hSw; (try dsimp only at hSw); go_simp; first | done | with_reducible rfl)
    case' rr24 => (try simp only [Act.put, List.setIfInBounds_toArray, List.set_cons_zero, List.set_cons_succ])
    refine wpAnyL_takeT (i := 25) (v := ?rv25) rfl (by kernel_rfl) (by kernel_rfl) (by kernel_rfl) (by kernel_rfl) (fun _ _ _ h => h) (Or.inl ⟨by rfl, ?ry25⟩) hHeld ?rr25
    case ry25 => (intro w' hSw; (try dsimp only at hSw); go_simp; first | done | with_reducible rfl)
    case' rr25 => (try simp only [Act.put, List.setIfInBounds_toArray, List.set_cons_zero, List.set_cons_succ])
    refine wpAnyL_takeT (i := 26) (v := ?rv26) rfl (by kernel_rfl) (by kernel_rfl) (by kernel_rfl) (by kernel_rfl) (fun _ _ _ h => h) (Or.inl ⟨by rfl, ?ry26⟩) hHeld ?rr26
    case ry26 => (intro w' hSw; (try dsimp only at hSw); go_simp; first | done | with_reducible rfl)
    case' rr26 => (try simp only [Act.put, List.setIfInBounds_toArray, List.set_cons_zero, List.set_cons_succ])
    refine wpAnyL_twoT (i := 17) (j := 27) (by kernel_rfl) rfl rfl (fun K hK => ?_) (fun K hK => ?_)
    · go_simp
      go_at_call 19
      refine (QM.out).mono ?_
      rintro e w6 ⟨rfl, rfl⟩
      go_simp
      refine hK.out _ _ (fun _ => hHeld) ?_
      clear hK K
      try simp only [Act.put, List.setIfInBounds_toArray, List.set_cons_zero, List.set_cons_succ]
      refine wpAnyL_oneT (i := 27) (by kernel_rfl) rfl (fun K hK => ?_)
      go_simp
      refine hK.out _ _ (fun _ => hHeld) ?_
      clear hK K
      try simp only [Act.put, List.setIfInBounds_toArray, List.set_cons_zero, List.set_cons_succ]
      refine wpAnyL_takeT (i := 28) (v := ?rv28) rfl (by kernel_rfl) (by kernel_rfl) (by kernel_rfl) (by kernel_rfl) (fun _ _ _ h => h) (Or.inl ⟨by rfl, ?ry28⟩) hHeld ?rr28
      case ry28 => (intro w' hSw; (try dsimp only at hSw); go_simp; first | done | with_reducible rfl)
      case' rr28 => (try simp only [Act.put, List.setIfInBounds_toArray, List.set_cons_zero, List.set_cons_succ])
      refine wpAnyL_takeT (i := 29) (v := ?rv29) rfl (by kernel_rfl) (by kernel_rfl) (by kernel_rfl) (by kernel_rfl) (fun _ _ _ h => h) (Or.inl ⟨by rfl, ?ry29⟩) hHeld ?rr29
      case ry29 => (intro w' hSw; (try dsimp only at hSw); go_simp; first | done | with_reducible rfl)
      case' rr29 => (try simp only [Act.put, List.setIfInBounds_toArray, List.set_cons_zero, List.set_cons_succ])
      refine wpAnyL_takeT (i := 30) (v := ?rv30) rfl (by kernel_rfl) (by kernel_rfl) (by kernel_rfl) (by kernel_rfl) (fun _ _ _ h => h) (Or.inl ⟨by rfl, ?ry30⟩) hHeld ?rr30
      case ry30 => (intro w' hSw; (try dsimp only at hSw); go_simp; first | done | with_reducible rfl)
      case' rr30 => (try simp only [Act.put, List.setIfInBounds_toArray, List.set_cons_zero, List.set_cons_succ])
      refine wpAnyL_done (by kernel_rfl) ?_ _
      refine NoPanic.normal ?_
      go_wp2_with fail
      go_ret
      exact ⟨rfl, _, _, _, _, _, (HQ.out.left).calm (by first | exact Keeps.refl _ _ | exact (Keeps.refl _ _).drew | exact (Keeps.refl _ _).drewN _), HOUT.out.1, HOUT.out.2.1, HOUT.out.2.2.1, HOUT.out.2.2.2.1, HOUT.out.2.2.2.2⟩
    · go_simp
      refine hK.out _ _ (fun _ => hHeld) ?_
      clear hK K
      try simp only [Act.put, List.setIfInBounds_toArray, List.set_cons_zero, List.set_cons_succ]
      refine wpAnyL_oneT (i := 17) (by kernel_rfl) rfl (fun K hK => ?_)
      go_simp
      go_at_call 19
      refine (QM.out).mono ?_
      rintro e w6 ⟨rfl, rfl⟩
      go_simp
      refine hK.out _ _ (fun _ => hHeld) ?_
      clear hK K
      try simp only [Act.put, List.setIfInBounds_toArray, List.set_cons_zero, List.set_cons_succ]
      refine wpAnyL_takeT (i := 28) (v := ?rvb28) rfl (by kernel_rfl) (by kernel_rfl) (by kernel_rfl) (by kernel_rfl) (fun _ _ _ h => h) (Or.inl ⟨by rfl, ?ryb28⟩) hHeld ?rrb28
      case ryb28 => (intro w' hSw; (try dsimp only at hSw); go_simp; first | done | with_reducible rfl)
      case' rrb28 => (try simp only [Act.put, List.setIfInBounds_toArray, List.set_cons_zero, List.set_cons_succ])
      refine wpAnyL_takeT (i := 29) (v := ?rvb29) rfl (by kernel_rfl) (by kernel_rfl) (by kernel_rfl) (by kernel_rfl) (fun _ _ _ h => h) (Or.inl ⟨by rfl, ?ryb29⟩) hHeld ?rrb29
      case ryb29 => (intro w' hSw; (try dsimp only at hSw); go_simp; first | done | with_reducible rfl)
      case' rrb29 => (try simp only [Act.put, List.setIfInBounds_toArray, List.set_cons_zero, List.set_cons_succ])
      refine wpAnyL_takeT (i := 30) (v := ?rvb30) rfl (by kernel_rfl) (by kernel_rfl) (by kernel_rfl) (by kernel_rfl) (fun _ _ _ h => h) (Or.inl ⟨by rfl, ?ryb30⟩) hHeld ?rrb30
      case ryb30 => (intro w' hSw; (try dsimp only at hSw); go_simp; first | done | with_reducible rfl)
      case' rrb30 => (try simp only [Act.put, List.setIfInBounds_toArray, List.set_cons_zero, List.set_cons_succ])
      refine wpAnyL_done (by kernel_rfl) ?_ _
      refine NoPanic.normal ?_
      go_wp2_with fail
      go_ret
      exact ⟨rfl, _, _, _, _, _, (HQ.out.left).calm (by first | exact Keeps.refl _ _ | exact (Keeps.refl _ _).drew | exact (Keeps.refl _ _).drewN _), HOUT.out.1, HOUT.out.2.1, HOUT.out.2.2.1, HOUT.out.2.2.2.1, HOUT.out.2.2.2.2⟩
set_option maxRecDepth 100000 in
set_option maxHeartbeats 16000000 in
theorem does_sdoom (hI : Ins w0 w z y n gb k cf S M N A B) (hk : k ≤ 1048576) (hn : cf.slots = (n : Int)) (n8 : n ≤ 8) (mm pi pn px : Int) (fa fb : Nat) (hsg : (⟨fa, fb⟩ : Sg).ok) (lv : Value) :
    Calls Tryz.prog 8 #[PT gb, .agg #[.int .i64 23, .int .i64 mm, .int .i64 pi, .int .i64 pn, .int .i64 px, .int .u64 (fa : Int), .int .u64 (fb : Int), lv]] w fun e w' => e = .returned (.bool true) ∧ Out w0 w' z y n gb (k + 1) cf := by
  obtain ⟨j, hj⟩ : ∃ j : Nat, mm % 2 = (j : Int) := ⟨(mm % 2).toNat, by omega⟩
  have m1 : bits .and .i64 mm 1 = (j : Int) := (i64_and1 mm).trans hj
  have hj2 : j < 2 := by omega
  have j0 : (0 : Int) ≤ (j : Int) := by omega
  have j1 : (j : Int) < 2 := by omega
  clear hj
  have HI := Lib.hid hI
  have HN := Lib.hid (And.intro hn n8)
  have HK := Lib.hid hk
  have HSG := Lib.hid hsg
  have HR1 := Lib.hid (hI.rg.laid #[.int .i64 23, .int .i64 mm, .int .i64 pi, .int .i64 pn, .int .i64 px, .int .u64 (fa : Int), .int .u64 (fb : Int), lv])
  clear hI hn n8 hk hsg
  go_enter Tryz.func8, Tryz.ntmps8
  go_upto_region 1 with fail
  obtain ⟨wa, hwa⟩ : ∃ v, w.alloc (.cells #[.int .i64 23, .int .i64 mm, .int .i64 pi, .int .i64 pn, .int .i64 px, .int .u64 (fa : Int), .int .u64 (fb : Int), lv] 50) = v := ⟨_, rfl⟩
  obtain ⟨bo, hbo⟩ : ∃ b, w.heap.size = b := ⟨_, rfl⟩
  rw [hwa] at HR1
  rw [hbo] at HR1
  try rw [hwa]
  try rw [hbo]
  have bx := HR1.out.box
  obtain ⟨g0, g1⟩ := HR1.out.pc
  clear hwa hbo
  have d1 : wa.cell? ⟨bo, 1, none⟩ = some (.int .i64 mm) := (bx.cell 1).trans rfl
  clear bx
  go_wp2_with fail
  refine (HR1.out.turn _).mono ?_
  rintro e w1 ⟨rfl, hr2⟩
  have HR2 := Lib.hid hr2
  clear g0 g1 d1 HR1 m1
  obtain ⟨g0, g1⟩ := hr2.pc
  have yc := hr2.yc
  clear hr2
  go_wp2_with fail
  refine (HR2.out.begin _).mono ?_
  rintro e w2 ⟨rfl, hr3⟩
  have HR3 := Lib.hid hr3
  clear g0 g1 yc HR2
  have bx := hr3.box
  have d0 : w2.cell? ⟨bo, 0, none⟩ = some (.int .i64 23) := (bx.cell 0).trans rfl
  clear hr3 bx
  have HF1 : Hid (Fit k (S.begin j)) := HI.out.fit.begin _
  have HC1 : Hid ((S.begin j).c = cf) := HI.out.c
  have HW1 : Hid ((S.begin j).wu) := HI.out.wu
  obtain ⟨S1, hS1⟩ : ∃ v, S.begin j = v := ⟨_, rfl⟩
  rw [hS1] at HR3 HF1 HC1 HW1
  clear hS1
  rcases HI.out.pd j with ⟨e1, e2⟩ | ⟨a, b, x, e1, e2, hok⟩
  · have cx : w2.cell? ⟨gb, 6 + j, none⟩ = some (.pointer none) := by have h5 := (HR3.out.cells hj2).2.2.1; rw [e1] at h5; exact h5
    go_wp2_with fail
    go_ret
    exact ⟨rfl, _, _, _, _, _, HR3.out.left, HF1.out.succ, HW1.out, HC1.out, Pair.mono HI.out.pl (fun x h => okS h), Pair.mono HI.out.pd (fun x h => Nat.le_succ_of_le h)⟩
  · have cx : w2.cell? ⟨gb, 6 + j, none⟩ = some (PT a) := by have h5 := (HR3.out.cells hj2).2.2.1; rw [e1] at h5; exact h5
    have HE := Lib.hid (And.intro e1 (And.intro e2 hok))
    have hk40 : k ≤ 1099511627776 := by have := HK.out; omega
    have QP : Hid (∀ w', Keeps [] w2 w' → Calls Tryz.prog 35 #[PT a] w' fun e w'' => e = .returned (.int .i64 (x.step S1).1) ∧ Rg w0 w'' z y n gb (some (bo, #[.int .i64 23, .int .i64 mm, .int .i64 pi, .int .i64 pn, .int .i64 px, .int .u64 (fa : Int), .int .u64 (fb : Int), lv])) (x.step S1).2.2 S1 M N (upd' A j (some (a, (x.step S1).2.1))) B) := fun w' hk => dm_calls (HR3.out.calm hk) HE.out.1 HF1.out hk40 (by have := HE.out.2.2; omega)
    clear e1 e2 hok
    have HOUT := Lib.hid (show Fit (k + 1) (x.step S1).2.2 ∧ (x.step S1).2.2.wu ∧ (x.step S1).2.2.c = cf ∧ Pair (Lk.Ok (k + 1)) M N ∧ Pair (fun v : Dm => v.doomed.length ≤ k + 1) (upd' A j (some (a, (x.step S1).2.1))) (upd' B j (some (b, (x.step S1).2.1))) from ⟨HF1.out.dmstep x, Sp.wu_of HW1.out (dm_cw x S1).2, ((dm_cw x S1).1).trans HC1.out, Pair.mono HI.out.pl (fun x h => okS h), PR.Pair.set (Pair.mono HI.out.pd (fun x h => Nat.le_succ_of_le h)) j (by have h6 := HE.out.2.2; have h7 := dm_len x S1; show (x.step S1).2.1.doomed.length ≤ k + 1; exact Nat.le_trans h7 (Nat.succ_le_succ h6))⟩)
    obtain ⟨ans, hans⟩ : ∃ v, (x.step S1).1 = v := ⟨_, rfl⟩
    rw [hans] at QP
    go_wp2_with fail
    refine (QP.out _ (Keeps.refl _ _)).mono ?_
    rintro e w3 ⟨rfl, hr4⟩
    have QD : Hid (∀ w', Keeps [] w3 w' → Calls Tryz.prog 51 #[PT b] w' fun e w'' => e = .returned (.int .i64 ans) ∧ Rg w0 w'' z y n gb (some (bo, #[.int .i64 23, .int .i64 mm, .int .i64 pi, .int .i64 pn, .int .i64 px, .int .u64 (fa : Int), .int .u64 (fb : Int), lv])) (x.step S1).2.2 (x.step S1).2.2 M N (upd' A j (some (a, (x.step S1).2.1))) (upd' B j (some (b, (x.step S1).2.1)))) := fun w' hk => by
      have h5 := dd_calls (hr4.calm hk) HE.out.2.1 HF1.out hk40 (by have := HE.out.2.2; omega)
      rw [hans] at h5
      exact h5
    have HC := Lib.hid (show ∀ w', Keeps [] w3 w' → w'.cell? ⟨gb, 8 + j, none⟩ = some (PT b) ∧ w'.cell? ⟨gb, 0, none⟩ = some (PT z.p) ∧ w'.cell? ⟨gb, 1, none⟩ = some (PT y.p) ∧ w'.cell? ⟨z.p, 0, none⟩ = some (PT z.m) ∧ w'.cell? ⟨y.p, 6, none⟩ = some (PT y.m) from fun w' hk => by
      have hx := hr4.calm hk
      have hq := (hx.cells hj2).2.2.2
      rw [HE.out.2.1] at hq
      exact ⟨hq, hx.pc.1, hx.pc.2, hx.zc, hx.yc⟩)
    have hkB : Keeps [] w3 w3 := Keeps.refl _ _
    clear hr4 QP HR3 HF1 HC1 HW1 HE cx d0 hans
    generalize (x.step S1).2.1 = x' at *
    generalize (x.step S1).2.2 = S' at *
    go_wp2_with fail
    refine wp_region_noPanic ?_
    refine wp_region_L 99 (fun w' => w'.cell? ⟨gb, 8 + j, none⟩ = some (PT b) ∧ w'.cell? ⟨gb, 0, none⟩ = some (PT z.p) ∧ w'.cell? ⟨gb, 1, none⟩ = some (PT y.p) ∧ w'.cell? ⟨z.p, 0, none⟩ = some (PT z.m) ∧ w'.cell? ⟨y.p, 6, none⟩ = some (PT y.m)) (by kernel_rfl) ?_
    have hHeld := HC.out _ hkB.drew
    refine wpAnyL_takeT (i := 0) (v := ?rv0) rfl (by kernel_rfl) (by kernel_rfl) (by kernel_rfl) (by kernel_rfl) (fun _ _ _ h => h) (Or.inl ⟨by rfl, ?ry0⟩) hHeld ?rr0
    case ry0 => (intro w' hSw; (try dsimp only at hSw); go_simp; first | done | with_reducible rfl)
    case' rr0 => (try simp only [Act.put, List.setIfInBounds_toArray, List.set_cons_zero, List.set_cons_succ])
    refine wpAnyL_takeT (i := 1) (v := ?rv1) rfl (by kernel_rfl) (by kernel_rfl) (by kernel_rfl) (by kernel_rfl) (fun _ _ _ h => h) (Or.inl ⟨by rfl, ?ry1⟩) hHeld ?rr1
    case ry1 => (intro w' hSw; (try dsimp only at hSw); go_simp; first | done | with_reducible rfl)
    case' rr1 => (try simp only [Act.put, List.setIfInBounds_toArray, List.set_cons_zero, List.set_cons_succ])
    refine wpAnyL_takeT (i := 2) (v := ?rv2) rfl (by kernel_rfl) (by kernel_rfl) (by kernel_rfl) (by kernel_rfl) (fun _ _ _ h => h) (Or.inl ⟨by rfl, ?ry2⟩) hHeld ?rr2
    case ry2 => (intro w' hSw; (try dsimp only at hSw); go_simp; first | done | with_reducible rfl)
    case' rr2 => (try simp only [Act.put, List.setIfInBounds_toArray, List.set_cons_zero, List.set_cons_succ])
    refine wpAnyL_takeT (i := 3) (v := ?rv3) rfl (by kernel_rfl) (by kernel_rfl) (by kernel_rfl) (by kernel_rfl) (fun _ _ _ h => h) (Or.inl ⟨by rfl, ?ry3⟩) hHeld ?rr3
    case ry3 => (intro w' hSw; (try dsimp only at hSw); go_simp; first | done | with_reducible rfl)
    case' rr3 => (try simp only [Act.put, List.setIfInBounds_toArray, List.set_cons_zero, List.set_cons_succ])
    refine wpAnyL_takeT (i := 4) (v := ?rv4) rfl (by kernel_rfl) (by kernel_rfl) (by kernel_rfl) (by kernel_rfl) (fun _ _ _ h => h) (Or.inl ⟨by rfl, ?ry4⟩) hHeld ?rr4
    case ry4 => (intro w' hSw; (try dsimp only at hSw); go_simp; first | done | with_reducible rfl)
    case' rr4 => (try simp only [Act.put, List.setIfInBounds_toArray, List.set_cons_zero, List.set_cons_succ])
    refine wpAnyL_takeT (i := 5) (v := ?rv5) rfl (by kernel_rfl) (by kernel_rfl) (by kernel_rfl) (by kernel_rfl) (fun _ _ _ h => h) (Or.inl ⟨by rfl, ?ry5⟩) hHeld ?rr5
    case ry5 => (intro w' hSw; (try dsimp only at hSw); go_simp; first | done | with_reducible rfl)
    case' rr5 => (try simp only [Act.put, List.setIfInBounds_toArray, List.set_cons_zero, List.set_cons_succ])
    refine wpAnyL_takeT (i := 6) (v := ?rv6) rfl (by kernel_rfl) (by kernel_rfl) (by kernel_rfl) (by kernel_rfl) (fun _ _ _ h => h) (Or.inl ⟨by rfl, ?ry6⟩) hHeld ?rr6
    case ry6 => (intro w' hSw; (try dsimp only at hSw); go_simp; first | done | with_reducible rfl)
    case' rr6 => (try simp only [Act.put, List.setIfInBounds_toArray, List.set_cons_zero, List.set_cons_succ])
    refine wpAnyL_oneT (i := 7) (by kernel_rfl) rfl (fun K hK => ?_)
    go_simp
    go_at_call 51
    refine (QD.out _ hkB.drew).mono ?_
    rintro e w5 ⟨rfl, hr5⟩
    have hS5 : w5.cell? ⟨gb, 8 + j, none⟩ = some (PT b) ∧ w5.cell? ⟨gb, 0, none⟩ = some (PT z.p) ∧ w5.cell? ⟨gb, 1, none⟩ = some (PT y.p) ∧ w5.cell? ⟨z.p, 0, none⟩ = some (PT z.m) ∧ w5.cell? ⟨y.p, 6, none⟩ = some (PT y.m) := ⟨by have h5 := (hr5.cells hj2).2.2.2; rw [upd_at] at h5; exact h5, hr5.pc.1, hr5.pc.2, hr5.zc, hr5.yc⟩
    go_simp
    refine hK.out _ _ (fun _ => hS5) ?_
    clear hK K
    try simp only [Act.put, List.setIfInBounds_toArray, List.set_cons_zero, List.set_cons_succ]
    replace hHeld := hS5
    clear hS5
    have HQ := Lib.hid hr5
    have cm2 := hr5.done_cell
    have QM := Lib.hid hr5.done_call
    clear hr5
    refine wpAnyL_takeT (i := 8) (v := ?rv8) rfl (by kernel_rfl) (by kernel_rfl) (by kernel_rfl) (by kernel_rfl) (fun _ _ _ h => h) (Or.inl ⟨by rfl, ?ry8⟩) hHeld ?rr8
    case ry8 => (intro w' hSw; (try dsimp only at hSw); go_simp; first | done | with_reducible rfl)
    case' rr8 => (try simp only [Act.put, List.setIfInBounds_toArray, List.set_cons_zero, List.set_cons_succ])
    refine wpAnyL_takeT (i := 9) (v := ?rv9) rfl (by kernel_rfl) (by kernel_rfl) (by kernel_rfl) (by kernel_rfl) (fun _ _ _ h => h) (Or.inl ⟨by rfl, ?ry9⟩) hHeld ?rr9
    case ry9 => (intro w' hSw; (try dsimp only at hSw); go_simp; first | done | with_reducible rfl)
    case' rr9 => (try simp only [Act.put, List.setIfInBounds_toArray, List.set_cons_zero, List.set_cons_succ])
    refine wpAnyL_takeT (i := 10) (v := ?rv10) rfl (by kernel_rfl) (by kernel_rfl) (by kernel_rfl) (by kernel_rfl) (fun _ _ _ h => h) (Or.inl ⟨by rfl, ?ry10⟩) hHeld ?rr10
    case ry10 => (intro w' hSw; (try dsimp only at hSw); go_simp; first | done | with_reducible rfl)
    case' rr10 => (try simp only [Act.put, List.setIfInBounds_toArray, List.set_cons_zero, List.set_cons_succ])
    refine wpAnyL_takeT (i := 11) (v := ?rv11) rfl (by kernel_rfl) (by kernel_rfl) (by kernel_rfl) (by kernel_rfl) (fun _ _ _ h => h) (Or.inl ⟨by rfl, ?ry11⟩) hHeld ?rr11
    case ry11 => (intro w' hSw; (try dsimp only at hSw); go_simp; first | done | with_reducible rfl)
    case' rr11 => (try simp only [Act.put, List.setIfInBounds_toArray, List.set_cons_zero, List.set_cons_succ])
    refine wpAnyL_takeT (i := 12) (v := ?rv12) rfl (by kernel_rfl) (by kernel_rfl) (by kernel_rfl) (by kernel_rfl) (fun _ _ _ h => h) (Or.inl ⟨by rfl, ?ry12⟩) hHeld ?rr12
    case ry12 => (intro w' hSw; (try dsimp only at hSw); go_simp; first | done | with_reducible rfl)
    case' rr12 => (try simp only [Act.put, List.setIfInBounds_toArray, List.set_cons_zero, List.set_cons_succ])
    refine wpAnyL_takeT (i := 13) (v := ?rv13) rfl (by kernel_rfl) (by kernel_rfl) (by kernel_rfl) (by kernel_rfl) (fun _ _ _ h => h) (Or.inl ⟨by rfl, ?ry13⟩) hHeld ?rr13
    case ry13 => (intro w' hSw; (try dsimp only at hSw); go_simp; first | done | with_reducible rfl)
    case' rr13 => (try simp only [Act.put, List.setIfInBounds_toArray, List.set_cons_zero, List.set_cons_succ])
    refine wpAnyL_takeT (i := 14) (v := ?rv14) rfl (by kernel_rfl) (by kernel_rfl) (by kernel_rfl) (by kernel_rfl) (fun _ _ _ h => h) (Or.inl ⟨by rfl, ?ry14⟩) hHeld ?rr14
    case ry14 => (intro w' hSw; (try dsimp only at hSw); go_simp; first | done | with_reducible rfl)
    case' rr14 => (try simp only [Act.put, List.setIfInBounds_toArray, List.set_cons_zero, List.set_cons_succ])
    refine wpAnyL_takeT (i := 15) (v := ?rv15) rfl (by kernel_rfl) (by kernel_rfl) (by kernel_rfl) (by kernel_rfl) (fun _ _ _ h => h) (Or.inl ⟨by rfl, ?ry15⟩) hHeld ?rr15
    case ry15 => (intro w' hSw; (try dsimp only at hSw); go_simp; first | done | with_reducible rfl)
    case' rr15 => (try simp only [Act.put, List.setIfInBounds_toArray, List.set_cons_zero, List.set_cons_succ])
    refine wpAnyL_takeT (i := 16) (v := ?rv16) rfl (by kernel_rfl) (by kernel_rfl) (by kernel_rfl) (by kernel_rfl) (fun _ _ _ h => h) (Or.inl ⟨by rfl, ?ry16⟩) hHeld ?rr16
    case ry16 => (intro w' hSw; (try dsimp only at hSw); go_simp; first | done | with_reducible rfl)
    case' rr16 => (try simp only [Act.put, List.setIfInBounds_toArray, List.set_cons_zero, List.set_cons_succ])
    refine wpAnyL_takeT (i := 18) (v := ?rv18) rfl (by kernel_rfl) (by kernel_rfl) (by kernel_rfl) (by kernel_rfl) (fun _ _ _ h => h) (Or.inl ⟨by rfl, ?ry18⟩) hHeld ?rr18
    case ry18 => (intro w' hSw; (try dsimp only at hSw); go_simp; first | done | with_reducible rfl)
    case' rr18 => (try simp only [Act.put, List.setIfInBounds_toArray, List.set_cons_zero, List.set_cons_succ])
    refine wpAnyL_takeT (i := 19) (v := ?rv19) rfl (by kernel_rfl) (by kernel_rfl) (by kernel_rfl) (by kernel_rfl) (fun _ _ _ h => h) (Or.inl ⟨by rfl, ?ry19⟩) hHeld ?rr19
    case ry19 => (intro w' hSw; (try dsimp only at hSw); go_simp; first | done | with_reducible rfl)
    case' rr19 => (try simp only [Act.put, List.setIfInBounds_toArray, List.set_cons_zero, List.set_cons_succ])
    refine wpAnyL_takeT (i := 20) (v := ?rv20) rfl (by kernel_rfl) (by kernel_rfl) (by kernel_rfl) (by kernel_rfl) (fun _ _ _ h => h) (Or.inl ⟨by rfl, ?ry20⟩) hHeld ?rr20
    case ry20 => (intro w' hSw; (try dsimp only at hSw); go_simp; first | done | with_reducible rfl)
    case' rr20 => (try simp only [Act.put, List.setIfInBounds_toArray, List.set_cons_zero, List.set_cons_succ])
    refine wpAnyL_takeT (i := 21) (v := ?rv21) rfl (by kernel_rfl) (by kernel_rfl) (by kernel_rfl) (by kernel_rfl) (fun _ _ _ h => h) (Or.inl ⟨by rfl, ?ry21⟩) hHeld ?rr21
    case ry21 => (intro w' hSw; (try dsimp only at hSw); go_simp; first | done | with_reducible rfl)
    case' rr21 => (try simp only [Act.put, List.setIfInBounds_toArray, List.set_cons_zero, List.set_cons_succ])
    refine wpAnyL_takeT (i := 22) (v := ?rv22) rfl (by kernel_rfl) (by kernel_rfl) (by kernel_rfl) (by kernel_rfl) (fun _ _ _ h => h) (Or.inl ⟨by rfl, ?ry22⟩) hHeld ?rr22
    case ry22 => (intro w' hSw; (try dsimp only at hSw); go_simp; first | done | with_reducible rfl)
    case' rr22 => (try simp only [Act.put, List.setIfInBounds_toArray, List.set_cons_zero, List.set_cons_succ])
    refine wpAnyL_takeT (i := 23) (v := ?rv23) rfl (by kernel_rfl) (by kernel_rfl) (by kernel_rfl) (by kernel_rfl) (fun _ _ _ h => h) (Or.inl ⟨by rfl, ?ry23⟩) hHeld ?rr23
    case ry23 => (intro w' hSw; (try dsimp only at hSw); go_simp; first | done | with_reducible rfl)
    case' rr23 => (try simp only [Act.put, List.setIfInBounds_toArray, List.set_cons_zero, List.set_cons_succ])
    refine wpAnyL_takeT (i := 24) (v := ?rv24) rfl (by kernel_rfl) (by kernel_rfl) (by kernel_rfl) (by kernel_rfl) (fun _ _ _ h => h) (Or.inl ⟨by rfl, ?ry24⟩) hHeld ?rr24
    case ry24 => (intro w' hSw; (try dsimp only at hSw); go_simp; first | done | with_reducible rfl)
    case' rr24 => (try simp only [Act.put, List.setIfInBounds_toArray, List.set_cons_zero, List.set_cons_succ])
    refine wpAnyL_takeT (i := 25) (v := ?rv25) rfl (by kernel_rfl) (by kernel_rfl) (by kernel_rfl) (by kernel_rfl) (fun _ _ _ h => h) (Or.inl ⟨by rfl, ?ry25⟩) hHeld ?rr25
    case ry25 => (intro w' hSw; (try dsimp only at hSw); go_simp; first | done | with_reducible rfl)
    case' rr25 => (try simp only [Act.put, List.setIfInBounds_toArray, List.set_cons_zero, List.set_cons_succ])
    refine wpAnyL_takeT (i := 26) (v := ?rv26) rfl (by kernel_rfl) (by kernel_rfl) (by kernel_rfl) (by kernel_rfl) (fun _ _ _ h => h) (Or.inl ⟨by rfl, ?ry26⟩) hHeld ?rr26
    case ry26 => (intro w' hSw; (try dsimp only at hSw); go_simp; first | done | with_reducible rfl)
    case' rr26 => (try simp only [Act.put, List.setIfInBounds_toArray, List.set_cons_zero, List.set_cons_succ])
    refine wpAnyL_twoT (i := 17) (j := 27) (by kernel_rfl) rfl rfl (fun K hK => ?_) (fun K hK => ?_)
    · go_simp
      go_at_call 19
      refine (QM.out).mono ?_
      rintro e w6 ⟨rfl, rfl⟩
      go_simp
      refine hK.out _ _ (fun _ => hHeld) ?_
      clear hK K
      try simp only [Act.put, List.setIfInBounds_toArray, List.set_cons_zero, List.set_cons_succ]
      refine wpAnyL_oneT (i := 27) (by kernel_rfl) rfl (fun K hK => ?_)
      go_simp
      refine hK.out _ _ (fun _ => hHeld) ?_
      clear hK K
      try simp only [Act.put, List.setIfInBounds_toArray, List.set_cons_zero, List.set_cons_succ]
      refine wpAnyL_takeT (i := 28) (v := ?rv28) rfl (by kernel_rfl) (by kernel_rfl) (by kernel_rfl) (by kernel_rfl) (fun _ _ _ h => h) (Or.inl ⟨by rfl, ?ry28⟩) hHeld ?rr28
      case ry28 => (intro w' hSw; (try dsimp only at hSw); go_simp; first | done | with_reducible rfl)
      case' rr28 => (try simp only [Act.put, List.setIfInBounds_toArray, List.set_cons_zero, List.set_cons_succ])
      refine wpAnyL_takeT (i := 29) (v := ?rv29) rfl (by kernel_rfl) (by kernel_rfl) (by kernel_rfl) (by kernel_rfl) (fun _ _ _ h => h) (Or.inl ⟨by rfl, ?ry29⟩) hHeld ?rr29
      case ry29 => (intro w' hSw; (try dsimp only at hSw); go_simp; first | done | with_reducible rfl)
      case' rr29 => (try simp only [Act.put, List.setIfInBounds_toArray, List.set_cons_zero, List.set_cons_succ])
      refine wpAnyL_takeT (i := 30) (v := ?rv30) rfl (by kernel_rfl) (by kernel_rfl) (by kernel_rfl) (by kernel_rfl) (fun _ _ _ h => h) (Or.inl ⟨by rfl, ?ry30⟩) hHeld ?rr30
      case ry30 => (intro w' hSw; (try dsimp only at hSw); go_simp; first | done | with_reducible rfl)
      case' rr30 => (try simp only [Act.put, List.setIfInBounds_toArray, List.set_cons_zero, List.set_cons_succ])
      refine wpAnyL_done (by kernel_rfl) ?_ _
      refine NoPanic.normal ?_
      go_wp2_with fail
      go_ret
      exact ⟨rfl, _, _, _, _, _, (HQ.out.left).calm (by first | exact Keeps.refl _ _ | exact (Keeps.refl _ _).drew | exact (Keeps.refl _ _).drewN _), HOUT.out.1, HOUT.out.2.1, HOUT.out.2.2.1, HOUT.out.2.2.2.1, HOUT.out.2.2.2.2⟩
    · go_simp
      refine hK.out _ _ (fun _ => hHeld) ?_
      clear hK K
      try simp only [Act.put, List.setIfInBounds_toArray, List.set_cons_zero, List.set_cons_succ]
      refine wpAnyL_oneT (i := 17) (by kernel_rfl) rfl (fun K hK => ?_)
      go_simp
      go_at_call 19
      refine (QM.out).mono ?_
      rintro e w6 ⟨rfl, rfl⟩
      go_simp
      refine hK.out _ _ (fun _ => hHeld) ?_
      clear hK K
      try simp only [Act.put, List.setIfInBounds_toArray, List.set_cons_zero, List.set_cons_succ]
      refine wpAnyL_takeT (i := 28) (v := ?rvb28) rfl (by kernel_rfl) (by kernel_rfl) (by kernel_rfl) (by kernel_rfl) (fun _ _ _ h => h) (Or.inl ⟨by rfl, ?ryb28⟩) hHeld ?rrb28
      case ryb28 => (intro w' hSw; (try dsimp only at hSw); go_simp; first | done | with_reducible rfl)
      case' rrb28 => (try simp only [Act.put, List.setIfInBounds_toArray, List.set_cons_zero, List.set_cons_succ])
      refine wpAnyL_takeT (i := 29) (v := ?rvb29) rfl (by kernel_rfl) (by kernel_rfl) (by kernel_rfl) (by kernel_rfl) (fun _ _ _ h => h) (Or.inl ⟨by rfl, ?ryb29⟩) hHeld ?rrb29
      case ryb29 => (intro w' hSw; (try dsimp only at hSw); go_simp; first | done | with_reducible rfl)
      case' rrb29 => (try simp only [Act.put, List.setIfInBounds_toArray, List.set_cons_zero, List.set_cons_succ])
      refine wpAnyL_takeT (i := 30) (v := ?rvb30) rfl (by kernel_rfl) (by kernel_rfl) (by kernel_rfl) (by kernel_rfl) (fun _ _ _ h => h) (Or.inl ⟨by rfl, ?ryb30⟩) hHeld ?rrb30
      case ryb30 => (intro w' hSw; (try dsimp only at hSw); go_simp; first | done | with_reducible rfl)
      case' rrb30 => (try simp only [Act.put, List.setIfInBounds_toArray, List.set_cons_zero, List.set_cons_succ])
      refine wpAnyL_done (by kernel_rfl) ?_ _
      refine NoPanic.normal ?_
      go_wp2_with fail
      go_ret
      exact ⟨rfl, _, _, _, _, _, (HQ.out.left).calm (by first | exact Keeps.refl _ _ | exact (Keeps.refl _ _).drew | exact (Keeps.refl _ _).drewN _), HOUT.out.1, HOUT.out.2.1, HOUT.out.2.2.1, HOUT.out.2.2.2.1, HOUT.out.2.2.2.2⟩
end
end LP
end Go.Proofs.YtmlnedilbneekaaGreat
