/- SpaceKeeps' walk. -/
import Derived.Deep.MidRow
import Derived.Deep.DeepCutAuto
import Derived.Deep.CutBlock
import Derived.Test.YtcoekpomiljofaaSpaceAw8
import Derived.Test.YtcoekpomiljofaaOneStruct
import Derived.Test.YtcoekpomiljofaaLocal2
import Derived.Deep.QuietTactic
import Derived.BigQuiet
import Derived.WalkKit
namespace Go.Proofs.Ytcoekpomiljofaa.spaceKeeps
open Go.RowKit
set_option linter.unusedVariables false
set_option linter.unusedSimpArgs false
/-- What the cells hold then. -/
def filled (c : Cf) (xs : List Int) : List Int := if xs.length ≤ c.cells.toNat then xs ++ List.replicate (c.cells.toNat - xs.length) 0 else List.replicate c.cells.toNat 0
theorem filled_len (c : Cf) (xs : List Int) : (filled c xs).length = c.cells.toNat := by
  unfold filled
  split
  · simp; omega
  · simp
def s1 (c : Cf) (xs : List Int) : Sp := { Sp.new c with cells := filled c xs }
def s2 (c : Cf) (xs : List Int) : Sp := { s1 c xs with met := ⟨1, 1, 0, 0, []⟩ }
def s3 (c : Cf) (xs : List Int) : Sp := { s1 c xs with met := ⟨1, 1, 1, 1, [⟨1, 1, 1, 0, 1, true⟩]⟩ }
def s4 (c : Cf) (xs : List Int) (v : Ev) : Sp := { s3 c xs with ev := [v.at_ 1] }
theorem k1 (c : Cf) (xs : List Int) : (Sp.new c).fill xs = ((if xs.length ≤ c.cells.toNat then 0 else 3), s1 c xs) := by
  unfold Sp.fill s1 filled
  by_cases h : xs.length ≤ c.cells.toNat <;> simp [Sp.new, h]
theorem k2 (c : Cf) (xs : List Int) : (s1 c xs).begin 1 = s2 c xs := by simp [Sp.begin, s1, s2, Sp.new, MS.begin, MS.zero, wrap64]
theorem k3 (c : Cf) (xs : List Int) (h : 1 ≤ c.cells) : ((s2 c xs).load 0).2 = s3 c xs := by
  have hl := filled_len c xs
  have hl1 : 1 ≤ c.cells.toNat := by omega
  obtain ⟨x, hx0⟩ : ∃ x, (filled c xs)[0]? = some x := ⟨_, List.getElem?_eq_getElem (by omega)⟩
  have hx : nth (s2 c xs).cells 0 = some x := hx0
  unfold Sp.load
  rw [hx]
  simp [Sp.acc, s2, s3, s1, Sp.new, MS.note, imax, wrap64]
theorem k4 (c : Cf) (xs : List Int) (v : Ev) : (s3 c xs).note v = s4 c xs v := by simp [Sp.note, s4, s3, s1, Sp.new]
theorem filled_get {c : Cf} {xs : List Int} {n j : Nat} {b : Bool} (hn : c.cells.toNat = n) (hb : decide ((xs.length : Int) ≤ (n : Int)) = b) (hj : j < n) : (filled c xs)[j]? = some (if b = true ∧ j < xs.length then xs[j]?.getD 0 else 0) := by
  unfold filled
  rw [hn]
  by_cases h : xs.length ≤ n
  · have hb' : b = true := by rw [← hb]; simp; omega
    rw [if_pos h]
    by_cases h2 : j < xs.length
    · rw [if_pos ⟨hb', h2⟩, List.getElem?_append_left h2, List.getElem?_eq_getElem h2]; rfl
    · rw [if_neg (fun h3 => h2 h3.2), List.getElem?_append_right (by omega), List.getElem?_replicate, if_pos (by omega)]
  · have hb' : b = false := by rw [← hb]; simp; omega
    subst hb'
    rw [if_neg h, if_neg (fun h3 => by simp at h3), List.getElem?_replicate, if_pos hj]
set_option maxRecDepth 100000 in
set_option maxHeartbeats 16000000 in
theorem walk (c : Cf) (A : Option Addr) (cap : Nat) (xs : List Int) (v : Ev) (w : World) (hxs : Slc w A xs) : Calls Try.prog 3 #[.agg #[.int .i64 c.cells, .int .i64 c.slots, .int .i64 c.bits, .int .i64 c.tag, .int .i64 c.bias, .int .i64 c.defer], .slice A xs.length cap, .agg #[.int .i64 v.kind, .int .i64 v.step, .int .i64 v.thread, .int .i64 v.stamp, .int .i64 v.cell, .int .i64 v.x, .bool v.mine, .int .i64 v.gate, .int .i64 v.e, .int .i64 v.who]] w fun e w' => e = .returned (.bool true) ∧ Below w.heap.size w w' := by
  have hk : Keeps [] w ((w.alloc (.cells #[.int .i64 c.cells, .int .i64 c.slots, .int .i64 c.bits, .int .i64 c.tag, .int .i64 c.bias, .int .i64 c.defer] 23)).alloc (.cells #[.int .i64 v.kind, .int .i64 v.step, .int .i64 v.thread, .int .i64 v.stamp, .int .i64 v.cell, .int .i64 v.x, .bool v.mine, .int .i64 v.gate, .int .i64 v.e, .int .i64 v.who] 27)) := by simp
  have hb : Blk ((w.alloc (.cells #[.int .i64 c.cells, .int .i64 c.slots, .int .i64 c.bits, .int .i64 c.tag, .int .i64 c.bias, .int .i64 c.defer] 23)).alloc (.cells #[.int .i64 v.kind, .int .i64 v.step, .int .i64 v.thread, .int .i64 v.stamp, .int .i64 v.cell, .int .i64 v.x, .bool v.mine, .int .i64 v.gate, .int .i64 v.e, .int .i64 v.who] 27)) w.heap.size 23 c.vals := (Blk.new _ _ _).alloc _
  have he : Blk ((w.alloc (.cells #[.int .i64 c.cells, .int .i64 c.slots, .int .i64 c.bits, .int .i64 c.tag, .int .i64 c.bias, .int .i64 c.defer] 23)).alloc (.cells #[.int .i64 v.kind, .int .i64 v.step, .int .i64 v.thread, .int .i64 v.stamp, .int .i64 v.cell, .int .i64 v.x, .bool v.mine, .int .i64 v.gate, .int .i64 v.e, .int .i64 v.who] 27)) (w.heap.size + 1) 27 v.vals := new_at _ _ _ (by simp)
  have HK := Lib.hid hk
  have HB := Lib.hid hb
  have HE := Lib.hid he
  obtain ⟨d0, d1, d2, d3, d4, d5⟩ := cf_cells hb
  clear hk hb he
  go_enter Try.func3, Try.ntmps3
  go_wp2_with fail
  refine (awake8 _).mono ?_
  rintro e w1 ⟨rfl, hk⟩
  replace HK := Lib.hid (HK.out.trans hk (by simp))
  replace HB := Lib.hid (HB.out.keeps hk (by simp))
  replace HE := Lib.hid (HE.out.keeps hk (by simp))
  clear hk d0 d1 d2 d3 d4 d5
  obtain ⟨zc, hzc⟩ : ∃ q, w.heap.size = q := ⟨_, rfl⟩
  obtain ⟨ze, hze⟩ : ∃ q, w.heap.size + 1 = q := ⟨_, rfl⟩
  rw [hze] at HE ⊢
  rw [hzc] at HB ⊢
  have HZC := Lib.hid (And.intro hzc hze)
  clear hzc hze
  obtain ⟨d0, d1, d2, d3, d4, d5⟩ := cf_cells HB.out
  by_cases hok : c.ok
  · have HOK := Lib.hid hok
    clear hok
    go_wp2_with fail
    refine (sp_new w1 c HOK.out).mono ?_
    rintro e w2 ⟨z, F, rfl, hs⟩
    clear d0 d1 d2 d3 d4 d5
    have HS : Hid (SP w w2 z F (Sp.new c)) := hs.base HK.out
    have HF : Hid (Fit 0 (Sp.new c)) := Fit.new HOK.out
    have LC : Hid (Loc w2 F zc 23 c.vals) := ⟨HB.out.keeps hs.keep (by simp), fun hx => by have := hs.low _ hx; have := HB.out.lt; omega⟩
    have LE : Hid (Loc w2 F ze 27 v.vals) := ⟨HE.out.keeps hs.keep (by simp), fun hx => by have := hs.low _ hx; have := HE.out.lt; omega⟩
    have HX : Hid (Slc w A xs) := hxs
    clear hs HK HB HE hxs
    have h1 := HOK.out.1
    have hml := HX.out.1
    have hsrc : Src w2 A xs := slc_src (HX.out.keeps HS.out.keep)
    obtain ⟨n1, hn1⟩ : ∃ n1 : Nat, c.cells.toNat = n1 := ⟨_, rfl⟩
    obtain ⟨n2, hn2⟩ : ∃ n2 : Nat, c.slots.toNat = n2 := ⟨_, rfl⟩
    have HN : Hid (c.cells = n1 ∧ c.slots = n2 ∧ 1 ≤ n1 ∧ n1 ≤ 256 ∧ 1 ≤ n2 ∧ n2 ≤ 8) := by have := HOK.out.2.1; unfold Hid; omega
    obtain ⟨g, hg⟩ : ∃ g : Int, (if xs.length ≤ c.cells.toNat then 0 else 3) = g := ⟨_, rfl⟩
    obtain ⟨b, hb⟩ : ∃ b : Bool, decide ((xs.length : Int) ≤ c.cells) = b := ⟨_, rfl⟩
    have hgb : (g == 0) = b := by
      rw [← hg, ← hb]
      by_cases h : xs.length ≤ c.cells.toNat
      · rw [if_pos h]; simp; omega
      · rw [if_neg h]; simp; omega
    have hgv : (b = true ∧ g = 0 ∧ xs.length ≤ c.cells.toNat) ∨ (b = false ∧ g = 3 ∧ ¬ xs.length ≤ c.cells.toNat) := by
      by_cases h : xs.length ≤ c.cells.toNat
      · rw [if_pos h] at hg
        exact .inl ⟨by rw [← hb]; simp; omega, hg.symm, h⟩
      · rw [if_neg h] at hg
        exact .inr ⟨by rw [← hb]; simp; omega, hg.symm, h⟩
    have HGV := Lib.hid hgv
    clear hgv
    have HG := Lib.hid (And.intro hb hgb)
    have hk1 := k1 c xs
    rw [hg] at hk1
    have HK1 := Lib.hid hk1
    clear hb hgb hk1 hg h1
    go_wp2_with fail
    have hq : Calls Try.prog 6 #[PT z.p, .slice A xs.length cap] w2 fun e w' => e = .returned (.int .i64 g) ∧ Went w w2 w' z F (s1 c xs) := by
      have hh := sp_fill HS.out A xs cap hsrc hml
      rw [HK1.out] at hh
      exact hh
    refine hq.mono ?_
    rintro e w3 ⟨rfl, F1, hs, hk, hn⟩
    have hh := HF.out.fill xs
    rw [HK1.out] at hh
    replace HF := Lib.hid hh
    clear hh
    clear hq HS
    have HS := Lib.hid hs
    replace LC := Lib.hid (LC.out.step hk hn)
    replace LE := Lib.hid (LE.out.step hk hn)
    clear hs hk hn
    clear hsrc hml HK1
    go_wp2_with fail
    have hq : Calls Try.prog 7 #[PT z.p, .int .i64 1] w3 fun e w' => e = .returned (.tuple #[]) ∧ Went w w3 w' z F1 (s2 c xs) := by
      have hh := sp_turn HS.out 1
      rw [k2] at hh
      exact hh
    refine hq.mono ?_
    rintro e w4 ⟨rfl, F2, hs, hk, hn⟩
    have hh := HF.out.begin 1
    rw [k2] at hh
    replace HF := Lib.hid hh
    clear hh
    clear hq HS
    have HS := Lib.hid hs
    replace LC := Lib.hid (LC.out.step hk hn)
    replace LE := Lib.hid (LE.out.step hk hn)
    clear hs hk hn
    go_wp2_with fail
    have hq : Calls Try.prog 8 #[PT z.p, .int .i64 0] w4 fun e w' => e = .returned (.tuple #[.int .i64 ((s2 c xs).load 0).1.1, .int .i64 ((s2 c xs).load 0).1.2]) ∧ Went w w4 w' z F2 (s3 c xs) := by
      have hh := sp_load HS.out HF.out (by decide) 0
      rw [k3 c xs HOK.out.1.1] at hh
      exact hh
    refine hq.mono ?_
    rintro e w5 ⟨rfl, F3, hs, hk, hn⟩
    have hh := HF.out.load 0
    rw [k3 c xs HOK.out.1.1] at hh
    replace HF := Lib.hid hh
    clear hh
    clear hq HS
    have HS := Lib.hid hs
    replace LC := Lib.hid (LC.out.step hk hn)
    replace LE := Lib.hid (LE.out.step hk hn)
    clear hs hk hn
    obtain ⟨e0, e1, e2, e3, e4, e5, e6, e7, e8, e9⟩ := ev_cells LE.out.blk
    go_wp2_with fail
    have hq : Calls Try.prog 9 #[PT z.p, .agg #[.int .i64 v.kind, .int .i64 v.step, .int .i64 v.thread, .int .i64 v.stamp, .int .i64 v.cell, .int .i64 v.x, .bool v.mine, .int .i64 v.gate, .int .i64 v.e, .int .i64 v.who]] w5 fun e w' => e = .returned (.tuple #[]) ∧ Went w w5 w' z F3 (s4 c xs v) := by
      have hh := sp_note HS.out HF.out (by decide) v
      rw [k4] at hh
      exact hh
    refine hq.mono ?_
    rintro e w6 ⟨rfl, F4, hs, hk, hn⟩
    have hh := HF.out.note v
    rw [k4] at hh
    replace HF := Lib.hid hh
    clear hh
    clear hq HS
    have HS := Lib.hid hs
    replace LC := Lib.hid (LC.out.step hk hn)
    replace LE := Lib.hid (LE.out.step hk hn)
    clear hs hk hn
    clear e0 e1 e2 e3 e4 e5 e6 e7 e8 e9
    go_wp2_with fail
    have hv : Calls Try.prog 10 #[PT z.p] w6 fun e w' => ∃ q1 c1 q2 c2, e = .returned (.agg #[.slice (some ⟨q1, 0, none⟩) n1 c1, .int .i64 0, .int .i64 0, .slice (some ⟨q2, 0, none⟩) n2 c2]) ∧ LocR w' F4 q1 2 1 n1 c1 ((filled c xs).flatMap RowI.cells) ∧ LocR w' F4 q2 59 8 n2 c2 ((List.replicate n2 (⟨Hd.zero, 0, 0⟩ : Sl)).flatMap Sl.cells) ∧ w6.heap.size ≤ q1 ∧ w6.heap.size ≤ q2 ∧ Keeps [] w6 w' :=
      (sp_view HS.out HF.out).mono fun e w' ⟨q1, c1, q2, c2, he, h1, h2, h3, h4, hk⟩ => by
        have hl1 : (s4 c xs v).cells.length = n1 := by rw [← hn1]; exact filled_len c xs
        have hl2 : (s4 c xs v).H.length = n2 := by rw [← hn2]; simp [s4, s3, s1, Sp.new]
        have h1' : OwnC w' q1 c1 (filled c xs) := h1
        have h2' : OwnS w' q2 c2 n2 (List.replicate n2 ⟨Hd.zero, 0, 0⟩) := by
          rw [hl2] at h2
          rw [← slL_rep8 n2]
          have : slL (s4 c xs v).H (s4 c xs v).W = slL (List.replicate n2 Hd.zero) (List.replicate (n2 * 2) 0) := by rw [← hn2]; rfl
          rw [← this]
          exact h2
        unfold OwnC at h1'
        rw [show (filled c xs).length = n1 from hl1] at h1'
        rw [hl1, hl2] at he
        exact ⟨q1, c1, q2, c2, he, ⟨h1', HS.out.fresh h3⟩, ⟨h2', HS.out.fresh h4⟩, h3, h4, hk⟩
    refine hv.mono ?_
    rintro e w7 ⟨a1, a1c, a2, a2c, rfl, hr1, hr2, hq1, hq2, hk⟩
    have LA1 := Lib.hid hr1
    have LA2 := Lib.hid hr2
    have NEa1 : Hid (w6.heap.size ≤ a1 ∧ w6.heap.size ≤ a2) := ⟨hq1, hq2⟩
    have HZa1 : Hid (w.heap.size ≤ w6.heap.size) := HS.out.keep.size
    clear hv
    replace LC := Lib.hid (LC.out.calm hk)
    replace LE := Lib.hid (LE.out.calm hk)
    replace HS := Lib.hid (HS.out.calm hk)
    clear hk hr1 hr2 hq1 hq2
    go_wp2_with fail
    have hka : Keeps [] w7 (w7.alloc (.cells #[.slice (some ⟨a1, 0, none⟩) n1 a1c, .int .i64 0, .int .i64 0, .slice (some ⟨a2, 0, none⟩) n2 a2c] 41)) := by simp
    have LV : Hid (Loc (w7.alloc (.cells #[.slice (some ⟨a1, 0, none⟩) n1 a1c, .int .i64 0, .int .i64 0, .slice (some ⟨a2, 0, none⟩) n2 a2c] 41)) F4 w7.heap.size 41 #[.slice (some ⟨a1, 0, none⟩) n1 a1c, .int .i64 0, .int .i64 0, .slice (some ⟨a2, 0, none⟩) n2 a2c]) := HS.out.local_ _ _
    replace LC := Lib.hid (LC.out.calm hka)
    replace LE := Lib.hid (LE.out.calm hka)
    replace LA1 := Lib.hid (LA1.out.calm hka)
    replace LA2 := Lib.hid (LA2.out.calm hka)
    replace HS := Lib.hid (HS.out.calm hka)
    obtain ⟨w8, hwb⟩ : ∃ q, w7.alloc (.cells #[.slice (some ⟨a1, 0, none⟩) n1 a1c, .int .i64 0, .int .i64 0, .slice (some ⟨a2, 0, none⟩) n2 a2c] 41) = q := ⟨_, rfl⟩
    obtain ⟨zv, hzq⟩ : ∃ q, w7.heap.size = q := ⟨_, rfl⟩
    rw [hwb] at LC LE LA1 LA2 HS LV ⊢
    rw [hzq] at LV ⊢
    clear hwb hzq hka
    have HLT : Hid (a1 < w8.heap.size ∧ a2 < w8.heap.size) := ⟨LA1.out.lt, LA2.out.lt⟩
    go_wp2_with fail
    have hv : Calls Try.prog 10 #[PT z.p] w8 fun e w' => ∃ q1 c1 q2 c2, e = .returned (.agg #[.slice (some ⟨q1, 0, none⟩) n1 c1, .int .i64 0, .int .i64 0, .slice (some ⟨q2, 0, none⟩) n2 c2]) ∧ LocR w' F4 q1 2 1 n1 c1 ((filled c xs).flatMap RowI.cells) ∧ LocR w' F4 q2 59 8 n2 c2 ((List.replicate n2 (⟨Hd.zero, 0, 0⟩ : Sl)).flatMap Sl.cells) ∧ w8.heap.size ≤ q1 ∧ w8.heap.size ≤ q2 ∧ Keeps [] w8 w' :=
      (sp_view HS.out HF.out).mono fun e w' ⟨q1, c1, q2, c2, he, h1, h2, h3, h4, hk⟩ => by
        have hl1 : (s4 c xs v).cells.length = n1 := by rw [← hn1]; exact filled_len c xs
        have hl2 : (s4 c xs v).H.length = n2 := by rw [← hn2]; simp [s4, s3, s1, Sp.new]
        have h1' : OwnC w' q1 c1 (filled c xs) := h1
        have h2' : OwnS w' q2 c2 n2 (List.replicate n2 ⟨Hd.zero, 0, 0⟩) := by
          rw [hl2] at h2
          rw [← slL_rep8 n2]
          have : slL (s4 c xs v).H (s4 c xs v).W = slL (List.replicate n2 Hd.zero) (List.replicate (n2 * 2) 0) := by rw [← hn2]; rfl
          rw [← this]
          exact h2
        unfold OwnC at h1'
        rw [show (filled c xs).length = n1 from hl1] at h1'
        rw [hl1, hl2] at he
        exact ⟨q1, c1, q2, c2, he, ⟨h1', HS.out.fresh h3⟩, ⟨h2', HS.out.fresh h4⟩, h3, h4, hk⟩
    refine hv.mono ?_
    rintro e w9 ⟨b1, b1c, b2, b2c, rfl, hr1, hr2, hq1, hq2, hk⟩
    have LB1 := Lib.hid hr1
    have LB2 := Lib.hid hr2
    have NEb1 : Hid (w8.heap.size ≤ b1 ∧ w8.heap.size ≤ b2) := ⟨hq1, hq2⟩
    have HZb1 : Hid (w.heap.size ≤ w8.heap.size) := HS.out.keep.size
    clear hv
    replace LC := Lib.hid (LC.out.calm hk)
    replace LE := Lib.hid (LE.out.calm hk)
    replace LA1 := Lib.hid (LA1.out.calm hk)
    replace LA2 := Lib.hid (LA2.out.calm hk)
    replace LV := Lib.hid (LV.out.calm hk)
    replace HS := Lib.hid (HS.out.calm hk)
    clear hk hr1 hr2 hq1 hq2
    go_wp2_with fail
    have hka : Keeps [] w9 (w9.alloc (.cells #[.slice (some ⟨b1, 0, none⟩) n1 b1c, .int .i64 0, .int .i64 0, .slice (some ⟨b2, 0, none⟩) n2 b2c] 41)) := by simp
    have LW : Hid (Loc (w9.alloc (.cells #[.slice (some ⟨b1, 0, none⟩) n1 b1c, .int .i64 0, .int .i64 0, .slice (some ⟨b2, 0, none⟩) n2 b2c] 41)) F4 w9.heap.size 41 #[.slice (some ⟨b1, 0, none⟩) n1 b1c, .int .i64 0, .int .i64 0, .slice (some ⟨b2, 0, none⟩) n2 b2c]) := HS.out.local_ _ _
    replace LC := Lib.hid (LC.out.calm hka)
    replace LE := Lib.hid (LE.out.calm hka)
    replace LA1 := Lib.hid (LA1.out.calm hka)
    replace LA2 := Lib.hid (LA2.out.calm hka)
    replace LV := Lib.hid (LV.out.calm hka)
    replace LB1 := Lib.hid (LB1.out.calm hka)
    replace LB2 := Lib.hid (LB2.out.calm hka)
    replace HS := Lib.hid (HS.out.calm hka)
    obtain ⟨w10, hwb⟩ : ∃ q, w9.alloc (.cells #[.slice (some ⟨b1, 0, none⟩) n1 b1c, .int .i64 0, .int .i64 0, .slice (some ⟨b2, 0, none⟩) n2 b2c] 41) = q := ⟨_, rfl⟩
    obtain ⟨zw, hzq⟩ : ∃ q, w9.heap.size = q := ⟨_, rfl⟩
    rw [hwb] at LC LE LA1 LA2 LV LB1 LB2 HS LW ⊢
    rw [hzq] at LW ⊢
    clear hwb hzq hka
    have HLE : Hid (ze < w10.heap.size ∧ b1 < w10.heap.size ∧ b2 < w10.heap.size) := ⟨LE.out.lt, LB1.out.lt, LB2.out.lt⟩
    refine (sp_events HS.out HF.out (by decide)).mono ?_
    rintro e w11 ⟨q, rfl, hown, hk⟩
    obtain ⟨a3, a3c, rfl, ha3⟩ := own_slice (n := 1) hown (by decide)
    have LA3 : Hid (LocR w11 F4 a3 27 10 1 a3c (evCells [v.at_ 1])) := ⟨own_base hown (fun _ _ => Nat.zero_le _), HS.out.fresh ha3⟩
    have NE3 : Hid (w10.heap.size ≤ a3 ∧ w.heap.size ≤ w10.heap.size) := ⟨ha3, HS.out.keep.size⟩
    replace LC := Lib.hid (LC.out.calm hk)
    replace LE := Lib.hid (LE.out.calm hk)
    replace LA1 := Lib.hid (LA1.out.calm hk)
    replace LA2 := Lib.hid (LA2.out.calm hk)
    replace LV := Lib.hid (LV.out.calm hk)
    replace LB1 := Lib.hid (LB1.out.calm hk)
    replace LB2 := Lib.hid (LB2.out.calm hk)
    replace LW := Lib.hid (LW.out.calm hk)
    replace HS := Lib.hid (HS.out.calm hk)
    clear hk hown ha3
    have c0 := HS.out.cells.1
    go_wp2_with fail
    have hlog : (s4 c xs v).met.log.length ≤ 2199023255552 := by show 1 ≤ _; decide
    refine (sp_log HS.out hlog).mono ?_
    rintro e w12 ⟨q, rfl, hown, hk⟩
    obtain ⟨a4, a4c, rfl, ha4⟩ := own_slice (n := 1) hown (by decide)
    have LA4 : Hid (LocR w12 F4 a4 61 6 1 a4c (logCells [⟨1, 1, 1, 0, 1, true⟩])) := ⟨own_base hown (fun _ _ => Nat.zero_le _), HS.out.fresh ha4⟩
    have NE4 : Hid (w11.heap.size ≤ a4 ∧ w.heap.size ≤ w11.heap.size) := ⟨ha4, HS.out.keep.size⟩
    replace LC := Lib.hid (LC.out.calm hk)
    replace LE := Lib.hid (LE.out.calm hk)
    replace LA1 := Lib.hid (LA1.out.calm hk)
    replace LA2 := Lib.hid (LA2.out.calm hk)
    replace LV := Lib.hid (LV.out.calm hk)
    replace LB1 := Lib.hid (LB1.out.calm hk)
    replace LB2 := Lib.hid (LB2.out.calm hk)
    replace LW := Lib.hid (LW.out.calm hk)
    replace LA3 := Lib.hid (LA3.out.calm hk)
    replace HS := Lib.hid (HS.out.calm hk)
    clear hk hown ha4 c0 hlog
    go_wp2_with fail
    obtain ⟨d0, d1, d2, d3, d4, d5⟩ : w12.cell? ⟨zv, 0, none⟩ = some (.slice (some ⟨a1, 0, none⟩) n1 a1c) ∧ w12.cell? ⟨zv, 3, none⟩ = some (.slice (some ⟨a2, 0, none⟩) n2 a2c) ∧ zv ≠ a1 ∧ zv ≠ a2 ∧ a1 ≠ zv ∧ a2 ≠ zv := ⟨(LV.out.blk.cell 0).trans rfl, (LV.out.blk.cell 3).trans rfl, ne_ty LV.out.ty LA1.out.ty (by decide), ne_ty LV.out.ty LA2.out.ty (by decide), ne_ty LA1.out.ty LV.out.ty (by decide), ne_ty LA2.out.ty LV.out.ty (by decide)⟩
    have HOV : Hid (OverC w12 F4 a1 n1 a1c w12) := ⟨⟨_, by rw [filled_len, hn1], LA1.out⟩, Keeps.refl _ _⟩
    have LV1 := Lib.hid LV.out.blk
    go_loopw [15] (fun i wr => ∃ j : Nat, j ≤ n1 ∧ i = .int .i64 j ∧ OverC w12 F4 a1 n1 a1c wr) (fun i _ => n1 - (intOf i).toNat)
    case atStart => exact ⟨0, Nat.zero_le _, rfl, HOV.out⟩
    case round =>
      obtain ⟨j, hj, rfl, hov⟩ := hrel
      have HV := Lib.hid hov
      clear hov HOV d0 d1
      have hv0 := LV1.out.keeps HV.out.2 (by simpa using d2)
      have d0 : wr.cell? ⟨zv, 0, none⟩ = some (.slice (some ⟨a1, 0, none⟩) n1 a1c) := (hv0.cell 0).trans rfl
      have d1 : wr.cell? ⟨zv, 2 + 1, none⟩ = some (.slice (some ⟨a2, 0, none⟩) n2 a2c) := (hv0.cell 3).trans rfl
      have hn256 := HN.out.2.2.2.1
      clear hv0
      by_cases hlt : (j : Int) < (n1 : Int)
      · have q0 : (0 : Int) ≤ (j : Int) := by omega
        obtain ⟨⟨x0, y0⟩, f0⟩ := HV.out.spot (k := j) (by omega)
        as_aux_lemma =>
          go_wp2_with fail
          go_region
          all_goals
            go_wp2_with fail
            exact ⟨⟨j + 1, by omega, by simp, HV.out.drew.put j _⟩, by simp [intOf]; omega⟩
      · have kv := HV.out.2
        replace HS := Lib.hid (HS.out.wrote kv (by have h1 := NEa1.out.1; have h2 := HZa1.out; omega) LA1.out.off LA1.out.ty (by decide))
        have hne : zc ∉ [a1] := by simpa using ne_ty LC.out.ty LA1.out.ty (by decide)
        replace LC := Lib.hid (LC.out.far kv hne)
        clear hne
        have hne : ze ∉ [a1] := by simpa using ne_ty LE.out.ty LA1.out.ty (by decide)
        replace LE := Lib.hid (LE.out.far kv hne)
        clear hne
        have hne : a2 ∉ [a1] := by simpa using ne_ty LA2.out.ty LA1.out.ty (by decide)
        replace LA2 := Lib.hid (LA2.out.far kv hne)
        clear hne
        have hne : zv ∉ [a1] := by simpa using ne_ty LV.out.ty LA1.out.ty (by decide)
        replace LV := Lib.hid (LV.out.far kv hne)
        clear hne
        have hne : b1 ∉ [a1] := by have h1 := HLT.out.1; have h2 := NEb1.out.1; simp; omega
        replace LB1 := Lib.hid (LB1.out.far kv hne)
        clear hne
        have hne : b2 ∉ [a1] := by simpa using ne_ty LB2.out.ty LA1.out.ty (by decide)
        replace LB2 := Lib.hid (LB2.out.far kv hne)
        clear hne
        have hne : zw ∉ [a1] := by simpa using ne_ty LW.out.ty LA1.out.ty (by decide)
        replace LW := Lib.hid (LW.out.far kv hne)
        clear hne
        have hne : a3 ∉ [a1] := by simpa using ne_ty LA3.out.ty LA1.out.ty (by decide)
        replace LA3 := Lib.hid (LA3.out.far kv hne)
        clear hne
        have hne : a4 ∉ [a1] := by simpa using ne_ty LA4.out.ty LA1.out.ty (by decide)
        replace LA4 := Lib.hid (LA4.out.far kv hne)
        clear hne
        clear kv HV LA1 LV1 d1 d2 d3 d4 d5
        obtain ⟨w13, hnew⟩ : ∃ q, q = wr := ⟨_, rfl⟩
        subst hnew
        obtain ⟨d3, d5⟩ : zv ≠ a2 ∧ a2 ≠ zv := ⟨ne_ty LV.out.ty LA2.out.ty (by decide), ne_ty LA2.out.ty LV.out.ty (by decide)⟩
        have HOS : Hid (OverR w13 F4 a2 59 8 n2 a2c w13) := ⟨⟨_, LA2.out⟩, Keeps.refl _ _⟩
        have LV1 := Lib.hid LV.out.blk
        have d1 : w13.cell? ⟨zv, 2 + 1, none⟩ = some (.slice (some ⟨a2, 0, none⟩) n2 a2c) := (LV.out.blk.cell 3).trans rfl
        go_wp2_with fail
        clear d0
        go_loopw [16] (fun i wr => ∃ j : Nat, j ≤ n2 ∧ i = .int .i64 j ∧ OverR w13 F4 a2 59 8 n2 a2c wr) (fun i _ => n2 - (intOf i).toNat)
        case atStart => exact ⟨0, Nat.zero_le _, rfl, HOS.out⟩
        case round =>
          obtain ⟨j, hj, rfl, hov⟩ := hrel
          have HV := Lib.hid hov
          clear hov HOS d1
          have hv0 := LV1.out.keeps HV.out.2 (by simpa using d3)
          have d1 : wr.cell? ⟨zv, 2 + 1, none⟩ = some (.slice (some ⟨a2, 0, none⟩) n2 a2c) := (hv0.cell 3).trans rfl
          have hn256 := HN.out.2.2.2.2.2
          clear hv0
          by_cases hlt : (j : Int) < (n2 : Int)
          · have q0 : (0 : Int) ≤ (j : Int) := by omega
            obtain ⟨⟨sx0, sc0⟩, sf0⟩ := HV.out.spot (k := j * 8) (by omega)
            obtain ⟨⟨sx1, sc1⟩, sf1⟩ := HV.out.spot (k := j * 8 + 1) (by omega)
            obtain ⟨⟨sx2, sc2⟩, sf2⟩ := HV.out.spot (k := j * 8 + 2) (by omega)
            obtain ⟨⟨sx3, sc3⟩, sf3⟩ := HV.out.spot (k := j * 8 + 3) (by omega)
            obtain ⟨⟨sx4, sc4⟩, sf4⟩ := HV.out.spot (k := j * 8 + 4) (by omega)
            obtain ⟨⟨sx5, sc5⟩, sf5⟩ := HV.out.spot (k := j * 8 + 5) (by omega)
            obtain ⟨⟨sx6, sc6⟩, sf6⟩ := HV.out.spot (k := j * 8 + 6) (by omega)
            obtain ⟨⟨sx7, sc7⟩, sf7⟩ := HV.out.spot (k := j * 8 + 7) (by omega)
            have RN := Lib.hid ((((((((HV.out.put (j * 8) (.int .i64 (-1))).put (j * 8 + 1) (.int .i64 0)).put (j * 8 + 2) (.int .i64 0)).put (j * 8 + 3) (.int .i64 0)).put (j * 8 + 4) (.bool false)).put (j * 8 + 5) (.int .i64 0)).put (j * 8 + 6) (.int .u64 0)).put (j * 8 + 7) (.int .u64 0))
            go_upto_region 20 with fail
            go_wp2_with fail
            exact ⟨⟨j + 1, by omega, by simp, RN.out⟩, by simp [intOf]; omega⟩
          · have kv := HV.out.2
            replace HS := Lib.hid (HS.out.wrote kv (by have h1 := NEa1.out.2; have h2 := HZa1.out; omega) LA2.out.off LA2.out.ty (by decide))
            have hne : zc ∉ [a2] := by simpa using ne_ty LC.out.ty LA2.out.ty (by decide)
            replace LC := Lib.hid (LC.out.far kv hne)
            clear hne
            have hne : ze ∉ [a2] := by simpa using ne_ty LE.out.ty LA2.out.ty (by decide)
            replace LE := Lib.hid (LE.out.far kv hne)
            clear hne
            have hne : zv ∉ [a2] := by simpa using ne_ty LV.out.ty LA2.out.ty (by decide)
            replace LV := Lib.hid (LV.out.far kv hne)
            clear hne
            have hne : b1 ∉ [a2] := by simpa using ne_ty LB1.out.ty LA2.out.ty (by decide)
            replace LB1 := Lib.hid (LB1.out.far kv hne)
            clear hne
            have hne : b2 ∉ [a2] := by have h1 := HLT.out.2; have h2 := NEb1.out.2; simp; omega
            replace LB2 := Lib.hid (LB2.out.far kv hne)
            clear hne
            have hne : zw ∉ [a2] := by simpa using ne_ty LW.out.ty LA2.out.ty (by decide)
            replace LW := Lib.hid (LW.out.far kv hne)
            clear hne
            have hne : a3 ∉ [a2] := by simpa using ne_ty LA3.out.ty LA2.out.ty (by decide)
            replace LA3 := Lib.hid (LA3.out.far kv hne)
            clear hne
            have hne : a4 ∉ [a2] := by simpa using ne_ty LA4.out.ty LA2.out.ty (by decide)
            replace LA4 := Lib.hid (LA4.out.far kv hne)
            clear hne
            clear kv HV LA2 LV1 LV d3 d5 NEa1
            obtain ⟨w14, hnew⟩ : ∃ q, q = wr := ⟨_, rfl⟩
            subst hnew
            go_upto_region 23 with fail
            have HE3 : Hid (OverR w14 F4 a3 27 10 1 a3c w14) := ⟨⟨_, LA3.out⟩, Keeps.refl _ _⟩
            obtain ⟨⟨sx0, sc0⟩, sf0⟩ := HE3.out.spot (k := 0) (by omega)
            obtain ⟨⟨sx1, sc1⟩, sf1⟩ := HE3.out.spot (k := 1) (by omega)
            obtain ⟨⟨sx2, sc2⟩, sf2⟩ := HE3.out.spot (k := 2) (by omega)
            obtain ⟨⟨sx3, sc3⟩, sf3⟩ := HE3.out.spot (k := 3) (by omega)
            obtain ⟨⟨sx4, sc4⟩, sf4⟩ := HE3.out.spot (k := 4) (by omega)
            obtain ⟨⟨sx5, sc5⟩, sf5⟩ := HE3.out.spot (k := 5) (by omega)
            obtain ⟨⟨sx6, sc6⟩, sf6⟩ := HE3.out.spot (k := 6) (by omega)
            obtain ⟨⟨sx7, sc7⟩, sf7⟩ := HE3.out.spot (k := 7) (by omega)
            obtain ⟨⟨sx8, sc8⟩, sf8⟩ := HE3.out.spot (k := 8) (by omega)
            obtain ⟨⟨sx9, sc9⟩, sf9⟩ := HE3.out.spot (k := 9) (by omega)
            have R15 := ((((((((((HE3.out.put (0) (.int .i64 (-1))).put (1) (.int .i64 0)).put (2) (.int .i64 0)).put (3) (.int .i64 0)).put (4) (.int .i64 0)).put (5) (.int .i64 0)).put (6) (.bool false)).put (7) (.int .i64 0)).put (8) (.int .i64 0)).put (9) (.int .i64 0))
            go_upto_region 24 with fail
            obtain ⟨w15, hw15⟩ : ∃ q, ((((((((((w14.setCell ⟨a3, 0, none⟩ (.int .i64 (-1))).setCell ⟨a3, 1, none⟩ (.int .i64 0)).setCell ⟨a3, 2, none⟩ (.int .i64 0)).setCell ⟨a3, 3, none⟩ (.int .i64 0)).setCell ⟨a3, 4, none⟩ (.int .i64 0)).setCell ⟨a3, 5, none⟩ (.int .i64 0)).setCell ⟨a3, 6, none⟩ (.bool false)).setCell ⟨a3, 7, none⟩ (.int .i64 0)).setCell ⟨a3, 8, none⟩ (.int .i64 0)).setCell ⟨a3, 9, none⟩ (.int .i64 0)) = q := ⟨_, rfl⟩
            rw [hw15] at R15
            try rw [hw15]
            have HR15 := Lib.hid R15
            have k15 := R15.2
            clear R15 hw15 sc0 sf0 sc1 sf1 sc2 sf2 sc3 sf3 sc4 sf4 sc5 sf5 sc6 sf6 sc7 sf7 sc8 sf8 sc9 sf9
            replace HS := Lib.hid (HS.out.wrote k15 (by have h1 := NE3.out.1; have h2 := NE3.out.2; omega) LA3.out.off LA3.out.ty (by decide))
            have hne : zc ∉ [a3] := by simpa using ne_ty LC.out.ty LA3.out.ty (by decide)
            replace LC := Lib.hid (LC.out.far k15 hne)
            clear hne
            have hne : ze ∉ [a3] := by have h1 := HLE.out.1; have h2 := NE3.out.1; simp; omega
            replace LE := Lib.hid (LE.out.far k15 hne)
            clear hne
            have hne : b1 ∉ [a3] := by simpa using ne_ty LB1.out.ty LA3.out.ty (by decide)
            replace LB1 := Lib.hid (LB1.out.far k15 hne)
            clear hne
            have hne : b2 ∉ [a3] := by simpa using ne_ty LB2.out.ty LA3.out.ty (by decide)
            replace LB2 := Lib.hid (LB2.out.far k15 hne)
            clear hne
            have hne : zw ∉ [a3] := by simpa using ne_ty LW.out.ty LA3.out.ty (by decide)
            replace LW := Lib.hid (LW.out.far k15 hne)
            clear hne
            have hne : a4 ∉ [a3] := by simpa using ne_ty LA4.out.ty LA3.out.ty (by decide)
            replace LA4 := Lib.hid (LA4.out.far k15 hne)
            clear hne
            clear k15 LA3 HE3
            have HE4 : Hid (OverR w15 F4 a4 61 6 1 a4c w15) := ⟨⟨_, LA4.out⟩, Keeps.refl _ _⟩
            obtain ⟨⟨sx0, sc0⟩, sf0⟩ := HE4.out.spot (k := 0) (by omega)
            obtain ⟨⟨sx1, sc1⟩, sf1⟩ := HE4.out.spot (k := 1) (by omega)
            obtain ⟨⟨sx2, sc2⟩, sf2⟩ := HE4.out.spot (k := 2) (by omega)
            obtain ⟨⟨sx3, sc3⟩, sf3⟩ := HE4.out.spot (k := 3) (by omega)
            obtain ⟨⟨sx4, sc4⟩, sf4⟩ := HE4.out.spot (k := 4) (by omega)
            obtain ⟨⟨sx5, sc5⟩, sf5⟩ := HE4.out.spot (k := 5) (by omega)
            have R16 := ((((((HE4.out.put (0) (.int .i64 (-1))).put (1) (.int .i64 0)).put (2) (.int .i64 0)).put (3) (.int .i64 0)).put (4) (.int .i64 0)).put (5) (.bool false))
            go_upto_region 25 with fail
            obtain ⟨w16, hw16⟩ : ∃ q, ((((((w15.setCell ⟨a4, 0, none⟩ (.int .i64 (-1))).setCell ⟨a4, 1, none⟩ (.int .i64 0)).setCell ⟨a4, 2, none⟩ (.int .i64 0)).setCell ⟨a4, 3, none⟩ (.int .i64 0)).setCell ⟨a4, 4, none⟩ (.int .i64 0)).setCell ⟨a4, 5, none⟩ (.bool false)) = q := ⟨_, rfl⟩
            rw [hw16] at R16
            try rw [hw16]
            have HR16 := Lib.hid R16
            have k16 := R16.2
            have h34 : a3 ≠ a4 := by
              obtain ⟨⟨cs, h1⟩, _⟩ := HR15.out
              exact ne_ty h1.ty LA4.out.ty (by decide)
            obtain ⟨cs3, l3⟩ : ∃ cs, LocR w16 F4 a3 27 10 1 a3c cs := by
              obtain ⟨⟨cs, h1⟩, _⟩ := HR15.out
              exact ⟨cs, h1.far k16 (by simpa using h34)⟩
            obtain ⟨cs4, l4⟩ : ∃ cs, LocR w16 F4 a4 61 6 1 a4c cs := by
              obtain ⟨⟨cs, h1⟩, _⟩ := HR16.out
              exact ⟨cs, h1⟩
            have L3 := Lib.hid l3
            have L4 := Lib.hid l4
            have HN34 := Lib.hid (And.intro h34 h34.symm)
            clear l3 l4 h34 HR15 HR16 R16 hw16 sc0 sf0 sc1 sf1 sc2 sf2 sc3 sf3 sc4 sf4 sc5 sf5
            replace HS := Lib.hid (HS.out.wrote k16 (by have h1 := NE4.out.1; have h2 := NE4.out.2; omega) LA4.out.off LA4.out.ty (by decide))
            have hne : zc ∉ [a4] := by simpa using ne_ty LC.out.ty LA4.out.ty (by decide)
            replace LC := Lib.hid (LC.out.far k16 hne)
            clear hne
            have hne : ze ∉ [a4] := by simpa using ne_ty LE.out.ty LA4.out.ty (by decide)
            replace LE := Lib.hid (LE.out.far k16 hne)
            clear hne
            have hne : b1 ∉ [a4] := by simpa using ne_ty LB1.out.ty LA4.out.ty (by decide)
            replace LB1 := Lib.hid (LB1.out.far k16 hne)
            clear hne
            have hne : b2 ∉ [a4] := by simpa using ne_ty LB2.out.ty LA4.out.ty (by decide)
            replace LB2 := Lib.hid (LB2.out.far k16 hne)
            clear hne
            have hne : zw ∉ [a4] := by simpa using ne_ty LW.out.ty LA4.out.ty (by decide)
            replace LW := Lib.hid (LW.out.far k16 hne)
            clear hne
            clear k16 LA4 HE4
            obtain ⟨i0, hi, hz0, hz1, hz2⟩ := info_parts Try.infoEv
            obtain ⟨j0, hj9, hy0, hy1, hy2⟩ := info_parts Try.infoAcc
            have m1 : Hid (1 + 1 ≤ maxLen) := by unfold Hid; decide
            have m2 : Hid ((1 + 1) * 80 ≤ 140737488355328) := by unfold Hid; decide
            have m3 : Hid ((1 + 1) * 48 ≤ 140737488355328) := by unfold Hid; decide
            have HO3 := Lib.hid L3.out.own
            go_upto_region 26 with (at_builtin; refine wpList_append_row rfl (.tmp 109) (.tmp 111) 43 rfl 27 i0 _ 10 80 Try.underlying43 hi hz0 hz1 hz2 rfl (by decide) _ 1 cs3 rfl (own_keeps HO3.out ((Keeps.refl [] _).alloc _) (by simp)) _ 1 [.int .i64 0, .int .i64 0, .int .i64 0, .int .i64 0, .int .i64 0, .int .i64 0, .bool false, .int .i64 0, .int .i64 0, .int .i64 0] rfl (ev_row0 _ _ rfl) ev_ones0 m1.out m2.out ?_; intro v1 w17 hown1 hg1 hat1; have HG1 := Lib.hid hg1; clear hown1 hg1 hat1)
            have k17 : Keeps [a3] w16 w17 := ((Keeps.refl [a3] _).alloc _).grown HG1.out (fun q hq => .inl (by have h : some a3 = some q := hq; injection h with h; rw [← h]; simp))
            replace L4 := Lib.hid (L4.out.far k17 (by simpa using HN34.out.2))
            replace HS := Lib.hid (HS.out.wrote k17 (by have h1 := NE3.out.1; have h2 := NE3.out.2; omega) L3.out.off L3.out.ty (by decide))
            have hne : zc ∉ [a3] := by simpa using ne_ty LC.out.ty L3.out.ty (by decide)
            replace LC := Lib.hid (LC.out.far k17 hne)
            clear hne
            have hne : ze ∉ [a3] := by have h1 := HLE.out.1; have h2 := NE3.out.1; simp; omega
            replace LE := Lib.hid (LE.out.far k17 hne)
            clear hne
            have hne : b1 ∉ [a3] := by simpa using ne_ty LB1.out.ty L3.out.ty (by decide)
            replace LB1 := Lib.hid (LB1.out.far k17 hne)
            clear hne
            have hne : b2 ∉ [a3] := by simpa using ne_ty LB2.out.ty L3.out.ty (by decide)
            replace LB2 := Lib.hid (LB2.out.far k17 hne)
            clear hne
            have hne : zw ∉ [a3] := by simpa using ne_ty LW.out.ty L3.out.ty (by decide)
            replace LW := Lib.hid (LW.out.far k17 hne)
            clear hne
            clear k17 L3 HO3 HG1 hi hz0 hz1 hz2
            have HO4 := Lib.hid L4.out.own
            go_upto_region 27 with (at_builtin; refine wpList_append_row rfl (.tmp 113) (.tmp 115) 45 rfl 61 j0 _ 6 48 Try.underlying45 hj9 hy0 hy1 hy2 rfl (by decide) _ 1 cs4 rfl (own_keeps HO4.out ((Keeps.refl [] _).alloc _) (by simp)) _ 1 [.int .i64 0, .int .i64 0, .int .i64 0, .int .i64 0, .int .i64 0, .bool false] rfl (acc_row0 _ _ rfl) acc_ones0 m1.out m3.out ?_; intro v2 w18 hown2 hg2 hat2; have HG2 := Lib.hid hg2; clear hown2 hg2 hat2)
            have k18 : Keeps [a4] w17 w18 := ((Keeps.refl [a4] _).alloc _).grown HG2.out (fun q hq => .inl (by have h : some a4 = some q := hq; injection h with h; rw [← h]; simp))
            replace HS := Lib.hid (HS.out.wrote k18 (by have h1 := NE4.out.1; have h2 := NE4.out.2; omega) L4.out.off L4.out.ty (by decide))
            have hne : zc ∉ [a4] := by simpa using ne_ty LC.out.ty L4.out.ty (by decide)
            replace LC := Lib.hid (LC.out.far k18 hne)
            clear hne
            have hne : ze ∉ [a4] := by simpa using ne_ty LE.out.ty L4.out.ty (by decide)
            replace LE := Lib.hid (LE.out.far k18 hne)
            clear hne
            have hne : b1 ∉ [a4] := by simpa using ne_ty LB1.out.ty L4.out.ty (by decide)
            replace LB1 := Lib.hid (LB1.out.far k18 hne)
            clear hne
            have hne : b2 ∉ [a4] := by simpa using ne_ty LB2.out.ty L4.out.ty (by decide)
            replace LB2 := Lib.hid (LB2.out.far k18 hne)
            clear hne
            have hne : zw ∉ [a4] := by simpa using ne_ty LW.out.ty L4.out.ty (by decide)
            replace LW := Lib.hid (LW.out.far k18 hne)
            clear hne
            clear k18 L4 HO4 HG2 hj9 hy0 hy1 hy2
            have e1 := (ev_cells LE.out.blk).2.1
            have f1 := LE.out.blk.frozen 1
            have hle9 : Loc (w18.setCell ⟨ze, 1, none⟩ (.int .i64 1)) F4 ze 27 (v.at_ 1).vals := ⟨LE.out.blk.set_ 1 _, LE.out.off⟩
            have k19 : Keeps [ze] w18 (w18.setCell ⟨ze, 1, none⟩ (.int .i64 1)) := (Keeps.refl _ _).setCell (.inl (by simp)) _
            go_upto_region 28 with fail
            obtain ⟨w19, hw19⟩ : ∃ q, w18.setCell ⟨ze, 1, none⟩ (.int .i64 1) = q := ⟨_, rfl⟩
            rw [hw19] at hle9 k19
            try rw [hw19]
            have HLE9 := Lib.hid hle9
            clear e1 f1 hle9 hw19
            replace HS := Lib.hid (HS.out.wrote k19 (by have h1 := HZC.out.2; omega) LE.out.off LE.out.ty (by decide))
            have hne : zc ∉ [ze] := by simpa using ne_ty LC.out.ty LE.out.ty (by decide)
            replace LC := Lib.hid (LC.out.far k19 hne)
            clear hne
            have hne : b1 ∉ [ze] := by simpa using ne_ty LB1.out.ty LE.out.ty (by decide)
            replace LB1 := Lib.hid (LB1.out.far k19 hne)
            clear hne
            have hne : b2 ∉ [ze] := by simpa using ne_ty LB2.out.ty LE.out.ty (by decide)
            replace LB2 := Lib.hid (LB2.out.far k19 hne)
            clear hne
            have hne : zw ∉ [ze] := by simpa using ne_ty LW.out.ty LE.out.ty (by decide)
            replace LW := Lib.hid (LW.out.far k19 hne)
            clear hne
            clear k19 LE
            have LE := HLE9
            clear HLE9
            go_wp2_with fail
            refine (sp_events HS.out HF.out (by decide)).mono ?_
            rintro e w20 ⟨q, rfl, hown, hk⟩
            obtain ⟨a5, a5c, rfl, ha5⟩ := own_slice (n := 1) hown (by decide)
            have LA5 : Hid (LocR w20 F4 a5 27 10 1 a5c (evCells [v.at_ 1])) := ⟨own_base hown (fun _ _ => Nat.zero_le _), HS.out.fresh ha5⟩
            replace LC := Lib.hid (LC.out.calm hk)
            replace LB1 := Lib.hid (LB1.out.calm hk)
            replace LB2 := Lib.hid (LB2.out.calm hk)
            replace LW := Lib.hid (LW.out.calm hk)
            replace LE := Lib.hid (LE.out.calm hk)
            replace HS := Lib.hid (HS.out.calm hk)
            clear hk hown ha5
            have c0 := HS.out.cells.1
            go_wp2_with fail
            have hlog : (s4 c xs v).met.log.length ≤ 2199023255552 := by show 1 ≤ _; decide
            refine (sp_log HS.out hlog).mono ?_
            rintro e w21 ⟨q, rfl, hown, hk⟩
            obtain ⟨a6, a6c, rfl, ha6⟩ := own_slice (n := 1) hown (by decide)
            have LA6 : Hid (LocR w21 F4 a6 61 6 1 a6c (logCells [⟨1, 1, 1, 0, 1, true⟩])) := ⟨own_base hown (fun _ _ => Nat.zero_le _), HS.out.fresh ha6⟩
            replace LC := Lib.hid (LC.out.calm hk)
            replace LB1 := Lib.hid (LB1.out.calm hk)
            replace LB2 := Lib.hid (LB2.out.calm hk)
            replace LW := Lib.hid (LW.out.calm hk)
            replace LE := Lib.hid (LE.out.calm hk)
            replace LA5 := Lib.hid (LA5.out.calm hk)
            replace HS := Lib.hid (HS.out.calm hk)
            clear hk hown ha6 c0 hlog
            go_wp2_with fail
            have hv : Calls Try.prog 10 #[PT z.p] w21 fun e w' => ∃ q1 c1 q2 c2, e = .returned (.agg #[.slice (some ⟨q1, 0, none⟩) n1 c1, .int .i64 0, .int .i64 0, .slice (some ⟨q2, 0, none⟩) n2 c2]) ∧ LocR w' F4 q1 2 1 n1 c1 ((filled c xs).flatMap RowI.cells) ∧ LocR w' F4 q2 59 8 n2 c2 ((List.replicate n2 (⟨Hd.zero, 0, 0⟩ : Sl)).flatMap Sl.cells) ∧ w21.heap.size ≤ q1 ∧ w21.heap.size ≤ q2 ∧ Keeps [] w21 w' :=
              (sp_view HS.out HF.out).mono fun e w' ⟨q1, c1, q2, c2, he, h1, h2, h3, h4, hk⟩ => by
                have hl1 : (s4 c xs v).cells.length = n1 := by rw [← hn1]; exact filled_len c xs
                have hl2 : (s4 c xs v).H.length = n2 := by rw [← hn2]; simp [s4, s3, s1, Sp.new]
                have h1' : OwnC w' q1 c1 (filled c xs) := h1
                have h2' : OwnS w' q2 c2 n2 (List.replicate n2 ⟨Hd.zero, 0, 0⟩) := by
                  rw [hl2] at h2
                  rw [← slL_rep8 n2]
                  have : slL (s4 c xs v).H (s4 c xs v).W = slL (List.replicate n2 Hd.zero) (List.replicate (n2 * 2) 0) := by rw [← hn2]; rfl
                  rw [← this]
                  exact h2
                unfold OwnC at h1'
                rw [show (filled c xs).length = n1 from hl1] at h1'
                rw [hl1, hl2] at he
                exact ⟨q1, c1, q2, c2, he, ⟨h1', HS.out.fresh h3⟩, ⟨h2', HS.out.fresh h4⟩, h3, h4, hk⟩
            refine hv.mono ?_
            rintro e w22 ⟨u1, u1c, u2, u2c, rfl, hr1, hr2, hq1, hq2, hk⟩
            have LU1 := Lib.hid hr1
            have LU2 := Lib.hid hr2
            have NEu1 : Hid (w21.heap.size ≤ u1 ∧ w21.heap.size ≤ u2) := ⟨hq1, hq2⟩
            have HZu1 : Hid (w.heap.size ≤ w21.heap.size) := HS.out.keep.size
            clear hv
            replace LC := Lib.hid (LC.out.calm hk)
            replace LB1 := Lib.hid (LB1.out.calm hk)
            replace LB2 := Lib.hid (LB2.out.calm hk)
            replace LW := Lib.hid (LW.out.calm hk)
            replace LE := Lib.hid (LE.out.calm hk)
            replace LA5 := Lib.hid (LA5.out.calm hk)
            replace LA6 := Lib.hid (LA6.out.calm hk)
            replace HS := Lib.hid (HS.out.calm hk)
            clear hk hr1 hr2 hq1 hq2
            go_wp2_with fail
            have hka : Keeps [] w22 (w22.alloc (.cells #[.slice (some ⟨u1, 0, none⟩) n1 u1c, .int .i64 0, .int .i64 0, .slice (some ⟨u2, 0, none⟩) n2 u2c] 41)) := by simp
            have LU : Hid (Loc (w22.alloc (.cells #[.slice (some ⟨u1, 0, none⟩) n1 u1c, .int .i64 0, .int .i64 0, .slice (some ⟨u2, 0, none⟩) n2 u2c] 41)) F4 w22.heap.size 41 #[.slice (some ⟨u1, 0, none⟩) n1 u1c, .int .i64 0, .int .i64 0, .slice (some ⟨u2, 0, none⟩) n2 u2c]) := HS.out.local_ _ _
            replace LC := Lib.hid (LC.out.calm hka)
            replace LB1 := Lib.hid (LB1.out.calm hka)
            replace LB2 := Lib.hid (LB2.out.calm hka)
            replace LW := Lib.hid (LW.out.calm hka)
            replace LE := Lib.hid (LE.out.calm hka)
            replace LA5 := Lib.hid (LA5.out.calm hka)
            replace LA6 := Lib.hid (LA6.out.calm hka)
            replace LU1 := Lib.hid (LU1.out.calm hka)
            replace LU2 := Lib.hid (LU2.out.calm hka)
            replace HS := Lib.hid (HS.out.calm hka)
            obtain ⟨w23, hwb⟩ : ∃ q, w22.alloc (.cells #[.slice (some ⟨u1, 0, none⟩) n1 u1c, .int .i64 0, .int .i64 0, .slice (some ⟨u2, 0, none⟩) n2 u2c] 41) = q := ⟨_, rfl⟩
            obtain ⟨zu, hzq⟩ : ∃ q, w22.heap.size = q := ⟨_, rfl⟩
            rw [hwb] at LC LB1 LB2 LW LE LA5 LA6 LU1 LU2 HS LU ⊢
            rw [hzq] at LU ⊢
            clear hwb hzq hka
            have HKW : Hid (Keeps [] w w23) := HS.out.keep
            obtain ⟨q0, q1, _, _, _, _⟩ := cf_cells LC.out.blk
            rw [HN.out.1] at q0
            rw [HN.out.2.1] at q1
            have hbb := HG.out.1
            rw [HN.out.1] at hbb
            have hgb := HG.out.2
            have HBB := Lib.hid hbb
            have HCF : Hid (∀ w', Keeps [] w23 w' → w'.cell? ⟨zc, 0, none⟩ = some (.int .i64 n1) ∧ w'.cell? ⟨zc, 1, none⟩ = some (.int .i64 n2)) := fun w' hk => ⟨keeps_cell0 hk q0, keeps_cell0 hk q1⟩
            obtain ⟨u, hu⟩ : ∃ u, v.at_ 1 = u := ⟨_, rfl⟩
            rw [hu] at LE LA5
            obtain ⟨e0, e1, e2, e3, e4, e5, e6, e7, e8, e9⟩ := ev_cells LE.out.blk
            have r0 : w23.cell? ⟨a5, 0, none⟩ = some (.int .i64 u.kind) := LA5.out.cell (i := 0) rfl
            have r1 : w23.cell? ⟨a5, 1, none⟩ = some (.int .i64 u.step) := LA5.out.cell (i := 1) rfl
            have r2 : w23.cell? ⟨a5, 2, none⟩ = some (.int .i64 u.thread) := LA5.out.cell (i := 2) rfl
            have r3 : w23.cell? ⟨a5, 3, none⟩ = some (.int .i64 u.stamp) := LA5.out.cell (i := 3) rfl
            have r4 : w23.cell? ⟨a5, 4, none⟩ = some (.int .i64 u.cell) := LA5.out.cell (i := 4) rfl
            have r5 : w23.cell? ⟨a5, 5, none⟩ = some (.int .i64 u.x) := LA5.out.cell (i := 5) rfl
            have r6 : w23.cell? ⟨a5, 6, none⟩ = some (.bool u.mine) := LA5.out.cell (i := 6) rfl
            have r7 : w23.cell? ⟨a5, 7, none⟩ = some (.int .i64 u.gate) := LA5.out.cell (i := 7) rfl
            have r8 : w23.cell? ⟨a5, 8, none⟩ = some (.int .i64 u.e) := LA5.out.cell (i := 8) rfl
            have r9 : w23.cell? ⟨a5, 9, none⟩ = some (.int .i64 u.who) := LA5.out.cell (i := 9) rfl
            have t0 : w23.cell? ⟨a6, 0, none⟩ = some (.int .i64 1) := LA6.out.cell (i := 0) rfl
            have t1 : w23.cell? ⟨a6, 1, none⟩ = some (.int .i64 1) := LA6.out.cell (i := 1) rfl
            have t2 : w23.cell? ⟨a6, 2, none⟩ = some (.int .i64 1) := LA6.out.cell (i := 2) rfl
            have t3 : w23.cell? ⟨a6, 3, none⟩ = some (.int .i64 0) := LA6.out.cell (i := 3) rfl
            have t4 : w23.cell? ⟨a6, 4, none⟩ = some (.int .i64 1) := LA6.out.cell (i := 4) rfl
            have t5 : w23.cell? ⟨a6, 5, none⟩ = some (.bool true) := LA6.out.cell (i := 5) rfl
            have y0 : w23.cell? ⟨zw, 0, none⟩ = some (.slice (some ⟨b1, 0, none⟩) n1 b1c) := (LW.out.blk.cell 0).trans rfl
            have y3 : w23.cell? ⟨zw, 2 + 1, none⟩ = some (.slice (some ⟨b2, 0, none⟩) n2 b2c) := (LW.out.blk.cell 3).trans rfl
            have x0 : w23.cell? ⟨zu, 0, none⟩ = some (.slice (some ⟨u1, 0, none⟩) n1 u1c) := (LU.out.blk.cell 0).trans rfl
            have x3 : w23.cell? ⟨zu, 2 + 1, none⟩ = some (.slice (some ⟨u2, 0, none⟩) n2 u2c) := (LU.out.blk.cell 3).trans rfl
            have he : ∀ w, (Op.equalIn 10000 27 (.agg #[.int .i64 u.kind, .int .i64 u.step, .int .i64 u.thread, .int .i64 u.stamp, .int .i64 u.cell, .int .i64 u.x, .bool u.mine, .int .i64 u.gate, .int .i64 u.e, .int .i64 u.who]) (.agg #[.int .i64 u.kind, .int .i64 u.step, .int .i64 u.thread, .int .i64 u.stamp, .int .i64 u.cell, .int .i64 u.x, .bool u.mine, .int .i64 u.gate, .int .i64 u.e, .int .i64 u.who])).run Try.prog w = .ok true w := fun w => by have := ev_eq w u u; rw [decide_eq_true rfl] at this; exact this
            have ha := acc_eq
            go_upto_region 31 with fail
            go_cut [194] (fun v wx => v = .bool false ∧ Keeps [] w23 wx)
            case first =>
              rcases HGV.out with ⟨hv1, hv2, hv3⟩ | ⟨hv1, hv2, hv3⟩
              · subst hv1 hv2
                have hle : (xs.length : Int) ≤ (n1 : Int) := by omega
                have hln : xs.length ≤ n1 := by omega
                clear hgb
                go_wp2_with fail
                try simp only [List.append]
                refine wp_region_quiet_lit (by kernel_rfl) (by kernel_rfl) ?_
                try simp only [List.append]
                repeat (go_big_quiet_step (fail))
                refine wpQuiet_nil ?_
                intro _ hw9
                obtain ⟨nq, hw8⟩ := hw9
                subst hw8
                go_wp2_with fail
                go_meet
                exact ⟨rfl, (Keeps.refl [] _).drewN _⟩
              · subst hv1 hv2
                have hle : ¬ (xs.length : Int) ≤ (n1 : Int) := by omega
                have hln : ¬ xs.length ≤ n1 := by omega
                have hld : decide (xs.length ≤ n1) = false := decide_eq_false hln
                clear hgb
                go_wp2_with fail
                try simp only [List.append]
                refine wp_region_quiet_lit (by kernel_rfl) (by kernel_rfl) ?_
                try simp only [List.append]
                repeat (go_big_quiet_step (fail))
                refine wpQuiet_nil ?_
                intro _ hw9
                obtain ⟨nq, hw8⟩ := hw9
                subst hw8
                go_wp2_with fail
                go_meet
                exact ⟨rfl, (Keeps.refl [] _).drewN _⟩
            case rest =>
              obtain ⟨rfl, hkc⟩ := hcut
              go_wp2_with fail
              clear q0 q1 e0 e1 e2 e3 e4 e5 e6 e7 e8 e9 he ha
              go_loopw [20] (fun iv wr => ∃ j : Nat, j ≤ n1 ∧ iv = .int .i64 j ∧ Keeps [] w23 wr) (fun iv _ => n1 - (intOf iv).toNat)
              case atStart => exact ⟨0, Nat.zero_le _, rfl, hkc⟩
              case round =>
                obtain ⟨j, hj, rfl, hkr⟩ := hrel
                have HKR := Lib.hid hkr
                clear hkr
                have j0 : (0 : Int) ≤ (j : Int) := by omega
                have hn256 := HN.out.2.2.2.1
                have hwj : IntKind.i64.wrap ((j : Int) + 1) = (j : Int) + 1 := by rw [IntKind.wrap_i64]; omega
                obtain ⟨q0, q1⟩ := HCF.out _ HKR.out
                by_cases hlt : j < n1
                · as_aux_lemma =>
                  have j1 : (j : Int) < (n1 : Int) := by omega
                  have hfx := filled_get hn1 HBB.out hlt
                  obtain ⟨fx, hfe⟩ : ∃ q : Int, (if b = true ∧ j < xs.length then xs[j]?.getD 0 else 0) = q := ⟨_, rfl⟩
                  rw [hfe] at hfx
                  have d1 := keeps_cell0 HKR.out (LB1.out.cell (RowI.cells_get _ j _ hfx))
                  have d2 := keeps_cell0 HKR.out (LU1.out.cell (RowI.cells_get _ j _ hfx))
                  replace y0 := keeps_cell0 HKR.out y0
                  replace x0 := keeps_cell0 HKR.out x0
                  have HXR := Lib.hid (HX.out.keeps (HKW.out.trans HKR.out (by simp)))
                  clear y3 x3 hfx
                  cases b with
                  | false =>
                    obtain rfl : (0 : Int) = fx := by rw [← hfe]; simp
                    clear hfe
                    go_wp2_with fail
                    exact ⟨⟨j + 1, by omega, by simp, HKR.out⟩, by simp [intOf]; omega⟩
                  | true =>
                    by_cases hlx : j < xs.length
                    · have l1 : (j : Int) < (xs.length : Int) := by omega
                      obtain ⟨y, hy⟩ : ∃ y, xs[j]? = some y := ⟨_, List.getElem?_eq_getElem hlx⟩
                      obtain rfl : y = fx := by rw [← hfe, if_pos ⟨rfl, hlx⟩, hy]; rfl
                      obtain ⟨ab, off, rfl, hcx⟩ : ∃ ab off, A = some ⟨ab, off, none⟩ ∧ wr.cell? ⟨ab, off + j, none⟩ = some (.int .i64 y) := by
                        rcases HXR.out.2 with h1 | ⟨ab, off, h1, _, h3⟩
                        · rw [h1] at hlx; simp at hlx
                        · exact ⟨ab, off, h1, h3 j y hy⟩
                      clear hfe hy HXR HX
                      go_wp2_with fail
                      exact ⟨⟨j + 1, by omega, by simp, HKR.out⟩, by simp [intOf]; omega⟩
                    · have l1 : ¬ (j : Int) < (xs.length : Int) := by omega
                      obtain rfl : (0 : Int) = fx := by rw [← hfe, if_neg (fun h => hlx h.2)]
                      clear hfe
                      go_wp2_with fail
                      exact ⟨⟨j + 1, by omega, by simp, HKR.out⟩, by simp [intOf]; omega⟩
                · have j1 : ¬ (j : Int) < (n1 : Int) := by omega
                  have HKR3 := HKR
                  clear hlt hj j0 hwj hgb y0 x0 HKR
                  go_wp2_with fail
                  clear q0 q1 j1
                  go_loopw [22] (fun iv wr => ∃ j : Nat, j ≤ n2 ∧ iv = .int .i64 j ∧ Keeps [] w23 wr) (fun iv _ => n2 - (intOf iv).toNat)
                  case atStart => exact ⟨0, Nat.zero_le _, rfl, HKR3.out⟩
                  case round =>
                    obtain ⟨j, hj, rfl, hkr⟩ := hrel
                    have HKR := Lib.hid hkr
                    clear hkr
                    have j0 : (0 : Int) ≤ (j : Int) := by omega
                    have hn8 := HN.out.2.2.2.2.2
                    have hwj : IntKind.i64.wrap ((j : Int) + 1) = (j : Int) + 1 := by rw [IntKind.wrap_i64]; omega
                    obtain ⟨q0, q1⟩ := HCF.out _ HKR.out
                    clear q0
                    by_cases hlt : j < n2
                    · as_aux_lemma =>
                      have j1 : (j : Int) < (n2 : Int) := by omega
                      have hrep : (List.replicate n2 (⟨Hd.zero, 0, 0⟩ : Sl))[j]? = some ⟨Hd.zero, 0, 0⟩ := by rw [List.getElem?_replicate, if_pos hlt]
                      have sb0 : wr.cell? ⟨b2, j * 8, none⟩ = some (.int .i64 0) := keeps_cell0 HKR.out (LB2.out.cell (i := j * 8 + 0) (sl_get _ j _ hrep 0 _ rfl))
                      have sb1 : wr.cell? ⟨b2, j * 8 + 1, none⟩ = some (.int .i64 0) := keeps_cell0 HKR.out (LB2.out.cell (i := j * 8 + 1) (sl_get _ j _ hrep 1 _ rfl))
                      have sb2 : wr.cell? ⟨b2, j * 8 + 2, none⟩ = some (.int .i64 0) := keeps_cell0 HKR.out (LB2.out.cell (i := j * 8 + 2) (sl_get _ j _ hrep 2 _ rfl))
                      have sb3 : wr.cell? ⟨b2, j * 8 + 3, none⟩ = some (.int .i64 0) := keeps_cell0 HKR.out (LB2.out.cell (i := j * 8 + 3) (sl_get _ j _ hrep 3 _ rfl))
                      have sb4 : wr.cell? ⟨b2, j * 8 + 4, none⟩ = some (.bool false) := keeps_cell0 HKR.out (LB2.out.cell (i := j * 8 + 4) (sl_get _ j _ hrep 4 _ rfl))
                      have sb5 : wr.cell? ⟨b2, j * 8 + 5, none⟩ = some (.int .i64 0) := keeps_cell0 HKR.out (LB2.out.cell (i := j * 8 + 5) (sl_get _ j _ hrep 5 _ rfl))
                      have sb6 : wr.cell? ⟨b2, j * 8 + 6, none⟩ = some (.int .u64 0) := keeps_cell0 HKR.out (LB2.out.cell (i := j * 8 + 6) (sl_get _ j _ hrep 6 _ rfl))
                      have sb7 : wr.cell? ⟨b2, j * 8 + 7, none⟩ = some (.int .u64 0) := keeps_cell0 HKR.out (LB2.out.cell (i := j * 8 + 7) (sl_get _ j _ hrep 7 _ rfl))
                      have su0 : wr.cell? ⟨u2, j * 8, none⟩ = some (.int .i64 0) := keeps_cell0 HKR.out (LU2.out.cell (i := j * 8 + 0) (sl_get _ j _ hrep 0 _ rfl))
                      have su1 : wr.cell? ⟨u2, j * 8 + 1, none⟩ = some (.int .i64 0) := keeps_cell0 HKR.out (LU2.out.cell (i := j * 8 + 1) (sl_get _ j _ hrep 1 _ rfl))
                      have su2 : wr.cell? ⟨u2, j * 8 + 2, none⟩ = some (.int .i64 0) := keeps_cell0 HKR.out (LU2.out.cell (i := j * 8 + 2) (sl_get _ j _ hrep 2 _ rfl))
                      have su3 : wr.cell? ⟨u2, j * 8 + 3, none⟩ = some (.int .i64 0) := keeps_cell0 HKR.out (LU2.out.cell (i := j * 8 + 3) (sl_get _ j _ hrep 3 _ rfl))
                      have su4 : wr.cell? ⟨u2, j * 8 + 4, none⟩ = some (.bool false) := keeps_cell0 HKR.out (LU2.out.cell (i := j * 8 + 4) (sl_get _ j _ hrep 4 _ rfl))
                      have su5 : wr.cell? ⟨u2, j * 8 + 5, none⟩ = some (.int .i64 0) := keeps_cell0 HKR.out (LU2.out.cell (i := j * 8 + 5) (sl_get _ j _ hrep 5 _ rfl))
                      have su6 : wr.cell? ⟨u2, j * 8 + 6, none⟩ = some (.int .u64 0) := keeps_cell0 HKR.out (LU2.out.cell (i := j * 8 + 6) (sl_get _ j _ hrep 6 _ rfl))
                      have su7 : wr.cell? ⟨u2, j * 8 + 7, none⟩ = some (.int .u64 0) := keeps_cell0 HKR.out (LU2.out.cell (i := j * 8 + 7) (sl_get _ j _ hrep 7 _ rfl))
                      replace y3 := keeps_cell0 HKR.out y3
                      replace x3 := keeps_cell0 HKR.out x3
                      have hse := slot_eq
                      clear hrep
                      go_wp2_with fail
                      exact ⟨⟨j + 1, by omega, by simp, HKR.out⟩, by simp [intOf]; omega⟩
                    · have j1 : ¬ (j : Int) < (n2 : Int) := by omega
                      go_wp2_with fail
                      go_ret
                      exact ⟨rfl, (HKW.out.trans HKR.out (by simp)).below (by simp) (Nat.le_refl _)⟩
  · have Q3 := Lib.hid (fun w => sp_new_bad w c hok)
    clear hok
    go_wp2_with fail
    refine (Q3.out _).mono ?_
    rintro e w3 ⟨rfl, hk⟩
    replace HK := Lib.hid (HK.out.trans hk (by simp))
    clear hk d0 d1 d2 d3 d4 d5 Q3
    go_wp2_with fail
    go_ret
    exact ⟨rfl, HK.out.below (by simp) (Nat.le_refl _)⟩
end Go.Proofs.Ytcoekpomiljofaa.spaceKeeps
