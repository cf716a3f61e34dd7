/- Layer 13: what keeps a commit from being one. -/
import Derived.Test.YtdhgiohjdhcedaaGreatCmWrite
import Derived.Maps.OwnOps
import Derived.Maps.OwnSet
import Derived.Maps.Views
namespace Go.Proofs.YtdhgiohjdhcedaaGreat
open Go.RowKit Go.Maps
set_option linter.unusedVariables false
set_option linter.unusedSimpArgs false
/-- The error. -/
def mayE (c : Cf) (sl th st : Int) (ws : List Pr) : Int :=
  if th < 1 ∨ 8 < th ∨ st < 1 ∨ ws.length = 0 then 1 else if 16 < ws.length then 3 else if sl < 0 ∨ c.slots ≤ sl then 2
  else if ∃ p ∈ ws, p.cell < 0 ∨ c.cells ≤ p.cell then 2 else if ¬ (ws.map Pr.cell).Nodup then 1 else 0
theorem mayE_len {c : Cf} {sl th st : Int} {ws : List Pr} (h : mayE c sl th st ws = 0) : 1 ≤ ws.length ∧ ws.length ≤ 16 := by
  unfold mayE at h
  split at h
  · cases h
  · rename_i h1
    split at h
    · cases h
    · refine ⟨?_, by omega⟩
      rcases Nat.eq_zero_or_pos ws.length with e | e
      · exact absurd (.inr (.inr (.inr e))) h1
      · exact e
theorem mayE_rng {c : Cf} {sl th st : Int} {ws : List Pr} (h : mayE c sl th st ws = 0) : 1 ≤ th ∧ th ≤ 8 ∧ 0 ≤ sl ∧ sl < c.slots := by
  unfold mayE at h
  split at h
  · cases h
  · rename_i h1
    split at h
    · cases h
    · split at h
      · cases h
      · rename_i h3
        refine ⟨?_, ?_, ?_, ?_⟩
        · exact Int.not_lt.1 (fun e => h1 (.inl e))
        · exact Int.not_lt.1 (fun e => h1 (.inr (.inl e)))
        · exact Int.not_lt.1 (fun e => h3 (.inl e))
        · exact Int.not_le.1 (fun e => h3 (.inr e))
theorem slr_src {w : World} {A : Option Addr} {n cap size : Nat} {t : TypeId} {xs : List Value} (h : SlR w t size (.slice A n cap) n xs) : 0 < n → ∃ ad, A = some ad ∧ ∀ j u, xs[j]? = some u → w.cell? (ad.add j) = some u := fun h0 => by
  obtain ⟨g, off, c, e, _, _, hc⟩ := h.spot_pos h0
  injection e with e1 _ _
  exact ⟨_, e1, fun j u hu => by
    have := hc j u hu
    simp only [Addr.add]
    by_cases h : j = 0
    · subst h; simpa using this
    · simpa [h] using this⟩
/-- The map bears the cells that came. -/
structure Had (D : DataW Unit) (l : List Int) : Prop where
  mem : ∀ v, has D (.int .i64 v) = decide (v ∈ l)
  le : Maps.size D ≤ l.length
  eq : Maps.size D = l.length ↔ l.Nodup
theorem Had.nil : Had (.map []) [] := ⟨fun v => by simp [has], by simp [Maps.size], by simp [Maps.size]⟩
theorem Had.step {D : DataW Unit} {l : List Int} (h : Had D l) (hT : Tidy D) (hm : IsMap D) (y : Int) (d : DataW Unit) : Had (D.put (.int .i64 y) d) (l ++ [y]) := by
  have hs := size_put (k := .int .i64 y) hT d
  have hy := h.mem y
  have h1 := h.le
  refine ⟨fun v => ?_, ?_, ?_⟩
  · by_cases hv : v = y
    · subst hv
      rw [has_put_same hm (by simp [WideAt.IsKeyLit]) d]
      simp
    · rw [has_put_other (by intro e; injection e with _ e; exact hv e) d, h.mem v]
      simp [hv]
  · rw [hs]
    split <;> simp <;> omega
  · rw [hs, hy]
    by_cases hm : y ∈ l
    · rw [if_pos (by simp [hm])]
      constructor
      · intro e; simp at e; omega
      · intro e
        rw [List.nodup_append] at e
        exact absurd rfl (e.2.2 y hm y (by simp))
    · rw [if_neg (by simp [hm])]
      have e1 : (l ++ [y]).Nodup ↔ l.Nodup := by
        rw [List.nodup_append]
        constructor
        · exact fun e => e.1
        · exact fun e => ⟨e, by simp, fun a ha b hb => by simp at hb; subst hb; intro e2; subst e2; exact hm ha⟩
      rw [e1, ← h.eq]
      simp
theorem mapKeeps {w w' : World} {b n : Nat} {D : DataW Unit} (h : w.ownsMap Tryz.prog 3 (plainElem (H := Unit) Tryz.prog 3) b n D) (hk : Keeps [] w w') : w'.ownsMap Tryz.prog 3 (plainElem (H := Unit) Tryz.prog 3) b n D := by
  obtain ⟨es, clock, hb, F, hs, hD⟩ := h
  exact ⟨es, clock, (hk.block b (Array.getElem?_eq_some_iff.1 hb).1 (by simp)).trans hb, F, hs, hD⟩
theorem pr_cellR {w : World} {A : Option Addr} {cap : Nat} {ws : List Pr} (h : SlR w 67 2 (.slice A ws.length cap) ws.length (prCells ws)) {k : Nat} {p : Pr} (hk : ws[k]? = some p) :
    ∃ g off, A = some ⟨g, off, none⟩ ∧ w.cell? ⟨g, off + k * 2, none⟩ = some (.int .i64 p.cell) ∧ w.cell? ⟨g, off + k * 2 + 1, none⟩ = some (.int .i64 p.x) := by
  have hl := (List.getElem?_eq_some_iff.1 hk).1
  obtain ⟨g, off, c, e, _, _, hc⟩ := h.spot_pos (by omega)
  injection e with e1 _ _
  have hg : ∀ (l : List Pr) (k : Nat) (v : Pr), l[k]? = some v → ∀ j u, v.cells[j]? = some u → (prCells l)[k * 2 + j]? = some u := by
    intro l
    induction l with
    | nil => intro k v hk; simp at hk
    | cons x l ih =>
      intro k v hk j u hu
      have hj : j < 2 := by have := (List.getElem?_eq_some_iff.1 hu).1; simpa [Pr.cells] using this
      have e : prCells (x :: l) = x.cells ++ prCells l := by simp [prCells]
      rw [e]
      cases k with
      | zero =>
        simp at hk
        subst hk
        rw [Nat.zero_mul, Nat.zero_add, List.getElem?_append_left (by simpa [Pr.cells] using hj)]
        exact hu
      | succ k =>
        rw [List.getElem?_append_right (by simp [Pr.cells]; omega)]
        have := ih k v (by simpa using hk) j u hu
        have e2 : (k + 1) * 2 + j - x.cells.length = k * 2 + j := by simp [Pr.cells]; omega
        rw [e2]
        exact this
  refine ⟨g, off, e1, ?_, ?_⟩
  · have := hc (k * 2 + 0) _ (hg ws k p hk 0 _ rfl); rw [← Nat.add_assoc] at this; exact this
  · have := hc (k * 2 + 1) _ (hg ws k p hk 1 _ rfl); rw [← Nat.add_assoc] at this; exact this
abbrev TMM : TypeId := 304
theorem zeroInt (w : World) : (zeroValue 3).run Tryz.prog w = .ok (.int .i64 0) w := by kernel_rfl
theorem keyInt : Keyed Tryz.prog 3 := int_keyed Tryz.underlying3
set_option maxRecDepth 100000 in
set_option maxHeartbeats 2000000 in
theorem cm_may (w : World) (c : Cf) (hc : c.ok) (sl ge th st : Int) (A : Option Addr) (cap : Nat) (ws : List Pr) (hw : SlR w 67 2 (.slice A ws.length cap) ws.length (prCells ws)) :
    Calls Tryz.prog 103 #[.agg #[.int .i64 c.cells, .int .i64 c.slots, .int .i64 c.bits, .int .i64 c.tag, .int .i64 c.bias, .int .i64 c.defer], .agg #[.int .i64 sl, .int .i64 ge, .int .i64 th, .int .i64 st, .slice A ws.length cap]] w fun e w' => e = .returned (.int .i64 (mayE c sl th st ws)) ∧ Keeps [] w w' := by
  have hmx : ws.length ≤ maxLen := by
    obtain ⟨_, A', c', e, h1, h2, _⟩ := hw
    injection e with _ _ e3
    omega
  have b1 := (Blk.new w 23 #[.int .i64 c.cells, .int .i64 c.slots, .int .i64 c.bits, .int .i64 c.tag, .int .i64 c.bias, .int .i64 c.defer]).alloc (.cells #[.int .i64 sl, .int .i64 ge, .int .i64 th, .int .i64 st, .slice A ws.length cap] 52)
  have b2 := Blk.new (w.alloc (.cells #[.int .i64 c.cells, .int .i64 c.slots, .int .i64 c.bits, .int .i64 c.tag, .int .i64 c.bias, .int .i64 c.defer] 23)) 52 #[.int .i64 sl, .int .i64 ge, .int .i64 th, .int .i64 st, .slice A ws.length cap]
  have kB : Keeps [] w ((w.alloc (.cells #[.int .i64 c.cells, .int .i64 c.slots, .int .i64 c.bits, .int .i64 c.tag, .int .i64 c.bias, .int .i64 c.defer] 23)).alloc (.cells #[.int .i64 sl, .int .i64 ge, .int .i64 th, .int .i64 st, .slice A ws.length cap] 52)) := ((Keeps.refl [] w).alloc _).alloc _
  have hs1 : (w.alloc (.cells #[.int .i64 c.cells, .int .i64 c.slots, .int .i64 c.bits, .int .i64 c.tag, .int .i64 c.bias, .int .i64 c.defer] 23)).heap.size = w.heap.size + 1 := by simp
  have hs2 : ((w.alloc (.cells #[.int .i64 c.cells, .int .i64 c.slots, .int .i64 c.bits, .int .i64 c.tag, .int .i64 c.bias, .int .i64 c.defer] 23)).alloc (.cells #[.int .i64 sl, .int .i64 ge, .int .i64 th, .int .i64 st, .slice A ws.length cap] 52)).heap.size = w.heap.size + 2 := by simp
  obtain ⟨wB, hwB⟩ : ∃ q, (w.alloc (.cells #[.int .i64 c.cells, .int .i64 c.slots, .int .i64 c.bits, .int .i64 c.tag, .int .i64 c.bias, .int .i64 c.defer] 23)).alloc (.cells #[.int .i64 sl, .int .i64 ge, .int .i64 th, .int .i64 st, .slice A ws.length cap] 52) = q := ⟨_, rfl⟩
  rw [hs1] at b2
  rw [hwB] at b1 b2 kB hs2
  have a0 : wB.cell? ⟨w.heap.size, 0, none⟩ = some (.int .i64 c.cells) := (b1.cell 0).trans rfl
  have a1 : wB.cell? ⟨w.heap.size, 1, none⟩ = some (.int .i64 c.slots) := (b1.cell 1).trans rfl
  have o0 : wB.cell? ⟨w.heap.size + 1, 0, none⟩ = some (.int .i64 sl) := (b2.cell 0).trans rfl
  have o2 : wB.cell? ⟨w.heap.size + 1, 2, none⟩ = some (.int .i64 th) := (b2.cell 2).trans rfl
  have o3 : wB.cell? ⟨w.heap.size + 1, 3, none⟩ = some (.int .i64 st) := (b2.cell 3).trans rfl
  have o4 : wB.cell? ⟨w.heap.size + 1, 4, none⟩ = some (.slice A ws.length cap) := (b2.cell 4).trans rfl
  have HKB := Lib.hid kB
  have HB1 := Lib.hid b1
  have HB2 := Lib.hid b2
  have HW := Lib.hid (hw.keeps kB (by simp))
  have HC := Lib.hid hc
  obtain ⟨rr, hrr⟩ : ∃ q, mayE c sl th st ws = q := ⟨_, rfl⟩
  rw [hrr]
  unfold mayE at hrr
  have hmm := @run_makeMap Tryz.prog
  unfold maxLen at hmx
  clear kB b1 b2 hw hc hs1
  by_cases h1 : th < 1
  · rw [if_pos (.inl h1)] at hrr
    subst hrr
    have e1 : decide (th < 1) = true := decide_eq_true h1
    clear h1 hmm
    go_enter Tryz.func103, Tryz.ntmps103
    go_wp2_with fail
    try rw [hwB]
    go_ret
    exact ⟨rfl, HKB.out⟩
  have e1 : decide (th < 1) = false := decide_eq_false h1
  by_cases h2 : 8 < th
  · rw [if_pos (.inr (.inl h2))] at hrr
    subst hrr
    have e2 : decide (8 < th) = true := decide_eq_true h2
    clear h1 h2 hmm
    go_enter Tryz.func103, Tryz.ntmps103
    go_wp2_with fail
    go_ret
    exact ⟨rfl, HKB.out⟩
  have e2 : decide (8 < th) = false := decide_eq_false h2
  by_cases h3 : st < 1
  · rw [if_pos (.inr (.inr (.inl h3)))] at hrr
    subst hrr
    have e3 : decide (st < 1) = true := decide_eq_true h3
    clear h1 h2 h3 hmm
    go_enter Tryz.func103, Tryz.ntmps103
    go_wp2_with fail
    go_ret
    exact ⟨rfl, HKB.out⟩
  have e3 : decide (st < 1) = false := decide_eq_false h3
  by_cases h4 : ws.length = 0
  · rw [if_pos (.inr (.inr (.inr h4)))] at hrr
    subst hrr
    have e4 : ((ws.length : Int) == 0) = true := by simp [h4]
    clear h1 h2 h3 hmm h4
    go_enter Tryz.func103, Tryz.ntmps103
    go_wp2_with fail
    go_ret
    exact ⟨rfl, HKB.out⟩
  have e4 : ((ws.length : Int) == 0) = false := by simp; exact fun e => h4 (by rw [e]; rfl)
  rw [if_neg (fun h => by rcases h with h | h | h | h; exact h1 h; exact h2 h; exact h3 h; exact h4 h)] at hrr
  by_cases h5 : 16 < ws.length
  · rw [if_pos h5] at hrr
    subst hrr
    have e5 : decide (16 < (ws.length : Int)) = true := by simp; omega
    clear h1 h2 h3 hmm h4 h5
    go_enter Tryz.func103, Tryz.ntmps103
    go_wp2_with fail
    go_ret
    exact ⟨rfl, HKB.out⟩
  have e5 : decide (16 < (ws.length : Int)) = false := by simp; omega
  rw [if_neg h5] at hrr
  by_cases h6 : sl < 0
  · rw [if_pos (.inl h6)] at hrr
    subst hrr
    have e6 : decide (sl < 0) = true := decide_eq_true h6
    clear h1 h2 h3 hmm h4 h5 h6
    go_enter Tryz.func103, Tryz.ntmps103
    go_wp2_with fail
    go_ret
    exact ⟨rfl, HKB.out⟩
  have e6 : decide (sl < 0) = false := decide_eq_false h6
  by_cases h7 : c.slots ≤ sl
  · rw [if_pos (.inr h7)] at hrr
    subst hrr
    have e7 : decide (c.slots ≤ sl) = true := decide_eq_true h7
    clear h1 h2 h3 hmm h4 h5 h6 h7
    go_enter Tryz.func103, Tryz.ntmps103
    go_wp2_with fail
    go_ret
    exact ⟨rfl, HKB.out⟩
  have e7 : decide (c.slots ≤ sl) = false := decide_eq_false h7
  rw [if_neg (fun h => by rcases h with h | h; exact h6 h; exact h7 h)] at hrr
  have HR := Lib.hid hrr
  have hl5 : ws.length ≤ 16 := by omega
  clear hrr h1 h2 h3 h4 h6 h7
  go_enter Tryz.func103, Tryz.ntmps103
  go_wp2_with fail
  have hM0 : Hid ((wB.alloc (.map #[] 0)).ownsMap Tryz.prog 3 (plainElem (H := Unit) Tryz.prog 3) (w.heap.size + 2) 0 (.map [])) := by
    have := World.ownsMap_made (P := Tryz.prog) (k := 3) (R := plainElem (H := Unit) Tryz.prog 3) wB
    rw [hs2] at this
    exact this
  go_loopw [45] (fun i wr => ∃ (k : Nat) (D : DataW Unit), k ≤ ws.length ∧ i = .int .i64 k ∧ Keeps [] wB wr ∧ wr.ownsMap Tryz.prog 3 (plainElem (H := Unit) Tryz.prog 3) (w.heap.size + 2) k D ∧ Had D ((ws.take k).map Pr.cell) ∧ (∀ p, p ∈ ws.take k → ¬ (p.cell < 0 ∨ c.cells ≤ p.cell))) (fun i _ => ws.length - (intOf i).toNat)
  case atStart => exact ⟨0, _, Nat.zero_le _, rfl, (Keeps.refl [] wB).alloc _, hM0.out, Had.nil, by simp⟩
  case round =>
    obtain ⟨k, D, hk, rfl, hkr, hown, hhad, hgood⟩ := hrel
    have HKR := Lib.hid hkr
    have HOWN := Lib.hid hown
    have HHAD := Lib.hid hhad
    have HGOOD := Lib.hid hgood
    have a0 : wr.cell? ⟨w.heap.size, 0, none⟩ = some (.int .i64 c.cells) := ((HB1.out.keeps hkr (by simp)).cell 0).trans rfl
    have o4 : wr.cell? ⟨w.heap.size + 1, 4, none⟩ = some (.slice A ws.length cap) := ((HB2.out.keeps hkr (by simp)).cell 4).trans rfl
    by_cases hlt : k < ws.length
    · obtain ⟨p, hp⟩ : ∃ p, ws[k]? = some p := ⟨_, List.getElem?_eq_getElem hlt⟩
      obtain ⟨g, off, rfl, q0, q1⟩ := pr_cellR (HW.out.keeps hkr (by simp)) hp
      have k0 : (0 : Int) ≤ (k : Int) := by omega
      have k1 : (k : Int) < (ws.length : Int) := by omega
      have htk : ws.take (k + 1) = ws.take k ++ [p] := by rw [List.take_add_one, hp]; rfl
      have hmem : p ∈ ws := List.mem_of_getElem? hp
      have HT := Lib.hid htk
      have hka : Keeps [] wr (wr.alloc (.cells #[.int .i64 p.cell, .int .i64 p.x] 67)) := (Keeps.refl [] wr).alloc _
      have a0' := keeps_cell0 hka a0
      have hsz1 := hkr.size
      have HWS := Lib.hid hsz1
      clear htk hkr hown hhad hgood
      by_cases g1 : p.cell < 0
      · have hrr := HR.out
        rw [if_pos ⟨p, hmem, .inl g1⟩] at hrr
        subst hrr
        have e8 : decide (p.cell < 0) = true := decide_eq_true g1
        clear g1 hmem hp
        go_wp2_with fail
        go_ret
        exact ⟨rfl, HKB.out.trans (HKR.out.trans hka (by simp)) (by simp)⟩
      · have e8 : decide (p.cell < 0) = false := decide_eq_false g1
        by_cases g2 : c.cells ≤ p.cell
        · have hrr := HR.out
          rw [if_pos ⟨p, hmem, .inr g2⟩] at hrr
          subst hrr
          have e9 : decide (c.cells ≤ p.cell) = true := decide_eq_true g2
          clear g1 g2 hmem hp
          go_wp2_with fail
          go_ret
          exact ⟨rfl, HKB.out.trans (HKR.out.trans hka (by simp)) (by simp)⟩
        · have e9 : decide (c.cells ≤ p.cell) = false := decide_eq_false g2
          have hkey : keyOf Tryz.prog 3 (.int .i64 p.cell) = some (.int .i64 p.cell) := keyOf_int_mk Tryz.underlying3 (WalkArith.wf_i64 (by have := HC.out.1; omega))
          have HPG : Hid (¬ (p.cell < 0 ∨ c.cells ≤ p.cell)) := fun h => h.elim g1 g2
          have hown2 : (wr.alloc (.cells #[.int .i64 p.cell, .int .i64 p.x] 67)).ownsMap Tryz.prog 3 (plainElem (H := Unit) Tryz.prog 3) (w.heap.size + 2) k D := mapKeeps HOWN.out hka
          have HO2 := Lib.hid hown2
          clear g1 g2 hmem hp hown2
          go_wp2_with (first
            | (at_lookup; refine wpList_lookup_own_int _ rfl _ _ TMM rfl 3 3 .i64 keyInt Tryz.underlying304 Tryz.underlying3 (zeroInt _) (w.heap.size + 2) k _ rfl HO2.out _ _ rfl hkey ?_; intro cc hat hwc)
            | (at_mapUpdate; refine wpList_mapUpdate_own _ rfl _ _ _ TMM rfl 3 3 keyInt Tryz.underlying304 _ (w.heap.size + 2) k _ rfl HO2.out (by unfold maxLen; omega) _ _ _ rfl rfl hkey _ [] (plainElem_int Tryz.underlying3 (wrap64_wf _)) ?_; intro w1 hown1 hgrow1))
          exact ⟨⟨k + 1, _, by omega, by simp, (HKR.out.trans hka (by simp)).grown hgrow1 (fun q hq => by cases hq; exact .inr (by rw [hs2]; exact Nat.le_refl _)), hown1, by rw [HT.out, List.map_append]; exact HHAD.out.step (HO2.out.tidy keyInt) HO2.out.isMap _ _, fun q hq => by rw [HT.out, List.mem_append, List.mem_singleton] at hq; rcases hq with hq | rfl; exact HGOOD.out q hq; exact HPG.out⟩, by simp [intOf]; omega⟩
    · obtain rfl : k = ws.length := by omega
      have hge : ¬ ((ws.length : Int) < (ws.length : Int)) := by omega
      have htk : ws.take ws.length = ws := List.take_length
      have hrr := HR.out
      rw [htk] at hgood hhad
      rw [if_neg (fun ⟨p, hp, hb⟩ => hgood p hp hb)] at hrr
      have hle := hhad.le
      have heq := hhad.eq
      rw [List.length_map] at hle heq
      clear hkr hhad hgood htk
      by_cases hn : (ws.map Pr.cell).Nodup
      · rw [if_neg (fun h => h hn)] at hrr
        subst hrr
        have ez : Maps.size D = ws.length := heq.2 hn
        have e8 : decide ((Maps.size D : Int) < (ws.length : Int)) = false := by simp; omega
        clear heq hn
        go_wp2_with (at_len; refine wpList_len_own _ rfl _ TMM rfl _ _ Tryz.underlying304 _ (w.heap.size + 2) _ D rfl HOWN.out ?_)
        go_ret
        exact ⟨rfl, HKB.out.trans HKR.out (by simp)⟩
      · rw [if_pos hn] at hrr
        subst hrr
        have ez : Maps.size D ≠ ws.length := fun h => hn (heq.1 h)
        have e8 : decide ((Maps.size D : Int) < (ws.length : Int)) = true := by simp; omega
        clear heq hn
        go_wp2_with (at_len; refine wpList_len_own _ rfl _ TMM rfl _ _ Tryz.underlying304 _ (w.heap.size + 2) _ D rfl HOWN.out ?_)
        go_ret
        exact ⟨rfl, HKB.out.trans HKR.out (by simp)⟩
end Go.Proofs.YtdhgiohjdhcedaaGreat
