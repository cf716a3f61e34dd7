/- quashlaw13: config, writes. -/
import Derived.Test.YtcoekpomiljofaaGreatCmAt
import Derived.Test.YtcoekpomiljofaaGreatCmNew
import Derived.Test.YtcoekpomiljofaaGreatElPair
import Derived.Test.YtcoekpomiljofaaGreatSlotsRaw
namespace Go.Proofs.YtcoekpomiljofaaGreat.dd
open Go.RowKit Pol
set_option linter.unusedVariables false
set_option linter.unusedSimpArgs false
def stOf : Nat → Stg
  | 0 => .take
  | 1 => .own
  | 2 => .giveUp
  | 3 => .free
  | _ => .over
def gtOf : Nat → Gt
  | 0 => ⟨0, 0⟩
  | 1 => ⟨1, 1⟩
  | 2 => ⟨1, 1⟩
  | _ => ⟨2, 0⟩
/-- The head that the attempt leaves. -/
def left_ (h : Hd) : Hd := if h.state ≠ 0 ∧ h.gen = 1 then ⟨1, 0, 0, 0, false, 0⟩ else h
/-- k steps are done. -/
structure Dd (H : List Hd) (W C : List Int) (h : Hd) (k : Nat) (S : Sp) (x : Cm) : Prop where
  slot : x.slot = 0
  gen : x.gen = 1
  th : x.thread = 1
  st : x.st = stOf k
  number : x.number = if k = 0 then 0 else 1
  e : x.e = if k ≤ 1 then 0 else 7
  won : x.won = false
  W : S.W = W
  C : S.cells = C
  gate : S.gate = gtOf k
  H : S.H = if k ≤ 3 then H else H.set 0 (left_ h)
section
variable {H : List Hd} {W C : List Int} {h : Hd} {k : Nat} {S : Sp} {x : Cm} {d : Int}
theorem Dd.start (hW : S.W = W) (hC : S.cells = C) (hg : S.gate = ⟨0, 0⟩) (hH : S.H = H) (st : Int) (ws : List Pr) : Dd H W C h 0 S (Cm.new 0 1 1 st ws) :=
  ⟨rfl, rfl, rfl, rfl, rfl, rfl, rfl, hW, hC, hg, hH⟩
theorem Dd.step (hh : nth H 0 = some h) (hl : h.state ≠ 2 ∨ h.gen ≠ 1 ∨ h.doomed = true) (hk : k < 4) (D : Dd H W C h k S x) :
    x.done = false ∧ (x.step S d).1 = 1 ∧ Dd H W C h (k + 1) (x.step S d).2.2.1 (x.step S d).2.1 ∧ (x.step S d).2.2.2 = d := by
  obtain ⟨d1, d2, d3, d4, d5, d6, d7, d8, d9, d10, d11⟩ := D
  obtain rfl | rfl | rfl | rfl : k = 0 ∨ k = 1 ∨ k = 2 ∨ k = 3 := by omega
  · have ht : S.take x.thread = ((1, 0), { S.acc 2 0 3 true with gate := ⟨1, 1⟩ }) := by
      unfold Sp.take
      rw [d3, if_neg (by omega), d10]
      rfl
    have e : x.step S d = (1, { x with number := 1, st := .own }, { S.acc 2 0 3 true with gate := ⟨1, 1⟩ }, d) := by
      unfold Cm.step Cm.take_
      rw [d4]
      simp only [stOf]
      rw [ht]
      rfl
    rw [e]
    exact ⟨by unfold Cm.done; rw [d4]; rfl, rfl, ⟨d1, d2, d3, rfl, rfl, d6, d7, d8, d9, rfl, d11⟩, rfl⟩
  · have hlk : (S.look x.slot).1.1 = h ∧ (S.look x.slot).2 = S.acc 3 0 1 true := by
      unfold Sp.look
      rw [d1, d11]
      simp only [Nat.reduceLeDiff, if_true]
      rw [hh]
      exact ⟨rfl, rfl⟩
    have e : x.step S d = (1, { x with e := 7, st := .giveUp }, S.acc 3 0 1 true, d) := by
      unfold Cm.step Cm.own_
      rw [d4]
      simp only [stOf]
      rw [hlk.1, hlk.2, if_pos (by unfold Cm.lost; rw [d2]; exact hl)]
    rw [e]
    exact ⟨by unfold Cm.done; rw [d4]; rfl, rfl, ⟨d1, d2, d3, rfl, d5, rfl, d7, d8, d9, d10, d11⟩, rfl⟩
  · have ht : S.give x.thread = (0, { S.acc 2 0 3 true with gate := ⟨2, 0⟩ }) := by
      unfold Sp.give
      rw [d3, if_neg (by omega), d10]
      rfl
    have e : x.step S d = (1, x.at_ .free, { S.acc 2 0 3 true with gate := ⟨2, 0⟩ }, d) := by
      unfold Cm.step
      rw [d4]
      simp only [stOf]
      rw [ht, d6]
      rfl
    rw [e]
    exact ⟨by unfold Cm.done; rw [d4]; rfl, rfl, ⟨d1, d2, d3, rfl, d5, d6, d7, d8, d9, rfl, d11⟩, rfl⟩
  · have hf : (S.free x.slot x.gen).2.H = H.set 0 (left_ h) ∧ (S.free x.slot x.gen).2.W = S.W ∧ (S.free x.slot x.gen).2.cells = S.cells ∧ (S.free x.slot x.gen).2.gate = S.gate := by
      have hS : S.H = H := d11
      unfold Sp.free
      rw [d1, d2, hS, hh]
      simp only
      unfold left_
      split
      · rename_i hc
        refine ⟨?_, rfl, rfl, rfl⟩
        show H.set (Int.toNat 0) _ = _
        rw [hc.2]
        rfl
      · rename_i hc
        refine ⟨?_, rfl, rfl, rfl⟩
        show S.H = _
        rw [hS]
        have := (nth_len hh).2.2
        simp only [Int.toNat_zero] at this
        obtain ⟨hlt, e⟩ := List.getElem?_eq_some_iff.1 this
        rw [← e]
        exact (List.set_getElem_self hlt).symm
    have e : x.step S d = (1, x.at_ .over, (S.free x.slot x.gen).2, d) := by
      unfold Cm.step
      rw [d4]
      simp only [stOf]
    rw [e]
    exact ⟨by unfold Cm.done; rw [d4]; rfl, rfl, ⟨d1, d2, d3, rfl, d5, d6, d7, hf.2.1.trans d8, hf.2.2.1.trans d9, hf.2.2.2.trans d10, hf.1⟩, rfl⟩
end
end Go.Proofs.YtcoekpomiljofaaGreat.dd

namespace Go.Proofs.YtcoekpomiljofaaGreat
open Go.RowKit
set_option linter.unusedVariables false
set_option linter.unusedSimpArgs false
theorem i64_mask (n : Int) (k : Nat) (m : Int) (hk : k ≤ 8) (hm : (BitVec.ofInt 64 m).toNat = 2 ^ k - 1) : bits .and .i64 n m = n % ((2 ^ k : Nat) : Int) := by
  have key : (BitVec.ofInt 64 n &&& BitVec.ofInt 64 m).toNat = (n % ((2 ^ 64 : Nat) : Int)).toNat % 2 ^ k := by
    rw [BitVec.toNat_and, BitVec.toNat_ofInt, hm, Nat.and_two_pow_sub_one_eq_mod]
  show IntKind.i64.wrap ((BitVec.ofInt 64 n &&& BitVec.ofInt 64 m).toNat : Nat) = _
  rw [key, IntKind.wrap_i64]
  have h : k = 0 ∨ k = 1 ∨ k = 2 ∨ k = 3 ∨ k = 4 ∨ k = 5 ∨ k = 6 ∨ k = 7 ∨ k = 8 := by omega
  rcases h with rfl | rfl | rfl | rfl | rfl | rfl | rfl | rfl | rfl <;> simp only [Nat.reducePow] <;> omega
theorem msk3 (n : Int) : bits .and .i64 n 3 = n % 4 := i64_mask n 2 3 (by decide) (by decide)
theorem msk7 (n : Int) : bits .and .i64 n 7 = n % 8 := i64_mask n 3 7 (by decide) (by decide)
theorem msk63 (n : Int) : bits .and .i64 n 63 = n % 64 := i64_mask n 6 63 (by decide) (by decide)
theorem msk127 (n : Int) : bits .and .i64 n 127 = n % 128 := i64_mask n 7 127 (by decide) (by decide)
/-- A config by raw numbers. -/
def cfgOf (tag bits bias most : Int) : Cf := ⟨64, 8, 1 + bits % 128, 1 + tag % 4 % 3, bias % 8, most % 64⟩
theorem cfgOf_ok (tag bits bias most : Int) : (cfgOf tag bits bias most).ok := by unfold Cf.ok cfgOf; simp only; omega
theorem config_any (w : World) (tag bs bias most : Int) : Calls Tryz.prog 10 #[.int .i64 tag, .int .i64 bs, .int .i64 bias, .int .i64 most] w fun e w' => e = .returned (.agg #[.int .i64 (cfgOf tag bs bias most).cells, .int .i64 (cfgOf tag bs bias most).slots, .int .i64 (cfgOf tag bs bias most).bits, .int .i64 (cfgOf tag bs bias most).tag, .int .i64 (cfgOf tag bs bias most).bias, .int .i64 (cfgOf tag bs bias most).defer]) ∧ Keeps [] w w' := by
  have m1 := msk3 tag
  have m2 := msk127 bs
  have m3 := msk7 bias
  have m4 := msk63 most
  have c1 : (cfgOf tag bs bias most).bits = 1 + bs % 128 := rfl
  have c2 : (cfgOf tag bs bias most).tag = 1 + tag % 4 % 3 := rfl
  have c3 : (cfgOf tag bs bias most).bias = bias % 8 := rfl
  have c4 : (cfgOf tag bs bias most).defer = most % 64 := rfl
  rw [c1, c2, c3, c4]
  clear c1 c2 c3 c4
  obtain ⟨a, ha⟩ : ∃ q, tag % 4 = q := ⟨_, rfl⟩
  obtain ⟨b, hb⟩ : ∃ q, bs % 128 = q := ⟨_, rfl⟩
  obtain ⟨c, hc⟩ : ∃ q, bias % 8 = q := ⟨_, rfl⟩
  obtain ⟨d, hd⟩ : ∃ q, most % 64 = q := ⟨_, rfl⟩
  have a0 : 0 ≤ a := by omega
  have a1 : a ≤ 3 := by omega
  have b0 : 0 ≤ b := by omega
  have b1 : b ≤ 127 := by omega
  rw [ha] at m1
  rw [hb] at m2
  rw [hc] at m3
  rw [hd] at m4
  rw [ha, hb, hc, hd]
  clear ha hb hc hd
  go_enter Tryz.func10, Tryz.ntmps10
  go_wp2
  refine bodyPost_ret (v := .agg #[.int .i64 64, .int .i64 8, .int .i64 (1 + b), .int .i64 (1 + a % 3), .int .i64 c, .int .i64 d]) (by simp [results, Tryz.results10, go_sem]) rfl ⟨rfl, by simp⟩
/-- The pairs that came, as cells of 64. -/
def wStep (o : List Pr) (p : ElPair) : List Pr := if o.length < 16 then (if p.cell % 64 ∈ o.map Pr.cell then o else o ++ [⟨p.cell % 64, p.x⟩]) else o
def wAt (l : List ElPair) (i : Nat) : List Pr := (l.take i).foldl wStep []
def wsOf (l : List ElPair) : List Pr := if wAt l l.length = [] then [⟨3, 9⟩] else wAt l l.length
structure WOk (o : List Pr) : Prop where
  len : o.length ≤ 16
  nod : (o.map Pr.cell).Nodup
  rng : ∀ p, p ∈ o → 0 ≤ p.cell ∧ p.cell < 64
theorem WOk.step {o : List Pr} (h : WOk o) (p : ElPair) : WOk (wStep o p) := by
  unfold wStep
  split
  · split
    · exact h
    · rename_i h1 h2
      refine ⟨by simp; omega, ?_, fun q hq => ?_⟩
      · rw [List.map_append, List.nodup_append]
        exact ⟨h.nod, by simp, fun a ha b hb => by simp at hb; subst hb; intro e; subst e; exact h2 ha⟩
      · simp at hq
        rcases hq with hq | rfl
        · exact h.rng q hq
        · exact ⟨by show 0 ≤ p.cell % 64; omega, by show p.cell % 64 < 64; omega⟩
  · exact h
theorem wAt_succ {l : List ElPair} {i : Nat} {p : ElPair} (h : l[i]? = some p) : wAt l (i + 1) = wStep (wAt l i) p := by
  unfold wAt
  rw [List.take_add_one, h]
  simp [List.foldl_append]
theorem foldl_ok (l : List ElPair) : ∀ o, WOk o → WOk (l.foldl wStep o) := by
  induction l with
  | nil => exact fun o h => h
  | cons p l ih => exact fun o h => ih _ (h.step p)
theorem wAt_ok (l : List ElPair) (i : Nat) : WOk (wAt l i) := foldl_ok _ _ ⟨by simp, by simp, by simp⟩
theorem foldl_full (l : List ElPair) (o : List Pr) (h : 16 ≤ o.length) : l.foldl wStep o = o := by
  induction l with
  | nil => rfl
  | cons p l ih =>
    simp only [List.foldl_cons]
    have e : wStep o p = o := by unfold wStep; rw [if_neg (by omega)]
    rw [e, ih]
theorem wAt_full {l : List ElPair} {i : Nat} (h : 16 ≤ (wAt l i).length) : wAt l l.length = wAt l i := by
  have e : wAt l l.length = (l.drop i).foldl wStep (wAt l i) := by
    unfold wAt
    rw [← List.foldl_append, List.take_append_drop, List.take_of_length_le (Nat.le_refl _)]
  rw [e, foldl_full _ _ h]
theorem wsOf_ok (l : List ElPair) : WOk (wsOf l) ∧ 1 ≤ (wsOf l).length := by
  unfold wsOf
  split
  · exact ⟨⟨by decide, by decide, by simp⟩, by decide⟩
  · rename_i h
    refine ⟨wAt_ok _ _, ?_⟩
    rcases Nat.eq_zero_or_pos (wAt l l.length).length with e | e
    · exact absurd (List.length_eq_zero_iff.1 e) h
    · exact e
/-- Such pairs may be written. -/
theorem wsOf_may (l : List ElPair) {c : Cf} (hc : c.cells = 64) {sl th st : Int} (h1 : 1 ≤ th) (h2 : th ≤ 8) (h3 : 1 ≤ st) (h4 : 0 ≤ sl) (h5 : sl < c.slots) : mayE c sl th st (wsOf l) = 0 := by
  obtain ⟨ok, h⟩ := wsOf_ok l
  unfold mayE
  rw [if_neg (by omega), if_neg (by have := ok.len; omega), if_neg (by omega), if_neg (fun ⟨p, hp, h⟩ => by have := ok.rng p hp; omega), if_neg (fun h => h ok.nod)]
/-- Which cells are there. -/
def hasArr (o : List Pr) : Array Value := ((List.range 64).map fun (j : Nat) => Value.bool (decide ((j : Int) ∈ o.map Pr.cell))).toArray
theorem hasArr_get (o : List Pr) {j : Nat} (h : j < 64) : (hasArr o)[j]? = some (.bool (decide ((j : Int) ∈ o.map Pr.cell))) := by
  unfold hasArr
  simp [List.getElem?_range h]
theorem hasArr_add (o : List Pr) (c : Nat) (x : Int) (h : c < 64) : (hasArr o).setIfInBounds c (.bool true) = hasArr (o ++ [⟨c, x⟩]) := by
  apply Array.ext'
  unfold hasArr
  simp only [List.setIfInBounds_toArray]
  apply List.ext_getElem?
  intro i
  rw [List.getElem?_set]
  simp only [List.length_map, List.length_range, List.getElem?_map]
  by_cases e : c = i
  · subst e
    rw [if_pos rfl, if_pos h, List.getElem?_range h]
    simp
  · rw [if_neg e]
    by_cases hi : i < 64
    · rw [List.getElem?_range hi]
      simp
      intro e2
      exact absurd e2.symm (by omega)
    · rw [List.getElem?_eq_none (by simp; omega)]
      rfl
theorem hasArr_nil : hasArr [] = #[.bool false, .bool false, .bool false, .bool false, .bool false, .bool false, .bool false, .bool false, .bool false, .bool false, .bool false, .bool false, .bool false, .bool false, .bool false, .bool false, .bool false, .bool false, .bool false, .bool false, .bool false, .bool false, .bool false, .bool false, .bool false, .bool false, .bool false, .bool false, .bool false, .bool false, .bool false, .bool false, .bool false, .bool false, .bool false, .bool false, .bool false, .bool false, .bool false, .bool false, .bool false, .bool false, .bool false, .bool false, .bool false, .bool false, .bool false, .bool false, .bool false, .bool false, .bool false, .bool false, .bool false, .bool false, .bool false, .bool false, .bool false, .bool false, .bool false, .bool false, .bool false, .bool false, .bool false, .bool false] := by kernel_rfl
theorem wrs_grow {w wr W w1 : World} {wt v1 : Value} {o : List Pr} {n : Nat} (p : Pr) (hn : o.length = n) (how : wr.ownsRow w.heap.size 62 2 wt n (prCells o)) (hk : Keeps [] w wr) (hkW : Keeps [w.heap.size] wr W) (hown : w1.ownsRow 0 62 2 v1 (n + 1) (prCells o ++ p.cells)) (hg : W.grownBy w1 wt.ownBlock) (hat : v1.ownBlock = wt.ownBlock ∨ v1.ownBlock = some W.heap.size) :
    w1.ownsRow w.heap.size 62 2 v1 (o ++ [p]).length (prCells (o ++ [p])) ∧ Keeps [] w w1 := by
  have hW : Keeps [] w W := hk.trans hkW (fun q hq => by simp at hq; exact .inr (by omega))
  have hz := hW.size
  refine ⟨?_, hW.grown hg (fun q hq => .inr (how.lt q hq).1)⟩
  rw [show prCells (o ++ [p]) = prCells o ++ p.cells from by simp [prCells], show (o ++ [p]).length = n + 1 from by simp [hn]]
  refine own_base hown (fun q hq => ?_)
  rcases hat with e | e
  · exact (how.lt q (e ▸ hq)).1
  · rw [e] at hq; injection hq with hq; omega
set_option maxRecDepth 100000 in
set_option maxHeartbeats 4000000 in
theorem writes_any (w : World) (A : Option Addr) (n cap : Nat) (l : List ElPair) (hl : LstPair w A n cap l) : Calls Tryz.prog 16 #[.slice A n cap] w fun e w' => ∃ v, e = .returned v ∧ w'.ownsRow w.heap.size 62 2 v (wsOf l).length (prCells (wsOf l)) ∧ Keeps [] w w' := by
  have HL := Lib.hid hl
  have hncap := hl.2.1
  have hcap := hl.2.2.1
  have HLL := Lib.hid hl.1
  unfold maxLen at hcap
  clear hl
  have hb0 : Blk (w.alloc (.cells #[.bool false, .bool false, .bool false, .bool false, .bool false, .bool false, .bool false, .bool false, .bool false, .bool false, .bool false, .bool false, .bool false, .bool false, .bool false, .bool false, .bool false, .bool false, .bool false, .bool false, .bool false, .bool false, .bool false, .bool false, .bool false, .bool false, .bool false, .bool false, .bool false, .bool false, .bool false, .bool false, .bool false, .bool false, .bool false, .bool false, .bool false, .bool false, .bool false, .bool false, .bool false, .bool false, .bool false, .bool false, .bool false, .bool false, .bool false, .bool false, .bool false, .bool false, .bool false, .bool false, .bool false, .bool false, .bool false, .bool false, .bool false, .bool false, .bool false, .bool false, .bool false, .bool false, .bool false, .bool false] 158)) w.heap.size 158 (hasArr []) := by rw [hasArr_nil]; exact Blk.new _ _ _
  have hk0 : Keeps [] w (w.alloc (.cells #[.bool false, .bool false, .bool false, .bool false, .bool false, .bool false, .bool false, .bool false, .bool false, .bool false, .bool false, .bool false, .bool false, .bool false, .bool false, .bool false, .bool false, .bool false, .bool false, .bool false, .bool false, .bool false, .bool false, .bool false, .bool false, .bool false, .bool false, .bool false, .bool false, .bool false, .bool false, .bool false, .bool false, .bool false, .bool false, .bool false, .bool false, .bool false, .bool false, .bool false, .bool false, .bool false, .bool false, .bool false, .bool false, .bool false, .bool false, .bool false, .bool false, .bool false, .bool false, .bool false, .bool false, .bool false, .bool false, .bool false, .bool false, .bool false, .bool false, .bool false, .bool false, .bool false, .bool false, .bool false] 158)) := by simp
  have HB := Lib.hid (And.intro hb0 hk0)
  clear hb0 hk0
  obtain ⟨i0, hi, hz0, hz1, hz2⟩ := info_parts Tryz.infoPr
  go_enter Tryz.func16, Tryz.ntmps16
  go_wp2_with fail
  obtain ⟨w1, hw1⟩ : ∃ q, w.alloc (.cells #[.bool false, .bool false, .bool false, .bool false, .bool false, .bool false, .bool false, .bool false, .bool false, .bool false, .bool false, .bool false, .bool false, .bool false, .bool false, .bool false, .bool false, .bool false, .bool false, .bool false, .bool false, .bool false, .bool false, .bool false, .bool false, .bool false, .bool false, .bool false, .bool false, .bool false, .bool false, .bool false, .bool false, .bool false, .bool false, .bool false, .bool false, .bool false, .bool false, .bool false, .bool false, .bool false, .bool false, .bool false, .bool false, .bool false, .bool false, .bool false, .bool false, .bool false, .bool false, .bool false, .bool false, .bool false, .bool false, .bool false, .bool false, .bool false, .bool false, .bool false, .bool false, .bool false, .bool false, .bool false] 158) = q := ⟨_, rfl⟩
  rw [hw1] at HB
  try rw [hw1]
  clear hw1
  go_loopw [3, 5] (fun out i wr => ∃ (j : Nat) (vA : Option Addr) (vc : Nat), j ≤ n ∧ i = .int .i64 j ∧ out = .slice vA (wAt l j).length vc ∧ wr.ownsRow w.heap.size 62 2 (.slice vA (wAt l j).length vc) (wAt l j).length (prCells (wAt l j)) ∧ Blk wr w.heap.size 158 (hasArr (wAt l j)) ∧ Keeps [] w wr) (fun _ i _ => n - (intOf i).toNat)
  case atStart => exact ⟨0, none, 0, Nat.zero_le _, rfl, rfl, ⟨rfl, .inl ⟨rfl, rfl⟩⟩, HB.out⟩
  case round =>
    obtain ⟨j, vA, vc, hj, rfl, rfl, ho, hb, hk⟩ := hrel
    have HO := Lib.hid ho
    have HBB := Lib.hid hb
    have HK := Lib.hid hk
    have hle := (wAt_ok l j).len
    clear ho hb hk HB
    have q0 : (0 : Int) ≤ (j : Int) := by omega
    rename_i wr
    obtain ⟨m, hm⟩ : ∃ m, (wAt l j).length = m := ⟨_, rfl⟩
    rw [hm] at hle HO
    try rw [hm]
    have HM := Lib.hid hm
    clear hm
    by_cases hlt : j < n
    · have q1 : (j : Int) < (n : Int) := by omega
      by_cases hf : m < 16
      · have q2 : (m : Int) < 16 := by omega
        obtain ⟨ab, off, p, rfl, hp, hcell⟩ := HL.out.at_ hlt
        have hop := hcell wr HK.out
        have hab : ab < w.heap.size := by
          obtain ⟨_, _, _, h⟩ := HL.out
          obtain ⟨b', off', e, hb', _⟩ := h (by omega)
          injection e with e
          injection e with e1
          omega
        have hab1 : ab ≠ w.heap.size := by omega
        have hab2 : w.heap.size ≠ ab := by omega
        have c0 := hop.c0
        have c1 := hop.c1
        clear hop hcell
        have hst : wAt l (j + 1) = wStep (wAt l j) p := wAt_succ hp
        obtain ⟨pc, px⟩ := p
        simp only at c0 c1
        obtain ⟨cn, hcn⟩ : ∃ cn : Nat, pc % 64 = (cn : Int) := ⟨(pc % 64).toNat, by omega⟩
        have m1 : bits .and .i64 pc 63 = (cn : Int) := (msk63 pc).trans hcn
        have n0 : (0 : Int) ≤ (cn : Int) := by omega
        have n1 : (cn : Int) < 64 := by omega
        have n2 : cn < 64 := by omega
        obtain ⟨b, hbq⟩ : ∃ b, decide ((cn : Int) ∈ (wAt l j).map Pr.cell) = b := ⟨_, rfl⟩
        have hc : wr.cell? ⟨w.heap.size, cn, none⟩ = some (.bool b) := by rw [HBB.out.cell cn, hasArr_get _ n2, hbq]
        have hfz := HBB.out.frozen cn
        have HP := Lib.hid (And.intro hst (And.intro hcn hbq))
        clear hst hcn hbq hp
        cases b
        · have est : wAt l (j + 1) = wAt l j ++ [⟨cn, px⟩] := by
            rw [HP.out.1]; unfold wStep; rw [if_pos (by rw [HM.out]; omega), HP.out.2.1, if_neg (of_decide_eq_false HP.out.2.2)]
          have HE := Lib.hid est
          clear est
          have hk2 : Keeps [w.heap.size] wr (wr.setCell ⟨w.heap.size, cn, none⟩ (.bool true)) := (Keeps.refl _ _).setCell (.inl (by simp)) _
          have hne : ∀ q, (Value.slice vA m vc).ownBlock = some q → q ∉ [w.heap.size] := fun q hq hx => by
            have a1 := own_tyOf HO.out hq
            simp at hx
            subst hx
            rw [HBB.out.tyOf] at a1
            revert a1
            decide
          have HO2 := Lib.hid (own_base (own_keeps HO.out hk2 hne) (fun _ _ => Nat.zero_le _))
          have hb2 : Blk (wr.setCell ⟨w.heap.size, cn, none⟩ (.bool true)) w.heap.size 158 (hasArr (wAt l j ++ [⟨cn, px⟩])) := hasArr_add (wAt l j) cn px n2 ▸ HBB.out.set_ cn (.bool true)
          have HB2 := Lib.hid hb2
          have HK2 := Lib.hid hk2
          have hmx : Hid (m + 1 ≤ maxLen) := by unfold Hid maxLen; omega
          have hby : Hid ((m + 1) * 16 ≤ 140737488355328) := by unfold Hid; omega
          have hsz : Hid ((wr.setCell ⟨w.heap.size, cn, none⟩ (.bool true)).heap.size = wr.heap.size) := by unfold Hid; simp
          clear hk2 hne hb2
          go_wp2_with (at_builtin; refine wpList_append_row rfl (.tmp 30) (.tmp 38) 22 rfl 62 i0 _ 2 16 Tryz.underlying22 hi hz0 hz1 hz2 rfl (by decide) (.slice vA m vc) m _ rfl (own_keeps HO2.out ((Keeps.refl [] _).alloc _) (by simp)) _ 1 [.int .i64 cn, .int .i64 px] rfl (made_row _ _ _ _ (by first | exact hsz.out | rfl)) (by simp [Value.oneCell']) hmx.out hby.out ?_; intro v1 w4 hown1 hg1 hat1; have HG := Lib.hid (And.intro hown1 (And.intro hg1 hat1)); clear hown1 hg1 hat1)
          obtain ⟨g1, cc, rfl, _, _⟩ := HG.out.1.form (by omega)
          obtain ⟨r1, r2⟩ := wrs_grow ⟨(cn : Int), px⟩ HM.out HO.out HK.out (HK2.out.alloc (.cells #[.int .i64 cn, .int .i64 px] 62)) HG.out.1 HG.out.2.1 HG.out.2.2
          rw [← HE.out] at r1
          have r3 : Blk w4 w.heap.size 158 (hasArr (wAt l (j + 1))) := by
            rw [HE.out]
            exact (HB2.out.alloc _).grown HG.out.2.1 (fun e => by
              have a1 := own_tyOf HO.out e.symm
              rw [HBB.out.tyOf] at a1
              revert a1
              decide)
          have hl1 : (wAt l (j + 1)).length = m + 1 := by rw [HE.out, ← HM.out]; simp
          exact ⟨⟨j + 1, _, cc, by omega, by simp, by rw [hl1], by rw [hl1]; rw [hl1] at r1; exact r1, r3, r2⟩, by simp [intOf]; omega⟩
        · have est : wAt l (j + 1) = wAt l j := by
            rw [HP.out.1]; unfold wStep; rw [if_pos (by rw [HM.out]; omega), HP.out.2.1, if_pos (of_decide_eq_true HP.out.2.2)]
          go_wp2_with fail
          exact ⟨⟨j + 1, vA, vc, by omega, by simp, by rw [est, HM.out], by rw [est, HM.out]; exact HO.out, by rw [est]; exact HBB.out, HK.out⟩, by simp [intOf]; omega⟩
      · have hf' : 16 ≤ m := by omega
        have q2 : ¬ (m : Int) < 16 := by omega
        have hm16 : m = 16 := by omega
        have HW : Hid (wsOf l = wAt l j) := by
          have := wAt_full (l := l) (i := j) (by rw [HM.out]; omega)
          unfold Hid wsOf
          rw [this, if_neg (fun e => by have := HM.out; rw [e] at this; simp at this; omega)]
        have q3 : ¬ (m : Int) = 0 := by omega
        have q4 : ((m : Int) == 0) = false := by simpa using q3
        clear hm16
        go_wp2_with fail
        go_ret
        exact ⟨_, rfl, by rw [HW.out, HM.out]; exact HO.out, HK.out⟩
    · have q1 : ¬ (j : Int) < (n : Int) := by omega
      have hjn : j = l.length := by have := HLL.out; omega
      by_cases hm0 : m = 0
      · have HW : Hid (wsOf l = [⟨3, 9⟩]) := by
          unfold Hid wsOf
          rw [← hjn, if_pos (List.length_eq_zero_iff.1 (by rw [HM.out]; exact hm0))]
        have HZ : Hid (wAt l j = []) := List.length_eq_zero_iff.1 (by rw [HM.out]; exact hm0)
        have ho0 := HO.out
        rw [HZ.out] at ho0
        subst hm0
        have HOZ := Lib.hid ho0
        have HO0 := Lib.hid (own_base ho0 (fun _ _ => Nat.zero_le _))
        have hmx : Hid (0 + 1 ≤ maxLen) := by unfold Hid maxLen; omega
        have hby : Hid ((0 + 1) * 16 ≤ 140737488355328) := by unfold Hid; omega
        clear hjn ho0 HO
        go_wp2_with (at_builtin; refine wpList_append_row rfl (.tmp 43) (.tmp 45) 22 rfl 62 i0 _ 2 16 Tryz.underlying22 hi hz0 hz1 hz2 rfl (by decide) (.slice vA 0 vc) 0 _ rfl (own_keeps HO0.out ((Keeps.refl [] _).alloc _) (by simp)) _ 1 [.int .i64 3, .int .i64 9] rfl (made_row _ _ _ _ (by first | exact hsz.out | rfl)) (by simp [Value.oneCell']) hmx.out hby.out ?_; intro v1 w4 hown1 hg1 hat1; have HG := Lib.hid (And.intro hown1 (And.intro hg1 hat1)); clear hown1 hg1 hat1)
        go_ret
        obtain ⟨r1, r2⟩ := wrs_grow (o := []) ⟨3, 9⟩ rfl HOZ.out HK.out (((Keeps.refl [w.heap.size] wr)).alloc (.cells #[.int .i64 3, .int .i64 9] 62)) HG.out.1 HG.out.2.1 HG.out.2.2
        exact ⟨_, rfl, by rw [HW.out]; exact r1, r2⟩
      · have HW : Hid (wsOf l = wAt l j) := by
          unfold Hid wsOf
          rw [← hjn, if_neg (fun e => by have := HM.out; rw [e] at this; simp at this; omega)]
        have q3 : ¬ (m : Int) = 0 := by omega
        have q4 : ((m : Int) == 0) = false := by simpa using q3
        clear hjn
        go_wp2_with fail
        go_ret
        exact ⟨_, rfl, by rw [HW.out, HM.out]; exact HO.out, HK.out⟩
end Go.Proofs.YtcoekpomiljofaaGreat
