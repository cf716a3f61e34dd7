/- Layer 9: the policy: its rules in a map of functions, Verdict, a judge and its calls. -/
import Derived.Test.YtdhgiohjdhcedaaGreatLkAt
import Derived.Test.YtdhgiohjdhcedaaGreatRegT
import Derived.Maps.OwnOps
import Derived.Maps.Views
import Derived.Deep.RegionHeld3
import Derived.Deep.QuietTactic
import Derived.BigQuiet
namespace Go.Proofs.YtdhgiohjdhcedaaGreat
open Go.RowKit Go.Maps
set_option linter.unusedVariables false
namespace Pol
/-- How an element of the map of rules reads: by its function's number. -/
def fnElem : Value → Option (DataW Unit × List MemPlace)
  | .func (.func k) a b => if a = #[] ∧ b = #[] then some (.lit (.int .i64 k), []) else none
  | .nilFunc => some (.nil, [])
  | _ => none
theorem fnElem_func (k : Nat) : fnElem (.func (.func k) #[] #[]) = some (.lit (.int .i64 k), []) := by simp [fnElem]
theorem fnElem_inv {v : Value} {k : Nat} {ps : List MemPlace} (h : fnElem v = some (.lit (.int .i64 k), ps)) : v = .func (.func k) #[] #[] := by
  unfold fnElem at h
  split at h
  · split at h
    · rename_i q a b hab
      obtain ⟨rfl, rfl⟩ := hab
      simp only [Option.some.injEq, Prod.mk.injEq, DataW.lit.injEq, Lit.int.injEq] at h
      have h1 := Int.ofNat.inj h.1.2
      rw [h1]
    · cases h
  · simp at h
  · cases h
/-- An element goes into a map that a composite literal makes. -/
theorem wpList_insert_own {P : Program} (w : World) {ops : Array Oper} {rest : List Oper} {o : Oper} {a : Act} {Q : Exit → Act → World → Prop}
    (hg : o.guard = none) (m x v : Operand) (t : TypeId) (hop : o.op = Op.insert t m x v)
    (k e : TypeId) (K : Keyed P k) (ht : P.underlying t = some (.map k e)) (b n : Nat) (D : DataW Unit)
    (hm : a.eval m = .map (some b)) (hown : w.ownsMap P k fnElem b n D) (hn : n < maxLen) (key val : Value) (kl : Lit) (hx : a.eval x = key) (hv : a.eval v = val) (hkey : keyOf P k key = some kl)
    (d : DataW Unit) (ps : List MemPlace) (hval : fnElem val = some (d, ps))
    (hK : ∀ w', w'.ownsMap P k fnElem b (n + 1) (D.put kl d) → w.grownBy w' (some b) → wpList P ops Q rest (a.put o.dst undef) w') :
    wpList P ops Q (o :: rest) a w := by
  refine wpList_plain hg fun K' hK' => ?_
  obtain ⟨w', hrun, r1, r2⟩ := hown.update K ht hn hkey hval
  unfold Oper.wp
  simp [execOp, hop, hm, hx, hv, hrun, Result.andThen]
  exact hK' _ _ (hK w' r1 r2)
abbrev TM : TypeId := 220
theorem keyI : Keyed Tryz.prog 3 := int_keyed Tryz.underlying3
theorem key_int (n : Int) (h0 : 0 ≤ n) (h1 : n ≤ 100) : keyOf Tryz.prog 3 (.int .i64 n) = some (.int .i64 n) := keyOf_int_mk Tryz.underlying3 (WalkArith.wf_i64 (by omega))
def datum : DataW Unit := (((DataW.map []).put (.int .i64 1) (.lit (.int .i64 194))).put (.int .i64 2) (.lit (.int .i64 195))).put (.int .i64 3) (.lit (.int .i64 196))
/-- The map of rules in block b. -/
def Rules (w : World) (b : Nat) : Prop := w.ownsMap Tryz.prog 3 fnElem b 3 datum
theorem rules_any (w : World) : Calls Tryz.prog 108 #[] w fun e w' => ∃ b, e = .returned (.map (some b)) ∧ Rules w' b ∧ Keeps [] w w' := by
  have hmm := @run_makeMap Tryz.prog
  have hm0 : (w.alloc (.map #[] 0)).ownsMap Tryz.prog 3 fnElem w.heap.size 0 (.map []) := World.ownsMap_made _ _ _ _
  have H0 := Lib.hid hm0
  clear hm0
  go_enter Tryz.func108, Tryz.ntmps108
  go_wp2_with (first
    | (refine wpList_insert_own _ rfl _ _ _ TM rfl 3 _ keyI Tryz.underlying220 _ 0 _ rfl H0.out (by unfold maxLen; omega) (.int .i64 1) _ (.int .i64 1) rfl rfl (key_int 1 (by decide) (by decide)) _ [] (fnElem_func _) ?_; intro w1 h1 g1)
    | (refine wpList_insert_own _ rfl _ _ _ TM rfl 3 _ keyI Tryz.underlying220 _ 1 _ rfl h1 (by unfold maxLen; omega) (.int .i64 2) _ (.int .i64 2) rfl rfl (key_int 2 (by decide) (by decide)) _ [] (fnElem_func _) ?_; intro w2 h2 g2)
    | (refine wpList_insert_own _ rfl _ _ _ TM rfl 3 _ keyI Tryz.underlying220 _ 2 _ rfl h2 (by unfold maxLen; omega) (.int .i64 3) _ (.int .i64 3) rfl rfl (key_int 3 (by decide) (by decide)) _ [] (fnElem_func _) ?_; intro w3 h3 g3))
  go_ret
  exact ⟨_, rfl, h3, (((((Keeps.refl [] w).alloc _).grown g1 (fun k hk => by cases hk; exact .inr (Nat.le_refl _))).grown g2 (fun k hk => by cases hk; exact .inr (Nat.le_refl _))).grown g3 (fun k hk => by cases hk; exact .inr (Nat.le_refl _)))⟩
theorem zeroF (w : World) : (zeroValue 219).run Tryz.prog w = .ok .nilFunc w := by kernel_rfl
theorem Rules.look {w : World} {b : Nat} (h : Rules w b) :
    (Instr.lookup TM (.map (some b)) (.int .i64 1) false).run Tryz.prog w = .ok (.func (.func 194) #[] #[]) w ∧
    (Instr.lookup TM (.map (some b)) (.int .i64 2) false).run Tryz.prog w = .ok (.func (.func 195) #[] #[]) w ∧
    (Instr.lookup TM (.map (some b)) (.int .i64 3) false).run Tryz.prog w = .ok (.func (.func 196) #[] #[]) w := by
  have hl : ∀ n : Int, 0 ≤ n → n ≤ 100 → ∀ q : Nat, datum.atKey (.int .i64 n) .nil = .lit (.int .i64 q) → (Instr.lookup TM (.map (some b)) (.int .i64 n) false).run Tryz.prog w = .ok (.func (.func q) #[] #[]) w := fun n h0 h1 q hq => by
    obtain ⟨v, ps, hrun, hv⟩ := World.ownsMap.lookup h keyI Tryz.underlying220 (zeroF w) (zd := .nil) (zp := []) rfl (key_int n h0 h1)
    rw [hq] at hv
    rw [hrun, fnElem_inv hv]
  exact ⟨hl 1 (by decide) (by decide) _ (by kernel_rfl), hl 2 (by decide) (by decide) _ (by kernel_rfl), hl 3 (by decide) (by decide) _ (by kernel_rfl)⟩
theorem Rules.keeps {w w' : World} {b : Nat} (h : Rules w b) (hk : Keeps [] w w') : Rules w' b := by
  obtain ⟨es, clock, hb, F, hs, hD⟩ := h
  exact ⟨es, clock, (hk.block b (Array.getElem?_eq_some_iff.1 hb).1 (by simp)).trans hb, F, hs, hD⟩
/-- What a committer does that has met victims. -/
def verdict (c : Cf) (st d : Int) (vs : List Vc) : Int :=
  if c.tag = 2 then (if (vs.length : Int) > c.bias ∧ d < c.defer then 2 else 1) else if c.tag = 3 then (if vs.any (fun v => decide (v.stamp < st)) then 3 else 1) else 1
theorem rule1 (w : World) (x : Array Value) : Calls Tryz.prog 194 #[.agg x] w fun e w' => e = .returned (.int .i64 1) ∧ Keeps [] w w' := by
  go_enter Tryz.func194, Tryz.ntmps194
  go_wp2
  go_ret
  exact ⟨rfl, by simp⟩
theorem rule2 (w : World) (c : Cf) (st d : Int) (A : Option Addr) (n cap : Nat) : Calls Tryz.prog 195 #[.agg #[.int .i64 c.cells, .int .i64 c.slots, .int .i64 c.bits, .int .i64 c.tag, .int .i64 c.bias, .int .i64 c.defer, .int .i64 st, .int .i64 d, .slice A n cap]] w fun e w' => e = .returned (.int .i64 (if (n : Int) > c.bias ∧ d < c.defer then 2 else 1)) ∧ Keeps [] w w' := by
  by_cases h1 : (n : Int) > c.bias
  · have e1 : decide (c.bias < (n : Int)) = true := decide_eq_true h1
    by_cases h2 : d < c.defer
    · have e2 : decide (d < c.defer) = true := decide_eq_true h2
      rw [if_pos ⟨h1, h2⟩]
      go_enter Tryz.func195, Tryz.ntmps195
      go_wp2
      try go_quiet (fail)
      try go_wp2
      go_ret
      exact ⟨rfl, by simp⟩
    · have e2 : decide (d < c.defer) = false := decide_eq_false h2
      rw [if_neg (fun h => h2 h.2)]
      go_enter Tryz.func195, Tryz.ntmps195
      go_wp2
      try go_quiet (fail)
      try go_wp2
      go_ret
      exact ⟨rfl, by simp⟩
  · have e1 : decide (c.bias < (n : Int)) = false := decide_eq_false h1
    rw [if_neg (fun h => h1 h.1)]
    go_enter Tryz.func195, Tryz.ntmps195
    go_wp2
    try go_quiet (fail)
    try go_wp2
    go_ret
    exact ⟨rfl, by simp⟩
theorem vc_cell {w : World} {A : Option Addr} {cap : Nat} {vs : List Vc} (h : SlR w 73 4 (.slice A vs.length cap) vs.length (vcCells vs)) {k : Nat} {v : Vc} (hk : vs[k]? = some v) :
    ∃ g off, A = some ⟨g, off, none⟩ ∧ w.cell? ⟨g, off + k * 4, none⟩ = some (.int .i64 v.slot) ∧ w.cell? ⟨g, off + k * 4 + 1, none⟩ = some (.int .i64 v.gen) ∧ w.cell? ⟨g, off + k * 4 + 2, none⟩ = some (.int .i64 v.stamp) ∧ w.cell? ⟨g, off + k * 4 + 3, none⟩ = some (.int .i64 v.thread) := by
  have hl := (List.getElem?_eq_some_iff.1 hk).1
  obtain ⟨g, off, c, e, _, _, hc⟩ := h.spot_pos (by omega)
  injection e with e1 _ _
  have hg : ∀ (l : List Vc) (k : Nat) (v : Vc), l[k]? = some v → ∀ j u, v.cells[j]? = some u → (vcCells l)[k * 4 + j]? = some u := by
    intro l
    induction l with
    | nil => intro k v hk; simp at hk
    | cons x l ih =>
      intro k v hk j u hu
      have hj : j < 4 := by have := (List.getElem?_eq_some_iff.1 hu).1; simpa [Vc.cells] using this
      have e : vcCells (x :: l) = x.cells ++ vcCells l := by simp [vcCells]
      rw [e]
      cases k with
      | zero =>
        simp at hk
        subst hk
        rw [Nat.zero_mul, Nat.zero_add, List.getElem?_append_left (by simpa [Vc.cells] using hj)]
        exact hu
      | succ k =>
        rw [List.getElem?_append_right (by simp [Vc.cells]; omega)]
        have := ih k v (by simpa using hk) j u hu
        have e2 : (k + 1) * 4 + j - x.cells.length = k * 4 + j := by simp [Vc.cells]; omega
        rw [e2]
        exact this
  refine ⟨g, off, e1, ?_, ?_, ?_, ?_⟩
  · have := hc (k * 4 + 0) _ (hg vs k v hk 0 _ rfl); rw [← Nat.add_assoc] at this; exact this
  · have := hc (k * 4 + 1) _ (hg vs k v hk 1 _ rfl); rw [← Nat.add_assoc] at this; exact this
  · have := hc (k * 4 + 2) _ (hg vs k v hk 2 _ rfl); rw [← Nat.add_assoc] at this; exact this
  · have := hc (k * 4 + 3) _ (hg vs k v hk 3 _ rfl); rw [← Nat.add_assoc] at this; exact this
set_option maxHeartbeats 1000000 in
theorem rule3 (w : World) (c : Cf) (st d : Int) (A : Option Addr) (cap : Nat) (vs : List Vc) (hv : SlR w 73 4 (.slice A vs.length cap) vs.length (vcCells vs)) :
    Calls Tryz.prog 196 #[.agg #[.int .i64 c.cells, .int .i64 c.slots, .int .i64 c.bits, .int .i64 c.tag, .int .i64 c.bias, .int .i64 c.defer, .int .i64 st, .int .i64 d, .slice A vs.length cap]] w fun e w' => e = .returned (.int .i64 (if vs.any (fun v => decide (v.stamp < st)) then 3 else 1)) ∧ Keeps [] w w' := by
  obtain ⟨rr, hrr⟩ : ∃ rr : Int, (if vs.any (fun v => decide (v.stamp < st)) then 3 else 1) = rr := ⟨_, rfl⟩
  rw [hrr]
  have HR := Lib.hid hrr
  clear hrr
  have HV := Lib.hid hv
  have hmax : vs.length ≤ maxLen := by
    obtain ⟨_, A', c', e, h1, h2, _⟩ := hv
    injection e with _ _ e3
    omega
  clear hv
  have kB : Keeps [] w (w.alloc (.cells #[.int .i64 c.cells, .int .i64 c.slots, .int .i64 c.bits, .int .i64 c.tag, .int .i64 c.bias, .int .i64 c.defer, .int .i64 st, .int .i64 d, .slice A vs.length cap] 223)) := (Keeps.refl _ _).alloc _
  have bb := Blk.new w 223 #[.int .i64 c.cells, .int .i64 c.slots, .int .i64 c.bits, .int .i64 c.tag, .int .i64 c.bias, .int .i64 c.defer, .int .i64 st, .int .i64 d, .slice A vs.length cap]
  obtain ⟨wB, hwB⟩ : ∃ q, w.alloc (.cells #[.int .i64 c.cells, .int .i64 c.slots, .int .i64 c.bits, .int .i64 c.tag, .int .i64 c.bias, .int .i64 c.defer, .int .i64 st, .int .i64 d, .slice A vs.length cap] 223) = q := ⟨_, rfl⟩
  rw [hwB] at kB bb
  have b6 : wB.cell? ⟨w.heap.size, 6, none⟩ = some (.int .i64 st) := (bb.cell 6).trans rfl
  have b8 : wB.cell? ⟨w.heap.size, 8, none⟩ = some (.slice A vs.length cap) := (bb.cell 8).trans rfl
  have HB := Lib.hid (And.intro kB b6)
  clear kB bb
  unfold maxLen at hmax
  go_enter Tryz.func196, Tryz.ntmps196
  go_wp2_with fail
  try rw [hwB]
  clear hwB b6 b8
  go_loopw [8] (fun i wr => ∃ k : Nat, k ≤ vs.length ∧ i = .int .i64 k ∧ Keeps [] wB wr ∧ (vs.take k).any (fun v => decide (v.stamp < st)) = false) (fun i _ => vs.length - (intOf i).toNat)
  case atStart => exact ⟨0, Nat.zero_le _, rfl, Keeps.refl _ _, by simp⟩
  case round =>
    obtain ⟨k, hk, rfl, hkr, ha⟩ := hrel
    have HA := Lib.hid ha
    clear ha
    by_cases hlt : k < vs.length
    · obtain ⟨v, hv⟩ : ∃ v, vs[k]? = some v := ⟨_, List.getElem?_eq_getElem hlt⟩
      obtain ⟨g, off, rfl, c0, c1, c2, c3⟩ := vc_cell (HV.out.keeps (HB.out.1.trans hkr (by simp)) (by simp)) hv
      have q6 : wr.cell? ⟨w.heap.size, 6, none⟩ = some (.int .i64 st) := keeps_cell0 hkr HB.out.2
      have k0 : (0 : Int) ≤ (k : Int) := by omega
      have k1 : (k : Int) < (vs.length : Int) := by omega
      have htk : vs.take (k + 1) = vs.take k ++ [v] := by rw [List.take_add_one, hv]; rfl
      have HT := Lib.hid htk
      have HK := Lib.hid hkr
      have hqa : Keeps [] wr (wr.alloc (.cells #[.int .i64 v.slot, .int .i64 v.gen, .int .i64 v.stamp, .int .i64 v.thread] 73)) := (Keeps.refl _ _).alloc _
      have q6' := keeps_cell0 hqa q6
      have HQ := Lib.hid hqa
      clear htk hkr hqa
      by_cases hs : v.stamp < st
      · have e1 : decide (v.stamp < st) = true := decide_eq_true hs
        have HX : Hid (vs.any (fun v => decide (v.stamp < st)) = true) := List.any_eq_true.2 ⟨v, List.mem_of_getElem? hv, e1⟩
        clear hv
        go_wp2_with fail
        try (go_quiet (fail); go_wp2_with fail)
        go_ret
        exact ⟨by rw [← HR.out, HX.out]; rfl, HB.out.1.trans (HK.out.trans HQ.out (by simp)) (by simp)⟩
      · have e1 : decide (v.stamp < st) = false := decide_eq_false hs
        clear hv
        go_wp2_with fail
        try (go_quiet (fail); go_wp2_with fail)
        first
          | exact ⟨⟨k + 1, by omega, by simp, HK.out.trans HQ.out (by simp), by rw [HT.out, List.any_append, HA.out]; simp [e1]⟩, by simp [intOf]; omega⟩
          | exact ⟨⟨k + 1, by omega, by simp, (HK.out.trans HQ.out (by simp)).drewN _, by rw [HT.out, List.any_append, HA.out]; simp [e1]⟩, by simp [intOf]; omega⟩
    · have hge : ¬ ((k : Int) < (vs.length : Int)) := by omega
      have HX : Hid (vs.any (fun v => decide (v.stamp < st)) = false) := by
        have := HA.out
        rw [show k = vs.length by omega, List.take_length] at this
        exact this
      go_wp2_with fail
      go_ret
      exact ⟨by rw [← HR.out, HX.out]; rfl, HB.out.1.trans hkr (by simp)⟩
end Pol
end Go.Proofs.YtdhgiohjdhcedaaGreat
