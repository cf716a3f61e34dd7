/- Layer 9: Verdict; a judge: New, Decide, Defers, Promoted. -/
import Derived.Test.YtmlnedilbneekaaGreatRegT
import Derived.Maps.OwnOps
import Derived.Maps.Views
import Derived.Deep.RegionHeld3
import Derived.Deep.QuietTactic
import Derived.BigQuiet
import Derived.Test.YtmlnedilbneekaaGreatSlR
import Derived.Test.YtmlnedilbneekaaGreatMake
set_option linter.unusedVariables false
set_option linter.unusedSimpArgs false
namespace Go.Proofs.YtmlnedilbneekaaGreat
open Go.RowKit Go.Maps
namespace Pol
def fnElem : Value → Option (DataW Unit × List MemPlace)
 | .func (.func k) a b => if a = #[] ∧ b = #[] then some (.lit (.int .i64 k),[]) else none
 | .nilFunc => some (.nil,[])
 | _ => none
theorem fnElem_func (k : Nat) : fnElem (.func (.func k) #[] #[]) = some (.lit (.int .i64 k),[]) := by simp [fnElem]
theorem fnElem_inv {v : Value} {k : Nat} {ps : List MemPlace} (h : fnElem v = some (.lit (.int .i64 k),ps)) : v = .func (.func k) #[] #[] := by
 unfold fnElem at h
 split at h
 ·
  split at h
  · rename_i q a b hab
    obtain ⟨rfl,rfl⟩ := hab
    simp only [Option.some.injEq,Prod.mk.injEq,DataW.lit.injEq,Lit.int.injEq] at h
    have h1 := Int.ofNat.inj h.1.2
    rw [h1]
  · cases h
 · simp at h
 · cases h
theorem wpList_insert_own {P : Program} (w : World) {ops : Array Oper} {rest : List Oper} {o : Oper} {a : Act} {Q : Exit → Act → World → Prop}
 (hg : o.guard = none) (m x v : Operand) (t : TypeId) (hop : o.op = Op.insert t m x v)
 (k e : TypeId) (K : Keyed P k) (ht : P.underlying t = some (.map k e)) (b n : Nat) (D : DataW Unit)
 (hm : a.eval m = .map (some b)) (hown : w.ownsMap P k fnElem b n D) (hn : n < maxLen) (key val : Value) (kl : Lit) (hx : a.eval x = key) (hv : a.eval v = val) (hkey : keyOf P k key = some kl)
 (d : DataW Unit) (ps : List MemPlace) (hval : fnElem val = some (d,ps))
 (hK : ∀ w',w'.ownsMap P k fnElem b (n + 1) (D.put kl d) → w.grownBy w' (some b) → wpList P ops Q rest (a.put o.dst undef) w') :
 wpList P ops Q (o :: rest) a w := by
 refine wpList_plain hg fun K' hK' => ?_
 obtain ⟨w',hrun,r1,r2⟩ := hown.update K ht hn hkey hval
 unfold Oper.wp
 simp [execOp,hop,hm,hx,hv,hrun,Result.andThen]
 exact hK' _ _ (hK w' r1 r2)
abbrev TM : TypeId := 284
theorem keyI : Keyed Tryz.prog 3 := int_keyed Tryz.underlying3
theorem key_int (n : Int) (h0 : 0 ≤ n) (h1 : n ≤ 100) : keyOf Tryz.prog 3 (.int .i64 n) = some (.int .i64 n) := keyOf_int_mk Tryz.underlying3 (WalkArith.wf_i64 (by omega))
def datum : DataW Unit := (((DataW.map []).put (.int .i64 1) (.lit (.int .i64 196))).put (.int .i64 2) (.lit (.int .i64 197))).put (.int .i64 3) (.lit (.int .i64 198))
def Rules (w : World) (b : Nat) : Prop := w.ownsMap Tryz.prog 3 fnElem b 3 datum
theorem rules_any (w : World) : Calls Tryz.prog 195 #[] w fun e w' => ∃ b,e = .returned (.map (some b)) ∧ Rules w' b ∧ Keeps [] w w' := by
 have hmm := @run_makeMap Tryz.prog
 have hm0 : (w.alloc (.map #[] 0)).ownsMap Tryz.prog 3 fnElem w.heap.size 0 (.map []) := World.ownsMap_made _ _ _ _
 have H0 := Lib.hid hm0
 clear hm0
 go_enter Tryz.func195,Tryz.ntmps195
 go_wp2_with (first
  | (refine wpList_insert_own _ rfl _ _ _ TM rfl 3 _ keyI Tryz.underlying284 _ 0 _ rfl H0.out (by unfold maxLen; omega) (.int .i64 1) _ (.int .i64 1) rfl rfl (key_int 1 (by decide) (by decide)) _ [] (fnElem_func _) ?_; intro w1 h1 g1)
  | (refine wpList_insert_own _ rfl _ _ _ TM rfl 3 _ keyI Tryz.underlying284 _ 1 _ rfl h1 (by unfold maxLen; omega) (.int .i64 2) _ (.int .i64 2) rfl rfl (key_int 2 (by decide) (by decide)) _ [] (fnElem_func _) ?_; intro w2 h2 g2)
  | (refine wpList_insert_own _ rfl _ _ _ TM rfl 3 _ keyI Tryz.underlying284 _ 2 _ rfl h2 (by unfold maxLen; omega) (.int .i64 3) _ (.int .i64 3) rfl rfl (key_int 3 (by decide) (by decide)) _ [] (fnElem_func _) ?_; intro w3 h3 g3))
 go_ret
 exact ⟨_,rfl,h3,(((((Keeps.refl [] w).alloc _).grown g1 (fun k hk => by cases hk; exact .inr (Nat.le_refl _))).grown g2 (fun k hk => by cases hk; exact .inr (Nat.le_refl _))).grown g3 (fun k hk => by cases hk; exact .inr (Nat.le_refl _)))⟩
theorem zeroF (w : World) : (zeroValue 283).run Tryz.prog w = .ok .nilFunc w := by kernel_rfl
theorem Rules.look {w : World} {b : Nat} (h : Rules w b) :
 (Instr.lookup TM (.map (some b)) (.int .i64 1) false).run Tryz.prog w = .ok (.func (.func 196) #[] #[]) w ∧
 (Instr.lookup TM (.map (some b)) (.int .i64 2) false).run Tryz.prog w = .ok (.func (.func 197) #[] #[]) w ∧
 (Instr.lookup TM (.map (some b)) (.int .i64 3) false).run Tryz.prog w = .ok (.func (.func 198) #[] #[]) w := by
 have hl : ∀ n : Int,0 ≤ n → n ≤ 100 → ∀ q : Nat,datum.atKey (.int .i64 n) .nil = .lit (.int .i64 q) → (Instr.lookup TM (.map (some b)) (.int .i64 n) false).run Tryz.prog w = .ok (.func (.func q) #[] #[]) w := fun n h0 h1 q hq => by
  obtain ⟨v,ps,hrun,hv⟩ := World.ownsMap.lookup h keyI Tryz.underlying284 (zeroF w) (zd := .nil) (zp := []) rfl (key_int n h0 h1)
  rw [hq] at hv
  rw [hrun,fnElem_inv hv]
 exact ⟨hl 1 (by decide) (by decide) _ (by kernel_rfl),hl 2 (by decide) (by decide) _ (by kernel_rfl),hl 3 (by decide) (by decide) _ (by kernel_rfl)⟩
def verdict (c : Cf) (st d : Int) (vs : List Vc) : Int :=
 if c.tag = 2 then (if (vs.length : Int) > c.bias ∧ d < c.defer then 2 else 1) else if c.tag = 3 then (if vs.any (fun v => decide (v.stamp < st)) then 3 else 1) else 1
theorem rule1 (w : World) (x : Array Value) : Calls Tryz.prog 196 #[.agg x] w fun e w' => e = .returned (.int .i64 1) ∧ Keeps [] w w' := by
 go_enter Tryz.func196,Tryz.ntmps196
 go_wp2
 go_ret
 exact ⟨rfl,by simp⟩
theorem rule2 (w : World) (c : Cf) (st d : Int) (A : Option Addr) (n cap : Nat) : Calls Tryz.prog 197 #[.agg #[.int .i64 c.cells,.int .i64 c.slots,.int .i64 c.bits,.int .i64 c.tag,.int .i64 c.bias,.int .i64 c.defer,.int .i64 st,.int .i64 d,.slice A n cap]] w fun e w' => e = .returned (.int .i64 (if (n : Int) > c.bias ∧ d < c.defer then 2 else 1)) ∧ Keeps [] w w' := by
 by_cases h1 : (n : Int) > c.bias
 ·
  have e1 : decide (c.bias < (n : Int)) = true := decide_eq_true h1
  by_cases h2 : d < c.defer
  ·
   have e2 : decide (d < c.defer) = true := decide_eq_true h2
   rw [if_pos ⟨h1,h2⟩]
   go_enter Tryz.func197,Tryz.ntmps197
   go_wp2
   try go_quiet (fail)
   try go_wp2
   go_ret
   exact ⟨rfl,by simp⟩
  ·
   have e2 : decide (d < c.defer) = false := decide_eq_false h2
   rw [if_neg (fun h => h2 h.2)]
   go_enter Tryz.func197,Tryz.ntmps197
   go_wp2
   try go_quiet (fail)
   try go_wp2
   go_ret
   exact ⟨rfl,by simp⟩
 ·
  have e1 : decide (c.bias < (n : Int)) = false := decide_eq_false h1
  rw [if_neg (fun h => h1 h.1)]
  go_enter Tryz.func197,Tryz.ntmps197
  go_wp2
  try go_quiet (fail)
  try go_wp2
  go_ret
  exact ⟨rfl,by simp⟩
theorem vc_cell {w : World} {A : Option Addr} {cap : Nat} {vs : List Vc} (h : SlR w 113 4 (.slice A vs.length cap) vs.length (vcCells vs)) {k : Nat} {v : Vc} (hk : vs[k]? = some v) :
 ∃ g off,A = some ⟨g,off,none⟩ ∧ w.cell? ⟨g,off + k * 4,none⟩ = some (.int .i64 v.slot) ∧ w.cell? ⟨g,off + k * 4 + 1,none⟩ = some (.int .i64 v.gen) ∧ w.cell? ⟨g,off + k * 4 + 2,none⟩ = some (.int .i64 v.stamp) ∧ w.cell? ⟨g,off + k * 4 + 3,none⟩ = some (.int .i64 v.thread) := by
 have hl := (List.getElem?_eq_some_iff.1 hk).1
 obtain ⟨g,off,c,e,_,_,hc⟩ := h.spot_pos (by omega)
 injection e with e1 _ _
 have hg : ∀ (l : List Vc) (k : Nat) (v : Vc),l[k]? = some v → ∀ j u,v.cells[j]? = some u → (vcCells l)[k * 4 + j]? = some u := by
  intro l
  induction l with
  | nil => intro k v hk; simp at hk
  | cons x l ih =>
    intro k v hk j u hu
    have hj : j < 4 := by have := (List.getElem?_eq_some_iff.1 hu).1; simpa [Vc.cells] using this
    have e : vcCells (x :: l) = x.cells ++ vcCells l := by simp [vcCells]
    rw [e]
    cases k with
    | zero =>
      simp at hk
      subst hk
      rw [Nat.zero_mul,Nat.zero_add,List.getElem?_append_left (by simpa [Vc.cells] using hj)]
      exact hu
    | succ k =>
      rw [List.getElem?_append_right (by simp [Vc.cells]; omega)]
      have := ih k v (by simpa using hk) j u hu
      have e2 : (k + 1) * 4 + j - x.cells.length = k * 4 + j := by simp [Vc.cells]; omega
      rw [e2]
      exact this
 refine ⟨g,off,e1,?_,?_,?_,?_⟩
 · have := hc (k * 4 + 0) _ (hg vs k v hk 0 _ rfl); rw [← Nat.add_assoc] at this; exact this
 · have := hc (k * 4 + 1) _ (hg vs k v hk 1 _ rfl); rw [← Nat.add_assoc] at this; exact this
 · have := hc (k * 4 + 2) _ (hg vs k v hk 2 _ rfl); rw [← Nat.add_assoc] at this; exact this
 · have := hc (k * 4 + 3) _ (hg vs k v hk 3 _ rfl); rw [← Nat.add_assoc] at this; exact this
set_option maxHeartbeats 1000000 in
theorem rule3 (w : World) (c : Cf) (st d : Int) (A : Option Addr) (cap : Nat) (vs : List Vc) (hv : SlR w 113 4 (.slice A vs.length cap) vs.length (vcCells vs)) :
 Calls Tryz.prog 198 #[.agg #[.int .i64 c.cells,.int .i64 c.slots,.int .i64 c.bits,.int .i64 c.tag,.int .i64 c.bias,.int .i64 c.defer,.int .i64 st,.int .i64 d,.slice A vs.length cap]] w fun e w' => e = .returned (.int .i64 (if vs.any (fun v => decide (v.stamp < st)) then 3 else 1)) ∧ Keeps [] w w' := by
 obtain ⟨rr,hrr⟩ : ∃ rr : Int,(if vs.any (fun v => decide (v.stamp < st)) then 3 else 1) = rr := ⟨_,rfl⟩
 rw [hrr]
 have HR := Lib.hid hrr
 clear hrr
 have HV := Lib.hid hv
 have hmax : vs.length ≤ maxLen := by
  obtain ⟨_,A',c',e,h1,h2,_⟩ := hv
  injection e with _ _ e3
  omega
 clear hv
 have kB : Keeps [] w (w.alloc (.cells #[.int .i64 c.cells,.int .i64 c.slots,.int .i64 c.bits,.int .i64 c.tag,.int .i64 c.bias,.int .i64 c.defer,.int .i64 st,.int .i64 d,.slice A vs.length cap] 287)) := Sq.r.alloc _
 have bb := Blk.new w 287 #[.int .i64 c.cells,.int .i64 c.slots,.int .i64 c.bits,.int .i64 c.tag,.int .i64 c.bias,.int .i64 c.defer,.int .i64 st,.int .i64 d,.slice A vs.length cap]
 obtain ⟨wB,hwB⟩ : ∃ q,w.alloc (.cells #[.int .i64 c.cells,.int .i64 c.slots,.int .i64 c.bits,.int .i64 c.tag,.int .i64 c.bias,.int .i64 c.defer,.int .i64 st,.int .i64 d,.slice A vs.length cap] 287) = q := ⟨_,rfl⟩
 rw [hwB] at kB bb
 have b6 : wB.cell? ⟨w.heap.size,6,none⟩ = some (.int .i64 st) := (bb.cell 6).trans rfl
 have b8 : wB.cell? ⟨w.heap.size,8,none⟩ = some (.slice A vs.length cap) := (bb.cell 8).trans rfl
 have HB := Lib.hid (And.intro kB b6)
 clear kB bb
 unfold maxLen at hmax
 go_enter Tryz.func198,Tryz.ntmps198
 go_wp2_with fail
 try rw [hwB]
 clear hwB b6 b8
 go_loopw [8] (fun i wr => ∃ k : Nat,k ≤ vs.length ∧ i = .int .i64 k ∧ Keeps [] wB wr ∧ (vs.take k).any (fun v => decide (v.stamp < st)) = false) (fun i _ => vs.length - (intOf i).toNat)
 case atStart => exact ⟨0,Nat.zero_le _,rfl,Keeps.refl _ _,by simp⟩
 case round =>
  obtain ⟨k,hk,rfl,hkr,ha⟩ := hrel
  have HA := Lib.hid ha
  clear ha
  by_cases hlt : k < vs.length
  ·
   obtain ⟨v,hv⟩ : ∃ v,vs[k]? = some v := ⟨_,List.getElem?_eq_getElem hlt⟩
   obtain ⟨g,off,rfl,c0,c1,c2,c3⟩ := vc_cell (HV.out.keeps (HB.out.1.trans hkr (by simp)) (by simp)) hv
   have q6 : wr.cell? ⟨w.heap.size,6,none⟩ = some (.int .i64 st) := keeps_cell0 hkr HB.out.2
   have k0 : (0 : Int) ≤ (k : Int) := by omega
   have k1 : (k : Int) < (vs.length : Int) := by omega
   have htk : vs.take (k + 1) = vs.take k ++ [v] := by rw [List.take_add_one,hv]; rfl
   have HT := Lib.hid htk
   have HK := Lib.hid hkr
   have hqa : Keeps [] wr (wr.alloc (.cells #[.int .i64 v.slot,.int .i64 v.gen,.int .i64 v.stamp,.int .i64 v.thread] 113)) := Sq.r.alloc _
   have q6' := keeps_cell0 hqa q6
   have HQ := Lib.hid hqa
   clear htk hkr hqa
   by_cases hs : v.stamp < st
   · have e1 : decide (v.stamp < st) = true := decide_eq_true hs
     have HX : Hid (vs.any (fun v => decide (v.stamp < st)) = true) := List.any_eq_true.2 ⟨v,List.mem_of_getElem? hv,e1⟩
     clear hv
     go_wp2_with fail
     try (go_quiet (fail); go_wp2_with fail)
     go_ret
     exact ⟨by rw [← HR.out,HX.out]; rfl,HB.out.1.trans (HK.out.trans HQ.out (by simp)) (by simp)⟩
   · have e1 : decide (v.stamp < st) = false := decide_eq_false hs
     clear hv
     go_wp2_with fail
     try (go_quiet (fail); go_wp2_with fail)
     first
      | exact ⟨⟨k + 1,by omega,by simp,HK.out.trans HQ.out (by simp),by rw [HT.out,List.any_append,HA.out]; simp [e1]⟩,by simp [intOf]; omega⟩
      | exact ⟨⟨k + 1,by omega,by simp,(HK.out.trans HQ.out (by simp)).drewN _,by rw [HT.out,List.any_append,HA.out]; simp [e1]⟩,by simp [intOf]; omega⟩
  ·
   have hge : ¬ ((k : Int) < (vs.length : Int)) := by omega
   have HX : Hid (vs.any (fun v => decide (v.stamp < st)) = false) := by
    have := HA.out
    rw [show k = vs.length by omega,List.take_length] at this
    exact this
   go_wp2_with fail
   go_ret
   exact ⟨by rw [← HR.out,HX.out]; rfl,HB.out.1.trans hkr (by simp)⟩
end Pol
open Go.RowKit Go.Maps
namespace Pol
set_option maxRecDepth 100000 in
set_option maxHeartbeats 4000000 in
theorem verdict_any (w : World) (c : Cf) (hc : c.ok) (st d : Int) (hd : 0 ≤ d) (A : Option Addr) (cap : Nat) (vs : List Vc) (hv : SlR w 113 4 (.slice A vs.length cap) vs.length (vcCells vs)) :
 Calls Tryz.prog 194 #[.agg #[.int .i64 c.cells,.int .i64 c.slots,.int .i64 c.bits,.int .i64 c.tag,.int .i64 c.bias,.int .i64 c.defer],.int .i64 st,.int .i64 d,.slice A vs.length cap] w fun e w' => e = .returned (.tuple #[.int .i64 (verdict c st d vs),.int .i64 0]) ∧ Keeps [] w w' := by
 have hk : Keeps [] w (w.alloc (.cells c.vals 23)) := by simp
 have hb : Blk (w.alloc (.cells c.vals 23)) w.heap.size 23 c.vals := Blk.new _ _ _
 obtain ⟨d0,d1,d2,d3,d4,d5⟩ := cf_cells hb
 have HK := Lib.hid hk
 have HB := Lib.hid hb
 have HV := Lib.hid hv
 clear hk hb hv
 unfold Cf.vals at d0 d1 d2 d3 d4 d5
 have HQ : Hid (∀ w : World,Calls Tryz.prog 39 #[.agg #[.int .i64 c.cells,.int .i64 c.slots,.int .i64 c.bits,.int .i64 c.tag,.int .i64 c.bias,.int .i64 c.defer]] w fun e w' => e = .returned (.int .i64 0) ∧ Keeps [] w w') := fun w => by
  have := sp_check w c
  rw [if_pos hc] at this
  exact this
 have hd0 : ¬ d < 0 := by omega
 have HVV : Hid (verdict c st d vs = if c.tag = 2 then (if (vs.length : Int) > c.bias ∧ d < c.defer then 2 else 1) else if c.tag = 3 then (if vs.any (fun v => decide (v.stamp < st)) then 3 else 1) else 1) := rfl
 obtain ⟨vv,hvv⟩ : ∃ q,verdict c st d vs = q := ⟨_,rfl⟩
 rw [hvv] at HVV ⊢
 clear hvv
 have ht := hc.2.2.2.1
 clear hc
 go_enter Tryz.func194,Tryz.ntmps194
 go_wp2_with fail
 refine (HQ.out _).mono ?_
 rintro e w2 ⟨rfl,hk1⟩
 have HK2 := Lib.hid (HK.out.trans hk1 (by simp))
 have HB2 := Lib.hid (HB.out.keeps hk1 (by simp))
 clear hk1 HQ d0 d1 d2 d3 d4 d5 HK HB
 have HC := Lib.hid (show ∀ w',Keeps [] w2 w' → w'.cell? ⟨w.heap.size,0,none⟩ = some (.int .i64 c.cells) ∧ w'.cell? ⟨w.heap.size,1,none⟩ = some (.int .i64 c.slots) ∧ w'.cell? ⟨w.heap.size,2,none⟩ = some (.int .i64 c.bits) ∧ w'.cell? ⟨w.heap.size,3,none⟩ = some (.int .i64 c.tag) ∧ w'.cell? ⟨w.heap.size,4,none⟩ = some (.int .i64 c.bias) ∧ w'.cell? ⟨w.heap.size,5,none⟩ = some (.int .i64 c.defer) from fun w' hk => cf_cells (HB2.out.keeps hk (by simp)))
 have hkB : Keeps [] w2 w2 := Keeps.refl _ _
 go_wp2_with fail
 by_cases t1 : c.tag = 1
 ·
  rw [if_neg (by omega),if_neg (by omega)] at HVV
  have HC : Hid (∀ w',Keeps [] w2 w' → w'.cell? ⟨w.heap.size,0,none⟩ = some (.int .i64 c.cells) ∧ w'.cell? ⟨w.heap.size,1,none⟩ = some (.int .i64 c.slots) ∧ w'.cell? ⟨w.heap.size,2,none⟩ = some (.int .i64 c.bits) ∧ w'.cell? ⟨w.heap.size,3,none⟩ = some (.int .i64 1) ∧ w'.cell? ⟨w.heap.size,4,none⟩ = some (.int .i64 c.bias) ∧ w'.cell? ⟨w.heap.size,5,none⟩ = some (.int .i64 c.defer)) := fun w' hk => by
   have := HC.out w' hk
   rw [t1] at this
   exact this
  have HR : Hid (∀ w',Keeps [] w2 w' → Calls Tryz.prog 196 #[.agg #[.int .i64 c.cells,.int .i64 c.slots,.int .i64 c.bits,.int .i64 1,.int .i64 c.bias,.int .i64 c.defer,.int .i64 st,.int .i64 d,.slice A vs.length cap]] w' fun e w'' => e = .returned (.int .i64 vv) ∧ Keeps [] w' w'') := fun w' hk => by
   have := rule1 w' #[.int .i64 c.cells,.int .i64 c.slots,.int .i64 c.bits,.int .i64 1,.int .i64 c.bias,.int .i64 c.defer,.int .i64 st,.int .i64 d,.slice A vs.length cap]
   rw [HVV.out]
   exact this
  refine wp_region_noPanic ?_
  refine wp_region_L 99 (fun w' => w'.cell? ⟨w.heap.size,0,none⟩ = some (.int .i64 c.cells) ∧ w'.cell? ⟨w.heap.size,1,none⟩ = some (.int .i64 c.slots) ∧ w'.cell? ⟨w.heap.size,2,none⟩ = some (.int .i64 c.bits) ∧ w'.cell? ⟨w.heap.size,3,none⟩ = some (.int .i64 1) ∧ w'.cell? ⟨w.heap.size,4,none⟩ = some (.int .i64 c.bias) ∧ w'.cell? ⟨w.heap.size,5,none⟩ = some (.int .i64 c.defer)) (by kernel_rfl) ?_
  have hHeld := HC.out _ hkB.drew
  refine Sq.kT (i := 1) (v := ?rva1) rfl ?rya1 hHeld ?rra1
  case rya1 => (intro w' hSw; (try dsimp only at hSw); go_simp; first | done | with_reducible rfl)
  try simp only [Act.put,Sq.t,Sq.z,Sq.s]
  refine Sq.kT (i := 2) (v := ?rva2) rfl ?rya2 hHeld ?rra2
  case rya2 => (intro w' hSw; (try dsimp only at hSw); go_simp; first | done | with_reducible rfl)
  try simp only [Act.put,Sq.t,Sq.z,Sq.s]
  refine Sq.kT (i := 4) (v := ?rva4) rfl ?rya4 hHeld ?rra4
  case rya4 => (intro w' hSw; (try dsimp only at hSw); go_simp; first | done | with_reducible rfl)
  try simp only [Act.put,Sq.t,Sq.z,Sq.s]
  refine Sq.kT (i := 5) (v := ?rva5) rfl ?rya5 hHeld ?rra5
  case rya5 => (intro w' hSw; (try dsimp only at hSw); go_simp; first | done | with_reducible rfl)
  try simp only [Act.put,Sq.t,Sq.z,Sq.s]
  refine Sq.kT (i := 6) (v := ?rva6) rfl ?rya6 hHeld ?rra6
  case rya6 => (intro w' hSw; (try dsimp only at hSw); go_simp; first | done | with_reducible rfl)
  try simp only [Act.put,Sq.t,Sq.z,Sq.s]
  refine Sq.kT (i := 7) (v := ?rva7) rfl ?rya7 hHeld ?rra7
  case rya7 => (intro w' hSw; (try dsimp only at hSw); go_simp; first | done | with_reducible rfl)
  try simp only [Act.put,Sq.t,Sq.z,Sq.s]
  refine Sq.kT (i := 8) (v := ?rva8) rfl ?rya8 hHeld ?rra8
  case rya8 => (intro w' hSw; (try dsimp only at hSw); go_simp; first | done | with_reducible rfl)
  try simp only [Act.put,Sq.t,Sq.z,Sq.s]
  refine Sq.oT (i := 0) rfl fun K hK => ?_
  go_simp
  go_at_call 195
  refine (rules_any _).mono ?_
  rintro e w3 ⟨mb,rfl,hrl,hk3⟩
  obtain ⟨l1,l2,l3⟩ := hrl.look
  have hS3 : w3.cell? ⟨w.heap.size,0,none⟩ = some (.int .i64 c.cells) ∧ w3.cell? ⟨w.heap.size,1,none⟩ = some (.int .i64 c.slots) ∧ w3.cell? ⟨w.heap.size,2,none⟩ = some (.int .i64 c.bits) ∧ w3.cell? ⟨w.heap.size,3,none⟩ = some (.int .i64 1) ∧ w3.cell? ⟨w.heap.size,4,none⟩ = some (.int .i64 c.bias) ∧ w3.cell? ⟨w.heap.size,5,none⟩ = some (.int .i64 c.defer) := HC.out _ (hkB.drew.trans hk3 (by simp))
  have HK3 := Lib.hid hk3
  go_simp
  refine hK.out _ _ (fun _ => hS3) ?_
  clear hK K
  try simp only [Act.put,Sq.t,Sq.z,Sq.s]
  replace hHeld := hS3
  refine Sq.oT (i := 3) rfl fun K hK => ?_
  go_simp
  refine hK.out _ _ (fun _ => hHeld) ?_
  clear hK K
  try simp only [Act.put,Sq.t,Sq.z,Sq.s]
  refine Sq.oT (i := 9) rfl fun K hK => ?_
  go_simp
  go_at_call 196
  refine (HR.out _ (hkB.drew.trans HK3.out (by simp))).mono ?_
  rintro e w4 ⟨rfl,hk4⟩
  have hS4 : w4.cell? ⟨w.heap.size,0,none⟩ = some (.int .i64 c.cells) ∧ w4.cell? ⟨w.heap.size,1,none⟩ = some (.int .i64 c.slots) ∧ w4.cell? ⟨w.heap.size,2,none⟩ = some (.int .i64 c.bits) ∧ w4.cell? ⟨w.heap.size,3,none⟩ = some (.int .i64 1) ∧ w4.cell? ⟨w.heap.size,4,none⟩ = some (.int .i64 c.bias) ∧ w4.cell? ⟨w.heap.size,5,none⟩ = some (.int .i64 c.defer) := HC.out _ ((hkB.drew.trans HK3.out (by simp)).trans hk4 (by simp))
  go_simp
  refine hK.out _ _ (fun _ => hS4) ?_
  clear hK K
  try simp only [Act.put,Sq.t,Sq.z,Sq.s]
  replace hHeld := hS4
  refine Sq.kT (i := 10) (v := ?rva10) rfl ?rya10 hHeld ?rra10
  case rya10 => (intro w' hSw; (try dsimp only at hSw); go_simp; first | done | with_reducible rfl)
  try simp only [Act.put,Sq.t,Sq.z,Sq.s]
  refine Sq.kT (i := 11) (v := ?rva11) rfl ?rya11 hHeld ?rra11
  case rya11 => (intro w' hSw; (try dsimp only at hSw); go_simp; first | done | with_reducible rfl)
  try simp only [Act.put,Sq.t,Sq.z,Sq.s]
  refine wpAnyL_done (by kernel_rfl) ?_ _
  refine NoPanic.normal ?_
  go_wp2_with fail
  go_ret2
  exact ⟨rfl,HK2.out.trans ((hkB.drew.trans HK3.out (by simp)).trans hk4 (by simp)) (by simp)⟩
 by_cases t2 : c.tag = 2
 ·
  rw [if_pos t2] at HVV
  have HC : Hid (∀ w',Keeps [] w2 w' → w'.cell? ⟨w.heap.size,0,none⟩ = some (.int .i64 c.cells) ∧ w'.cell? ⟨w.heap.size,1,none⟩ = some (.int .i64 c.slots) ∧ w'.cell? ⟨w.heap.size,2,none⟩ = some (.int .i64 c.bits) ∧ w'.cell? ⟨w.heap.size,3,none⟩ = some (.int .i64 2) ∧ w'.cell? ⟨w.heap.size,4,none⟩ = some (.int .i64 c.bias) ∧ w'.cell? ⟨w.heap.size,5,none⟩ = some (.int .i64 c.defer)) := fun w' hk => by
   have := HC.out w' hk
   rw [t2] at this
   exact this
  have HR : Hid (∀ w',Keeps [] w2 w' → Calls Tryz.prog 197 #[.agg #[.int .i64 c.cells,.int .i64 c.slots,.int .i64 c.bits,.int .i64 2,.int .i64 c.bias,.int .i64 c.defer,.int .i64 st,.int .i64 d,.slice A vs.length cap]] w' fun e w'' => e = .returned (.int .i64 vv) ∧ Keeps [] w' w'') := fun w' hk => by
   have := rule2 w' c st d A vs.length cap
   rw [t2,← HVV.out] at this
   exact this
  refine wp_region_noPanic ?_
  refine wp_region_L 99 (fun w' => w'.cell? ⟨w.heap.size,0,none⟩ = some (.int .i64 c.cells) ∧ w'.cell? ⟨w.heap.size,1,none⟩ = some (.int .i64 c.slots) ∧ w'.cell? ⟨w.heap.size,2,none⟩ = some (.int .i64 c.bits) ∧ w'.cell? ⟨w.heap.size,3,none⟩ = some (.int .i64 2) ∧ w'.cell? ⟨w.heap.size,4,none⟩ = some (.int .i64 c.bias) ∧ w'.cell? ⟨w.heap.size,5,none⟩ = some (.int .i64 c.defer)) (by kernel_rfl) ?_
  have hHeld := HC.out _ hkB.drew
  refine Sq.kT (i := 1) (v := ?rvb1) rfl ?ryb1 hHeld ?rrb1
  case ryb1 => (intro w' hSw; (try dsimp only at hSw); go_simp; first | done | with_reducible rfl)
  try simp only [Act.put,Sq.t,Sq.z,Sq.s]
  refine Sq.kT (i := 2) (v := ?rvb2) rfl ?ryb2 hHeld ?rrb2
  case ryb2 => (intro w' hSw; (try dsimp only at hSw); go_simp; first | done | with_reducible rfl)
  try simp only [Act.put,Sq.t,Sq.z,Sq.s]
  refine Sq.kT (i := 4) (v := ?rvb4) rfl ?ryb4 hHeld ?rrb4
  case ryb4 => (intro w' hSw; (try dsimp only at hSw); go_simp; first | done | with_reducible rfl)
  try simp only [Act.put,Sq.t,Sq.z,Sq.s]
  refine Sq.kT (i := 5) (v := ?rvb5) rfl ?ryb5 hHeld ?rrb5
  case ryb5 => (intro w' hSw; (try dsimp only at hSw); go_simp; first | done | with_reducible rfl)
  try simp only [Act.put,Sq.t,Sq.z,Sq.s]
  refine Sq.kT (i := 6) (v := ?rvb6) rfl ?ryb6 hHeld ?rrb6
  case ryb6 => (intro w' hSw; (try dsimp only at hSw); go_simp; first | done | with_reducible rfl)
  try simp only [Act.put,Sq.t,Sq.z,Sq.s]
  refine Sq.kT (i := 7) (v := ?rvb7) rfl ?ryb7 hHeld ?rrb7
  case ryb7 => (intro w' hSw; (try dsimp only at hSw); go_simp; first | done | with_reducible rfl)
  try simp only [Act.put,Sq.t,Sq.z,Sq.s]
  refine Sq.kT (i := 8) (v := ?rvb8) rfl ?ryb8 hHeld ?rrb8
  case ryb8 => (intro w' hSw; (try dsimp only at hSw); go_simp; first | done | with_reducible rfl)
  try simp only [Act.put,Sq.t,Sq.z,Sq.s]
  refine Sq.oT (i := 0) rfl fun K hK => ?_
  go_simp
  go_at_call 195
  refine (rules_any _).mono ?_
  rintro e w3 ⟨mb,rfl,hrl,hk3⟩
  obtain ⟨l1,l2,l3⟩ := hrl.look
  have hS3 : w3.cell? ⟨w.heap.size,0,none⟩ = some (.int .i64 c.cells) ∧ w3.cell? ⟨w.heap.size,1,none⟩ = some (.int .i64 c.slots) ∧ w3.cell? ⟨w.heap.size,2,none⟩ = some (.int .i64 c.bits) ∧ w3.cell? ⟨w.heap.size,3,none⟩ = some (.int .i64 2) ∧ w3.cell? ⟨w.heap.size,4,none⟩ = some (.int .i64 c.bias) ∧ w3.cell? ⟨w.heap.size,5,none⟩ = some (.int .i64 c.defer) := HC.out _ (hkB.drew.trans hk3 (by simp))
  have HK3 := Lib.hid hk3
  go_simp
  refine hK.out _ _ (fun _ => hS3) ?_
  clear hK K
  try simp only [Act.put,Sq.t,Sq.z,Sq.s]
  replace hHeld := hS3
  refine Sq.oT (i := 3) rfl fun K hK => ?_
  go_simp
  refine hK.out _ _ (fun _ => hHeld) ?_
  clear hK K
  try simp only [Act.put,Sq.t,Sq.z,Sq.s]
  refine Sq.oT (i := 9) rfl fun K hK => ?_
  go_simp
  go_at_call 197
  refine (HR.out _ (hkB.drew.trans HK3.out (by simp))).mono ?_
  rintro e w4 ⟨rfl,hk4⟩
  have hS4 : w4.cell? ⟨w.heap.size,0,none⟩ = some (.int .i64 c.cells) ∧ w4.cell? ⟨w.heap.size,1,none⟩ = some (.int .i64 c.slots) ∧ w4.cell? ⟨w.heap.size,2,none⟩ = some (.int .i64 c.bits) ∧ w4.cell? ⟨w.heap.size,3,none⟩ = some (.int .i64 2) ∧ w4.cell? ⟨w.heap.size,4,none⟩ = some (.int .i64 c.bias) ∧ w4.cell? ⟨w.heap.size,5,none⟩ = some (.int .i64 c.defer) := HC.out _ ((hkB.drew.trans HK3.out (by simp)).trans hk4 (by simp))
  go_simp
  refine hK.out _ _ (fun _ => hS4) ?_
  clear hK K
  try simp only [Act.put,Sq.t,Sq.z,Sq.s]
  replace hHeld := hS4
  refine Sq.kT (i := 10) (v := ?rvb10) rfl ?ryb10 hHeld ?rrb10
  case ryb10 => (intro w' hSw; (try dsimp only at hSw); go_simp; first | done | with_reducible rfl)
  try simp only [Act.put,Sq.t,Sq.z,Sq.s]
  refine Sq.kT (i := 11) (v := ?rvb11) rfl ?ryb11 hHeld ?rrb11
  case ryb11 => (intro w' hSw; (try dsimp only at hSw); go_simp; first | done | with_reducible rfl)
  try simp only [Act.put,Sq.t,Sq.z,Sq.s]
  refine wpAnyL_done (by kernel_rfl) ?_ _
  refine NoPanic.normal ?_
  go_wp2_with fail
  go_ret2
  exact ⟨rfl,HK2.out.trans ((hkB.drew.trans HK3.out (by simp)).trans hk4 (by simp)) (by simp)⟩
 ·
  have t3 : c.tag = 3 := by omega
  rw [if_neg t2,if_pos t3] at HVV
  have HC : Hid (∀ w',Keeps [] w2 w' → w'.cell? ⟨w.heap.size,0,none⟩ = some (.int .i64 c.cells) ∧ w'.cell? ⟨w.heap.size,1,none⟩ = some (.int .i64 c.slots) ∧ w'.cell? ⟨w.heap.size,2,none⟩ = some (.int .i64 c.bits) ∧ w'.cell? ⟨w.heap.size,3,none⟩ = some (.int .i64 3) ∧ w'.cell? ⟨w.heap.size,4,none⟩ = some (.int .i64 c.bias) ∧ w'.cell? ⟨w.heap.size,5,none⟩ = some (.int .i64 c.defer)) := fun w' hk => by
   have := HC.out w' hk
   rw [t3] at this
   exact this
  have HR : Hid (∀ w',Keeps [] w2 w' → Calls Tryz.prog 198 #[.agg #[.int .i64 c.cells,.int .i64 c.slots,.int .i64 c.bits,.int .i64 3,.int .i64 c.bias,.int .i64 c.defer,.int .i64 st,.int .i64 d,.slice A vs.length cap]] w' fun e w'' => e = .returned (.int .i64 vv) ∧ Keeps [] w' w'') := fun w' hk => by
   have := rule3 w' c st d A cap vs (HV.out.keeps (HK2.out.trans hk (by simp)) (by simp))
   rw [t3,← HVV.out] at this
   exact this
  refine wp_region_noPanic ?_
  refine wp_region_L 99 (fun w' => w'.cell? ⟨w.heap.size,0,none⟩ = some (.int .i64 c.cells) ∧ w'.cell? ⟨w.heap.size,1,none⟩ = some (.int .i64 c.slots) ∧ w'.cell? ⟨w.heap.size,2,none⟩ = some (.int .i64 c.bits) ∧ w'.cell? ⟨w.heap.size,3,none⟩ = some (.int .i64 3) ∧ w'.cell? ⟨w.heap.size,4,none⟩ = some (.int .i64 c.bias) ∧ w'.cell? ⟨w.heap.size,5,none⟩ = some (.int .i64 c.defer)) (by kernel_rfl) ?_
  have hHeld := HC.out _ hkB.drew
  refine Sq.kT (i := 1) (v := ?rvc1) rfl ?ryc1 hHeld ?rrc1
  case ryc1 => (intro w' hSw; (try dsimp only at hSw); go_simp; first | done | with_reducible rfl)
  try simp only [Act.put,Sq.t,Sq.z,Sq.s]
  refine Sq.kT (i := 2) (v := ?rvc2) rfl ?ryc2 hHeld ?rrc2
  case ryc2 => (intro w' hSw; (try dsimp only at hSw); go_simp; first | done | with_reducible rfl)
  try simp only [Act.put,Sq.t,Sq.z,Sq.s]
  refine Sq.kT (i := 4) (v := ?rvc4) rfl ?ryc4 hHeld ?rrc4
  case ryc4 => (intro w' hSw; (try dsimp only at hSw); go_simp; first | done | with_reducible rfl)
  try simp only [Act.put,Sq.t,Sq.z,Sq.s]
  refine Sq.kT (i := 5) (v := ?rvc5) rfl ?ryc5 hHeld ?rrc5
  case ryc5 => (intro w' hSw; (try dsimp only at hSw); go_simp; first | done | with_reducible rfl)
  try simp only [Act.put,Sq.t,Sq.z,Sq.s]
  refine Sq.kT (i := 6) (v := ?rvc6) rfl ?ryc6 hHeld ?rrc6
  case ryc6 => (intro w' hSw; (try dsimp only at hSw); go_simp; first | done | with_reducible rfl)
  try simp only [Act.put,Sq.t,Sq.z,Sq.s]
  refine Sq.kT (i := 7) (v := ?rvc7) rfl ?ryc7 hHeld ?rrc7
  case ryc7 => (intro w' hSw; (try dsimp only at hSw); go_simp; first | done | with_reducible rfl)
  try simp only [Act.put,Sq.t,Sq.z,Sq.s]
  refine Sq.kT (i := 8) (v := ?rvc8) rfl ?ryc8 hHeld ?rrc8
  case ryc8 => (intro w' hSw; (try dsimp only at hSw); go_simp; first | done | with_reducible rfl)
  try simp only [Act.put,Sq.t,Sq.z,Sq.s]
  refine Sq.oT (i := 0) rfl fun K hK => ?_
  go_simp
  go_at_call 195
  refine (rules_any _).mono ?_
  rintro e w3 ⟨mb,rfl,hrl,hk3⟩
  obtain ⟨l1,l2,l3⟩ := hrl.look
  have hS3 : w3.cell? ⟨w.heap.size,0,none⟩ = some (.int .i64 c.cells) ∧ w3.cell? ⟨w.heap.size,1,none⟩ = some (.int .i64 c.slots) ∧ w3.cell? ⟨w.heap.size,2,none⟩ = some (.int .i64 c.bits) ∧ w3.cell? ⟨w.heap.size,3,none⟩ = some (.int .i64 3) ∧ w3.cell? ⟨w.heap.size,4,none⟩ = some (.int .i64 c.bias) ∧ w3.cell? ⟨w.heap.size,5,none⟩ = some (.int .i64 c.defer) := HC.out _ (hkB.drew.trans hk3 (by simp))
  have HK3 := Lib.hid hk3
  go_simp
  refine hK.out _ _ (fun _ => hS3) ?_
  clear hK K
  try simp only [Act.put,Sq.t,Sq.z,Sq.s]
  replace hHeld := hS3
  refine Sq.oT (i := 3) rfl fun K hK => ?_
  go_simp
  refine hK.out _ _ (fun _ => hHeld) ?_
  clear hK K
  try simp only [Act.put,Sq.t,Sq.z,Sq.s]
  refine Sq.oT (i := 9) rfl fun K hK => ?_
  go_simp
  go_at_call 198
  refine (HR.out _ (hkB.drew.trans HK3.out (by simp))).mono ?_
  rintro e w4 ⟨rfl,hk4⟩
  have hS4 : w4.cell? ⟨w.heap.size,0,none⟩ = some (.int .i64 c.cells) ∧ w4.cell? ⟨w.heap.size,1,none⟩ = some (.int .i64 c.slots) ∧ w4.cell? ⟨w.heap.size,2,none⟩ = some (.int .i64 c.bits) ∧ w4.cell? ⟨w.heap.size,3,none⟩ = some (.int .i64 3) ∧ w4.cell? ⟨w.heap.size,4,none⟩ = some (.int .i64 c.bias) ∧ w4.cell? ⟨w.heap.size,5,none⟩ = some (.int .i64 c.defer) := HC.out _ ((hkB.drew.trans HK3.out (by simp)).trans hk4 (by simp))
  go_simp
  refine hK.out _ _ (fun _ => hS4) ?_
  clear hK K
  try simp only [Act.put,Sq.t,Sq.z,Sq.s]
  replace hHeld := hS4
  refine Sq.kT (i := 10) (v := ?rvc10) rfl ?ryc10 hHeld ?rrc10
  case ryc10 => (intro w' hSw; (try dsimp only at hSw); go_simp; first | done | with_reducible rfl)
  try simp only [Act.put,Sq.t,Sq.z,Sq.s]
  refine Sq.kT (i := 11) (v := ?rvc11) rfl ?ryc11 hHeld ?rrc11
  case ryc11 => (intro w' hSw; (try dsimp only at hSw); go_simp; first | done | with_reducible rfl)
  try simp only [Act.put,Sq.t,Sq.z,Sq.s]
  refine wpAnyL_done (by kernel_rfl) ?_ _
  refine NoPanic.normal ?_
  go_wp2_with fail
  go_ret2
  exact ⟨rfl,HK2.out.trans ((hkB.drew.trans HK3.out (by simp)).trans hk4 (by simp)) (by simp)⟩
def JAt (w : World) (b : Nat) (c : Cf) (d : Int) : Prop := Blk w b 157 #[.int .i64 c.cells,.int .i64 c.slots,.int .i64 c.bits,.int .i64 c.tag,.int .i64 c.bias,.int .i64 c.defer,.int .i64 d]
theorem JAt.cells {w : World} {b : Nat} {c : Cf} {d : Int} (h : JAt w b c d) : w.cell? ⟨b,0,none⟩ = some (.int .i64 c.cells) ∧ w.cell? ⟨b,1,none⟩ = some (.int .i64 c.slots) ∧ w.cell? ⟨b,2,none⟩ = some (.int .i64 c.bits) ∧ w.cell? ⟨b,3,none⟩ = some (.int .i64 c.tag) ∧ w.cell? ⟨b,4,none⟩ = some (.int .i64 c.bias) ∧ w.cell? ⟨b,5,none⟩ = some (.int .i64 c.defer) ∧ w.cell? ⟨b,6,none⟩ = some (.int .i64 d) :=
 ⟨(Blk.cell h 0).trans rfl,(Blk.cell h 1).trans rfl,(Blk.cell h 2).trans rfl,(Blk.cell h 3).trans rfl,(Blk.cell h 4).trans rfl,(Blk.cell h 5).trans rfl,(Blk.cell h 6).trans rfl⟩
theorem judge_new (w : World) (c : Cf) (h : c.ok) : Calls Tryz.prog 12 #[.agg #[.int .i64 c.cells,.int .i64 c.slots,.int .i64 c.bits,.int .i64 c.tag,.int .i64 c.bias,.int .i64 c.defer]] w fun e w' => ∃ b,e = .returned (.tuple #[PT b,.int .i64 0]) ∧ JAt w' b c 0 ∧ w.heap.size ≤ b ∧ Keeps [] w w' := by
 have hk : Keeps [] w (w.alloc (.cells c.vals 23)) := by simp
 have hb : Blk (w.alloc (.cells c.vals 23)) w.heap.size 23 c.vals := Blk.new _ _ _
 obtain ⟨d0,d1,d2,d3,d4,d5⟩ := cf_cells hb
 have HK := Lib.hid hk
 have HB := Lib.hid hb
 clear hk hb
 unfold Cf.vals at d0 d1 d2 d3 d4 d5
 have HQ : Hid (∀ w : World,Calls Tryz.prog 39 #[.agg #[.int .i64 c.cells,.int .i64 c.slots,.int .i64 c.bits,.int .i64 c.tag,.int .i64 c.bias,.int .i64 c.defer]] w fun e w' => e = .returned (.int .i64 0) ∧ Keeps [] w w') := fun w => by
  have := sp_check w c
  rw [if_pos h] at this
  exact this
 go_enter Tryz.func12,Tryz.ntmps12
 go_wp2_with fail
 refine (HQ.out _).mono ?_
 rintro e w1 ⟨rfl,hk1⟩
 have HK1 := Lib.hid (HK.out.trans hk1 (by simp))
 have HB1 := Lib.hid (HB.out.keeps hk1 (by simp))
 clear hk1 HQ d0 d1 d2 d3 d4 d5
 obtain ⟨d0,d1,d2,d3,d4,d5⟩ := cf_cells HB1.out
 go_wp2_with fail
 go_ret2
 exact ⟨w1.heap.size,rfl,Blk.new _ _ _,HK1.out.size,HK1.out.alloc _⟩
def decided (c : Cf) (st d : Int) (vs : List Vc) : Int := if verdict c st d vs = 2 then d + 1 else d
set_option maxRecDepth 100000 in
set_option maxHeartbeats 4000000 in
theorem judge_decide (w : World) (b : Nat) (c : Cf) (hc : c.ok) (st d : Int) (hd : 0 ≤ d) (hd2 : d < 4611686018427387904) (hj : JAt w b c d) (A : Option Addr) (cap : Nat) (vs : List Vc) (hv : SlR w 113 4 (.slice A vs.length cap) vs.length (vcCells vs)) :
 Calls Tryz.prog 192 #[PT b,.int .i64 st,.slice A vs.length cap] w fun e w' => e = .returned (.int .i64 (verdict c st d vs)) ∧ JAt w' b c (decided c st d vs) ∧ Keeps [b] w w' := by
 have HJ := Lib.hid hj
 have hwr : IntKind.i64.wrap (d + 1) = d + 1 := by rw [IntKind.wrap_i64]; omega
 have QV : Hid (∀ w',Keeps [] w w' → Calls Tryz.prog 194 #[.agg #[.int .i64 c.cells,.int .i64 c.slots,.int .i64 c.bits,.int .i64 c.tag,.int .i64 c.bias,.int .i64 c.defer],.int .i64 st,.int .i64 d,.slice A vs.length cap] w' fun e w'' => e = .returned (.tuple #[.int .i64 (verdict c st d vs),.int .i64 0]) ∧ Keeps [] w w'') := fun w' hk => (verdict_any w' c hc st d hd A cap vs (hv.keeps hk (by simp))).mono fun e w'' ⟨he,h2⟩ => ⟨he,hk.trans h2 (by simp)⟩
 unfold decided
 obtain ⟨vv,hvv⟩ : ∃ q,verdict c st d vs = q := ⟨_,rfl⟩
 obtain ⟨dd,hdd⟩ : ∃ q,(if vv = 2 then d + 1 else d) = q := ⟨_,rfl⟩
 rw [hvv] at QV ⊢
 rw [hdd]
 have HDD := Lib.hid hdd
 have HC := Lib.hid (show ∀ w',Keeps [] w w' → w'.cell? ⟨b,0,none⟩ = some (.int .i64 c.cells) ∧ w'.cell? ⟨b,1,none⟩ = some (.int .i64 c.slots) ∧ w'.cell? ⟨b,2,none⟩ = some (.int .i64 c.bits) ∧ w'.cell? ⟨b,3,none⟩ = some (.int .i64 c.tag) ∧ w'.cell? ⟨b,4,none⟩ = some (.int .i64 c.bias) ∧ w'.cell? ⟨b,5,none⟩ = some (.int .i64 c.defer) ∧ w'.cell? ⟨b,6,none⟩ = some (.int .i64 d) from fun w' hk => JAt.cells (Blk.keeps hj hk (by simp)))
 have hkB : Keeps [] w w := Keeps.refl _ _
 clear hvv hj hv hc hdd
 go_enter Tryz.func192,Tryz.ntmps192
 go_wp2_with fail
 go_region_held3 (fun w' => w'.cell? ⟨b,0,none⟩ = some (.int .i64 c.cells) ∧ w'.cell? ⟨b,1,none⟩ = some (.int .i64 c.slots) ∧ w'.cell? ⟨b,2,none⟩ = some (.int .i64 c.bits) ∧ w'.cell? ⟨b,3,none⟩ = some (.int .i64 c.tag) ∧ w'.cell? ⟨b,4,none⟩ = some (.int .i64 c.bias) ∧ w'.cell? ⟨b,5,none⟩ = some (.int .i64 c.defer) ∧ w'.cell? ⟨b,6,none⟩ = some (.int .i64 d)) (first | with_reducible exact HC.out _ Sq.kp | go_keep) ((go_at_call 194; (with_reducible refine (QV.out _ Sq.kp).mono ?_); rintro e wv ⟨rfl,hkv⟩))
 all_goals
  have hjv : JAt wv b c d := Blk.keeps HJ.out hkv (by simp)
  have c6 : wv.cell? ⟨b,6,none⟩ = some (.int .i64 d) := (Blk.cell hjv 6).trans rfl
  have f6 := Blk.frozen hjv 6
  by_cases e2 : vv = 2
  ·
   have hdd : d + 1 = dd := by rw [← HDD.out,if_pos e2]
   subst e2
   subst hdd
   go_wp2_with fail
   go_ret
   refine ⟨rfl,?_,(hkv.mono (by simp)).setCell (.inl (by simp)) _⟩
   have := Blk.set_ hjv 6 (.int .i64 (d + 1))
   simpa [JAt] using this
  · have n2 : (vv == 2) = false := by simp [e2]
    have hdd : d = dd := by rw [← HDD.out,if_neg e2]
    subst hdd
    go_wp2_with fail
    go_ret
    exact ⟨rfl,hjv,hkv.mono (by simp)⟩
theorem judge_defers {w : World} {b : Nat} {c : Cf} {d : Int} (h : JAt w b c d) : Calls Tryz.prog 20 #[PT b] w fun e w' => e = .returned (.int .i64 d) ∧ w = w' := by
 have c6 : w.cell? ⟨b,6,none⟩ = some (.int .i64 d) := (Blk.cell h 6).trans rfl
 clear h
 go_enter Tryz.func20,Tryz.ntmps20
 go_wp2
 go_ret
 exact ⟨rfl,rfl⟩
end Pol
end Go.Proofs.YtmlnedilbneekaaGreat