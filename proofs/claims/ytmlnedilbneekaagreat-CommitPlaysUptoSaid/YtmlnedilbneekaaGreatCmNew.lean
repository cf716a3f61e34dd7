/- Layer 13: a commit is made. -/
import Derived.Test.YtmlnedilbneekaaGreatCmWrite
import Derived.Maps.OwnOps
import Derived.Maps.OwnSet
import Derived.Maps.Views
import Derived.Test.YtmlnedilbneekaaGreatSlR
import Derived.Test.YtmlnedilbneekaaGreatSigTouched
import Derived.Test.YtmlnedilbneekaaGreatMake
set_option linter.unusedVariables false
set_option linter.unusedSimpArgs false
namespace Go.Proofs.YtmlnedilbneekaaGreat
open Go.RowKit Go.Maps
def mayE (c : Cf) (sl th st : Int) (ws : List Pr) : Int :=
 if th < 1 ∨ 8 < th ∨ st < 1 ∨ ws.length = 0 then 1 else if 16 < ws.length then 3 else if sl < 0 ∨ c.slots ≤ sl then 2
 else if ∃ p ∈ ws,p.cell < 0 ∨ c.cells ≤ p.cell then 2 else if ¬ (ws.map Pr.cell).Nodup then 1 else 0
theorem mayE_len {c : Cf} {sl th st : Int} {ws : List Pr} (h : mayE c sl th st ws = 0) : 1 ≤ ws.length ∧ ws.length ≤ 16 := by
 unfold mayE at h
 split at h
 · cases h
 ·
  rename_i h1
  split at h
  · cases h
  · refine ⟨?_,by omega⟩
    rcases Nat.eq_zero_or_pos ws.length with e | e
    · exact absurd (.inr (.inr (.inr e))) h1
    · exact e
theorem mayE_rng {c : Cf} {sl th st : Int} {ws : List Pr} (h : mayE c sl th st ws = 0) : 1 ≤ th ∧ th ≤ 8 ∧ 0 ≤ sl ∧ sl < c.slots := by
 unfold mayE at h
 split at h
 · cases h
 ·
  rename_i h1
  split at h
  · cases h
  ·
   split at h
   · cases h
   · rename_i h3
     refine ⟨?_,?_,?_,?_⟩
     · exact Int.not_lt.1 (fun e => h1 (.inl e))
     · exact Int.not_lt.1 (fun e => h1 (.inr (.inl e)))
     · exact Int.not_lt.1 (fun e => h3 (.inl e))
     · exact Int.not_le.1 (fun e => h3 (.inr e))
theorem slr_src {w : World} {A : Option Addr} {n cap size : Nat} {t : TypeId} {xs : List Value} (h : SlR w t size (.slice A n cap) n xs) : 0 < n → ∃ ad,A = some ad ∧ ∀ j u,xs[j]? = some u → w.cell? (ad.add j) = some u := fun h0 => by
 obtain ⟨g,off,c,e,_,_,hc⟩ := h.spot_pos h0
 injection e with e1 _ _
 exact ⟨_,e1,fun j u hu => by
  have := hc j u hu
  simp only [Addr.add]
  by_cases h : j = 0
  · subst h; simpa using this
  · simpa [h] using this⟩
structure Had (D : DataW Unit) (l : List Int) : Prop where
 mem : ∀ v,has D (.int .i64 v) = decide (v ∈ l)
 le : Maps.size D ≤ l.length
 eq : Maps.size D = l.length ↔ l.Nodup
theorem Had.nil : Had (.map []) [] := ⟨fun v => by simp [has],by simp [Maps.size],by simp [Maps.size]⟩
theorem Had.step {D : DataW Unit} {l : List Int} (h : Had D l) (hT : Tidy D) (hm : IsMap D) (y : Int) (d : DataW Unit) : Had (D.put (.int .i64 y) d) (l ++ [y]) := by
 have hs := size_put (k := .int .i64 y) hT d
 have hy := h.mem y
 have h1 := h.le
 refine ⟨fun v => ?_,?_,?_⟩
 · by_cases hv : v = y
   · subst hv
     rw [has_put_same hm (by simp [WideAt.IsKeyLit]) d]
     simp
   · rw [has_put_other (by intro e; injection e with _ e; exact hv e) d,h.mem v]
     simp [hv]
 · rw [hs]
   split <;> simp <;> omega
 ·
  rw [hs,hy]
  by_cases hm : y ∈ l
  · rw [if_pos (by simp [hm])]
    constructor
    · intro e; simp at e; omega
    · intro e
      rw [List.nodup_append] at e
      exact absurd rfl (e.2.2 y hm y (by simp))
  ·
   rw [if_neg (by simp [hm])]
   have e1 : (l ++ [y]).Nodup ↔ l.Nodup := by
    rw [List.nodup_append]
    constructor
    · exact fun e => e.1
    · exact fun e => ⟨e,by simp,fun a ha b hb => by simp at hb; subst hb; intro e2; subst e2; exact hm ha⟩
   rw [e1,← h.eq]
   simp
theorem mapKeeps {w w' : World} {b n : Nat} {D : DataW Unit} (h : w.ownsMap Tryz.prog 3 (plainElem (H := Unit) Tryz.prog 3) b n D) (hk : Keeps [] w w') : w'.ownsMap Tryz.prog 3 (plainElem (H := Unit) Tryz.prog 3) b n D := by
 obtain ⟨es,clock,hb,F,hs,hD⟩ := h
 exact ⟨es,clock,(hk.block b (Array.getElem?_eq_some_iff.1 hb).1 (by simp)).trans hb,F,hs,hD⟩
theorem pr_cellR {w : World} {A : Option Addr} {cap : Nat} {ws : List Pr} (h : SlR w 81 2 (.slice A ws.length cap) ws.length (prCells ws)) {k : Nat} {p : Pr} (hk : ws[k]? = some p) :
 ∃ g off,A = some ⟨g,off,none⟩ ∧ w.cell? ⟨g,off + k * 2,none⟩ = some (.int .i64 p.cell) ∧ w.cell? ⟨g,off + k * 2 + 1,none⟩ = some (.int .i64 p.x) := by
 have hl := (List.getElem?_eq_some_iff.1 hk).1
 obtain ⟨g,off,c,e,_,_,hc⟩ := h.spot_pos (by omega)
 injection e with e1 _ _
 have hg : ∀ (l : List Pr) (k : Nat) (v : Pr),l[k]? = some v → ∀ j u,v.cells[j]? = some u → (prCells l)[k * 2 + j]? = some u := by
  intro l
  induction l with
  | nil => intro k v hk; simp at hk
  | cons x l ih =>
    intro k v hk j u hu
    have hj : j < 2 := by have := (List.getElem?_eq_some_iff.1 hu).1; simpa [Pr.cells] using this
    have e : prCells (x :: l) = x.cells ++ prCells l := by simp [prCells]
    rw [e]
    cases k with
    | zero =>
      simp at hk
      subst hk
      rw [Nat.zero_mul,Nat.zero_add,List.getElem?_append_left (by simpa [Pr.cells] using hj)]
      exact hu
    | succ k =>
      rw [List.getElem?_append_right (by simp [Pr.cells]; omega)]
      have := ih k v (by simpa using hk) j u hu
      have e2 : (k + 1) * 2 + j - x.cells.length = k * 2 + j := by simp [Pr.cells]; omega
      rw [e2]
      exact this
 refine ⟨g,off,e1,?_,?_⟩
 · have := hc (k * 2 + 0) _ (hg ws k p hk 0 _ rfl); rw [← Nat.add_assoc] at this; exact this
 · have := hc (k * 2 + 1) _ (hg ws k p hk 1 _ rfl); rw [← Nat.add_assoc] at this; exact this
abbrev TMM : TypeId := 217
theorem zeroInt (w : World) : (zeroValue 3).run Tryz.prog w = .ok (.int .i64 0) w := by kernel_rfl
theorem keyInt : Keyed Tryz.prog 3 := int_keyed Tryz.underlying3
set_option maxRecDepth 100000 in
set_option maxHeartbeats 2000000 in
theorem cm_may (w : World) (c : Cf) (hc : c.ok) (sl ge th st : Int) (A : Option Addr) (cap : Nat) (ws : List Pr) (hw : SlR w 81 2 (.slice A ws.length cap) ws.length (prCells ws)) :
 Calls Tryz.prog 69 #[.agg #[.int .i64 c.cells,.int .i64 c.slots,.int .i64 c.bits,.int .i64 c.tag,.int .i64 c.bias,.int .i64 c.defer],.agg #[.int .i64 sl,.int .i64 ge,.int .i64 th,.int .i64 st,.slice A ws.length cap]] w fun e w' => e = .returned (.int .i64 (mayE c sl th st ws)) ∧ Keeps [] w w' := by
 have hmx : ws.length ≤ maxLen := by
  obtain ⟨_,A',c',e,h1,h2,_⟩ := hw
  injection e with _ _ e3
  omega
 have b1 := (Blk.new w 23 #[.int .i64 c.cells,.int .i64 c.slots,.int .i64 c.bits,.int .i64 c.tag,.int .i64 c.bias,.int .i64 c.defer]).alloc (.cells #[.int .i64 sl,.int .i64 ge,.int .i64 th,.int .i64 st,.slice A ws.length cap] 69)
 have b2 := Blk.new (w.alloc (.cells #[.int .i64 c.cells,.int .i64 c.slots,.int .i64 c.bits,.int .i64 c.tag,.int .i64 c.bias,.int .i64 c.defer] 23)) 69 #[.int .i64 sl,.int .i64 ge,.int .i64 th,.int .i64 st,.slice A ws.length cap]
 have kB : Keeps [] w ((w.alloc (.cells #[.int .i64 c.cells,.int .i64 c.slots,.int .i64 c.bits,.int .i64 c.tag,.int .i64 c.bias,.int .i64 c.defer] 23)).alloc (.cells #[.int .i64 sl,.int .i64 ge,.int .i64 th,.int .i64 st,.slice A ws.length cap] 69)) := ((Keeps.refl [] w).alloc _).alloc _
 have hs1 : (w.alloc (.cells #[.int .i64 c.cells,.int .i64 c.slots,.int .i64 c.bits,.int .i64 c.tag,.int .i64 c.bias,.int .i64 c.defer] 23)).heap.size = w.heap.size + 1 := by simp
 have hs2 : ((w.alloc (.cells #[.int .i64 c.cells,.int .i64 c.slots,.int .i64 c.bits,.int .i64 c.tag,.int .i64 c.bias,.int .i64 c.defer] 23)).alloc (.cells #[.int .i64 sl,.int .i64 ge,.int .i64 th,.int .i64 st,.slice A ws.length cap] 69)).heap.size = w.heap.size + 2 := by simp
 obtain ⟨wB,hwB⟩ : ∃ q,(w.alloc (.cells #[.int .i64 c.cells,.int .i64 c.slots,.int .i64 c.bits,.int .i64 c.tag,.int .i64 c.bias,.int .i64 c.defer] 23)).alloc (.cells #[.int .i64 sl,.int .i64 ge,.int .i64 th,.int .i64 st,.slice A ws.length cap] 69) = q := ⟨_,rfl⟩
 rw [hs1] at b2
 rw [hwB] at b1 b2 kB hs2
 have a0 : wB.cell? ⟨w.heap.size,0,none⟩ = some (.int .i64 c.cells) := (b1.cell 0).trans rfl
 have a1 : wB.cell? ⟨w.heap.size,1,none⟩ = some (.int .i64 c.slots) := (b1.cell 1).trans rfl
 have o0 : wB.cell? ⟨w.heap.size + 1,0,none⟩ = some (.int .i64 sl) := (b2.cell 0).trans rfl
 have o2 : wB.cell? ⟨w.heap.size + 1,2,none⟩ = some (.int .i64 th) := (b2.cell 2).trans rfl
 have o3 : wB.cell? ⟨w.heap.size + 1,3,none⟩ = some (.int .i64 st) := (b2.cell 3).trans rfl
 have o4 : wB.cell? ⟨w.heap.size + 1,4,none⟩ = some (.slice A ws.length cap) := (b2.cell 4).trans rfl
 have HKB := Lib.hid kB
 have HB1 := Lib.hid b1
 have HB2 := Lib.hid b2
 have HW := Lib.hid (hw.keeps kB (by simp))
 have HC := Lib.hid hc
 obtain ⟨rr,hrr⟩ : ∃ q,mayE c sl th st ws = q := ⟨_,rfl⟩
 rw [hrr]
 unfold mayE at hrr
 have hmm := @run_makeMap Tryz.prog
 unfold maxLen at hmx
 clear kB b1 b2 hw hc hs1
 by_cases h1 : th < 1
 ·
  rw [if_pos (.inl h1)] at hrr
  subst hrr
  have e1 : decide (th < 1) = true := decide_eq_true h1
  clear h1 hmm
  go_enter Tryz.func69,Tryz.ntmps69
  go_wp2_with fail
  try rw [hwB]
  go_ret
  exact ⟨rfl,HKB.out⟩
 have e1 : decide (th < 1) = false := decide_eq_false h1
 by_cases h2 : 8 < th
 ·
  rw [if_pos (.inr (.inl h2))] at hrr
  subst hrr
  have e2 : decide (8 < th) = true := decide_eq_true h2
  clear h1 h2 hmm
  go_enter Tryz.func69,Tryz.ntmps69
  go_wp2_with fail
  go_ret
  exact ⟨rfl,HKB.out⟩
 have e2 : decide (8 < th) = false := decide_eq_false h2
 by_cases h3 : st < 1
 ·
  rw [if_pos (.inr (.inr (.inl h3)))] at hrr
  subst hrr
  have e3 : decide (st < 1) = true := decide_eq_true h3
  clear h1 h2 h3 hmm
  go_enter Tryz.func69,Tryz.ntmps69
  go_wp2_with fail
  go_ret
  exact ⟨rfl,HKB.out⟩
 have e3 : decide (st < 1) = false := decide_eq_false h3
 by_cases h4 : ws.length = 0
 ·
  rw [if_pos (.inr (.inr (.inr h4)))] at hrr
  subst hrr
  have e4 : ((ws.length : Int) == 0) = true := by simp [h4]
  clear h1 h2 h3 hmm h4
  go_enter Tryz.func69,Tryz.ntmps69
  go_wp2_with fail
  go_ret
  exact ⟨rfl,HKB.out⟩
 have e4 : ((ws.length : Int) == 0) = false := by simp; exact fun e => h4 (by rw [e]; rfl)
 rw [if_neg (fun h => by rcases h with h | h | h | h; exact h1 h; exact h2 h; exact h3 h; exact h4 h)] at hrr
 by_cases h5 : 16 < ws.length
 ·
  rw [if_pos h5] at hrr
  subst hrr
  have e5 : decide (16 < (ws.length : Int)) = true := by simp; omega
  clear h1 h2 h3 hmm h4 h5
  go_enter Tryz.func69,Tryz.ntmps69
  go_wp2_with fail
  go_ret
  exact ⟨rfl,HKB.out⟩
 have e5 : decide (16 < (ws.length : Int)) = false := by simp; omega
 rw [if_neg h5] at hrr
 by_cases h6 : sl < 0
 ·
  rw [if_pos (.inl h6)] at hrr
  subst hrr
  have e6 : decide (sl < 0) = true := decide_eq_true h6
  clear h1 h2 h3 hmm h4 h5 h6
  go_enter Tryz.func69,Tryz.ntmps69
  go_wp2_with fail
  go_ret
  exact ⟨rfl,HKB.out⟩
 have e6 : decide (sl < 0) = false := decide_eq_false h6
 by_cases h7 : c.slots ≤ sl
 ·
  rw [if_pos (.inr h7)] at hrr
  subst hrr
  have e7 : decide (c.slots ≤ sl) = true := decide_eq_true h7
  clear h1 h2 h3 hmm h4 h5 h6 h7
  go_enter Tryz.func69,Tryz.ntmps69
  go_wp2_with fail
  go_ret
  exact ⟨rfl,HKB.out⟩
 have e7 : decide (c.slots ≤ sl) = false := decide_eq_false h7
 rw [if_neg (fun h => by rcases h with h | h; exact h6 h; exact h7 h)] at hrr
 have HR := Lib.hid hrr
 have hl5 : ws.length ≤ 16 := by omega
 clear hrr h1 h2 h3 h4 h6 h7
 go_enter Tryz.func69,Tryz.ntmps69
 go_wp2_with fail
 have hM0 : Hid ((wB.alloc (.map #[] 0)).ownsMap Tryz.prog 3 (plainElem (H := Unit) Tryz.prog 3) (w.heap.size + 2) 0 (.map [])) := by
  have := World.ownsMap_made (P := Tryz.prog) (k := 3) (R := plainElem (H := Unit) Tryz.prog 3) wB
  rw [hs2] at this
  exact this
 go_loopw [45] (fun i wr => ∃ (k : Nat) (D : DataW Unit),k ≤ ws.length ∧ i = .int .i64 k ∧ Keeps [] wB wr ∧ wr.ownsMap Tryz.prog 3 (plainElem (H := Unit) Tryz.prog 3) (w.heap.size + 2) k D ∧ Had D ((ws.take k).map Pr.cell) ∧ (∀ p,p ∈ ws.take k → ¬ (p.cell < 0 ∨ c.cells ≤ p.cell))) (fun i _ => ws.length - (intOf i).toNat)
 case atStart => exact ⟨0,_,Nat.zero_le _,rfl,(Keeps.refl [] wB).alloc _,hM0.out,Had.nil,by simp⟩
 case round =>
  obtain ⟨k,D,hk,rfl,hkr,hown,hhad,hgood⟩ := hrel
  have HKR := Lib.hid hkr
  have HOWN := Lib.hid hown
  have HHAD := Lib.hid hhad
  have HGOOD := Lib.hid hgood
  have a0 : wr.cell? ⟨w.heap.size,0,none⟩ = some (.int .i64 c.cells) := ((HB1.out.keeps hkr (by simp)).cell 0).trans rfl
  have o4 : wr.cell? ⟨w.heap.size + 1,4,none⟩ = some (.slice A ws.length cap) := ((HB2.out.keeps hkr (by simp)).cell 4).trans rfl
  by_cases hlt : k < ws.length
  ·
   obtain ⟨p,hp⟩ : ∃ p,ws[k]? = some p := ⟨_,List.getElem?_eq_getElem hlt⟩
   obtain ⟨g,off,rfl,q0,q1⟩ := pr_cellR (HW.out.keeps hkr (by simp)) hp
   have k0 : (0 : Int) ≤ (k : Int) := by omega
   have k1 : (k : Int) < (ws.length : Int) := by omega
   have htk : ws.take (k + 1) = ws.take k ++ [p] := by rw [List.take_add_one,hp]; rfl
   have hmem : p ∈ ws := List.mem_of_getElem? hp
   have HT := Lib.hid htk
   have hka : Keeps [] wr (wr.alloc (.cells #[.int .i64 p.cell,.int .i64 p.x] 81)) := (Keeps.refl [] wr).alloc _
   have a0' := keeps_cell0 hka a0
   have hsz1 := hkr.size
   have HWS := Lib.hid hsz1
   clear htk hkr hown hhad hgood
   by_cases g1 : p.cell < 0
   · have hrr := HR.out
     rw [if_pos ⟨p,hmem,.inl g1⟩] at hrr
     subst hrr
     have e8 : decide (p.cell < 0) = true := decide_eq_true g1
     clear g1 hmem hp
     go_wp2_with fail
     go_ret
     exact ⟨rfl,HKB.out.trans (HKR.out.trans hka (by simp)) (by simp)⟩
   ·
    have e8 : decide (p.cell < 0) = false := decide_eq_false g1
    by_cases g2 : c.cells ≤ p.cell
    · have hrr := HR.out
      rw [if_pos ⟨p,hmem,.inr g2⟩] at hrr
      subst hrr
      have e9 : decide (c.cells ≤ p.cell) = true := decide_eq_true g2
      clear g1 g2 hmem hp
      go_wp2_with fail
      go_ret
      exact ⟨rfl,HKB.out.trans (HKR.out.trans hka (by simp)) (by simp)⟩
    ·
     have e9 : decide (c.cells ≤ p.cell) = false := decide_eq_false g2
     have hkey : keyOf Tryz.prog 3 (.int .i64 p.cell) = some (.int .i64 p.cell) := keyOf_int_mk Tryz.underlying3 (WalkArith.wf_i64 (by have := HC.out.1; omega))
     have HPG : Hid (¬ (p.cell < 0 ∨ c.cells ≤ p.cell)) := fun h => h.elim g1 g2
     have hown2 : (wr.alloc (.cells #[.int .i64 p.cell,.int .i64 p.x] 81)).ownsMap Tryz.prog 3 (plainElem (H := Unit) Tryz.prog 3) (w.heap.size + 2) k D := mapKeeps HOWN.out hka
     have HO2 := Lib.hid hown2
     clear g1 g2 hmem hp hown2
     go_wp2_with (first
      | (at_lookup; refine wpList_lookup_own_int _ rfl _ _ TMM rfl 3 3 .i64 keyInt Tryz.underlying217 Tryz.underlying3 (zeroInt _) (w.heap.size + 2) k _ rfl HO2.out _ _ rfl hkey ?_; intro cc hat hwc)
      | (at_mapUpdate; refine wpList_mapUpdate_own _ rfl _ _ _ TMM rfl 3 3 keyInt Tryz.underlying217 _ (w.heap.size + 2) k _ rfl HO2.out (by unfold maxLen; omega) _ _ _ rfl rfl hkey _ [] (plainElem_int Tryz.underlying3 (wrap64_wf _)) ?_; intro w1 hown1 hgrow1))
     exact ⟨⟨k + 1,_,by omega,by simp,(HKR.out.trans hka (by simp)).grown hgrow1 (fun q hq => by cases hq; exact .inr (by rw [hs2]; exact Nat.le_refl _)),hown1,by rw [HT.out,List.map_append]; exact HHAD.out.step (HO2.out.tidy keyInt) HO2.out.isMap _ _,fun q hq => by rw [HT.out,List.mem_append,List.mem_singleton] at hq; rcases hq with hq | rfl; exact HGOOD.out q hq; exact HPG.out⟩,by simp [intOf]; omega⟩
  ·
   obtain rfl : k = ws.length := by omega
   have hge : ¬ ((ws.length : Int) < (ws.length : Int)) := by omega
   have htk : ws.take ws.length = ws := List.take_length
   have hrr := HR.out
   rw [htk] at hgood hhad
   rw [if_neg (fun ⟨p,hp,hb⟩ => hgood p hp hb)] at hrr
   have hle := hhad.le
   have heq := hhad.eq
   rw [List.length_map] at hle heq
   clear hkr hhad hgood htk
   by_cases hn : (ws.map Pr.cell).Nodup
   · rw [if_neg (fun h => h hn)] at hrr
     subst hrr
     have ez : Maps.size D = ws.length := heq.2 hn
     have e8 : decide ((Maps.size D : Int) < (ws.length : Int)) = false := by simp; omega
     clear heq hn
     go_wp2_with (at_len; refine wpList_len_own _ rfl _ TMM rfl _ _ Tryz.underlying217 _ (w.heap.size + 2) _ D rfl HOWN.out ?_)
     go_ret
     exact ⟨rfl,HKB.out.trans HKR.out (by simp)⟩
   · rw [if_pos hn] at hrr
     subst hrr
     have ez : Maps.size D ≠ ws.length := fun h => hn (heq.1 h)
     have e8 : decide ((Maps.size D : Int) < (ws.length : Int)) = true := by simp; omega
     clear heq hn
     go_wp2_with (at_len; refine wpList_len_own _ rfl _ TMM rfl _ _ Tryz.underlying217 _ (w.heap.size + 2) _ D rfl HOWN.out ?_)
     go_ret
     exact ⟨rfl,HKB.out.trans HKR.out (by simp)⟩
open Go.RowKit Pol
theorem Tryz.infoPr : (Tryz.prog.info? 81).map (fun i => (i.zero,i.size,i.bytes)) = some (some (.agg #[.int .i64 0,.int .i64 0]),2,16) := by kernel_rfl
theorem pr_one (l : List Pr) : ∀ u ∈ prCells l,u.oneCell' = true := by
 intro u hu
 simp only [prCells,List.mem_flatMap] at hu
 obtain ⟨x,_,hx⟩ := hu
 simp only [Pr.cells,List.mem_cons,List.not_mem_nil,or_false] at hx
 rcases hx with rfl | rfl <;> rfl
theorem prCells_len (l : List Pr) : (prCells l).length = l.length * 2 := by
 induction l with
 | nil => rfl
 | cons x l ih => simp [prCells,Pr.cells] at ih ⊢; omega
section
variable {w0 w w' : World} {z : Sb} {F H : List Nat} {S S' : Sp} {k jb cb dp : Nat} {x x' : Cm} {nv : Value} {c : Cf} {d d' : Int}
set_option maxRecDepth 100000 in
set_option maxHeartbeats 2000000 in
theorem cm_new_bad (h : SP w0 w z F S) (hf : Fit k S) (sl ge th st : Int) (A : Option Addr) (cap : Nat) (ws : List Pr) (hw : SlR w 81 2 (.slice A ws.length cap) ws.length (prCells ws)) (he : mayE S.c sl th st ws ≠ 0) :
 Calls Tryz.prog 15 #[PT z.p,PT jb,.agg #[.int .i64 sl,.int .i64 ge,.int .i64 th,.int .i64 st,.slice A ws.length cap]] w fun e w' => e = .returned (.tuple #[.pointer none,.int .i64 (mayE S.c sl th st ws)]) ∧ Keeps [] w w' := by
 have hk : Keeps [] w (w.alloc (.cells #[.int .i64 sl,.int .i64 ge,.int .i64 th,.int .i64 st,.slice A ws.length cap] 69)) := by simp
 have hb := Blk.new w 69 #[.int .i64 sl,.int .i64 ge,.int .i64 th,.int .i64 st,.slice A ws.length cap]
 obtain ⟨wB,hwB⟩ : ∃ q,w.alloc (.cells #[.int .i64 sl,.int .i64 ge,.int .i64 th,.int .i64 st,.slice A ws.length cap] 69) = q := ⟨_,rfl⟩
 rw [hwB] at hk hb
 have hkB := hk
 have HC := Lib.hid (show ∀ w',Keeps [] wB w' → w'.cell? ⟨w.heap.size,0,none⟩ = some (.int .i64 sl) ∧ w'.cell? ⟨w.heap.size,1,none⟩ = some (.int .i64 ge) ∧ w'.cell? ⟨w.heap.size,2,none⟩ = some (.int .i64 th) ∧ w'.cell? ⟨w.heap.size,3,none⟩ = some (.int .i64 st) ∧ w'.cell? ⟨w.heap.size,4,none⟩ = some (.slice A ws.length cap) from fun w' hk' => ⟨((hb.keeps hk' (by simp)).cell 0).trans rfl,((hb.keeps hk' (by simp)).cell 1).trans rfl,((hb.keeps hk' (by simp)).cell 2).trans rfl,((hb.keeps hk' (by simp)).cell 3).trans rfl,((hb.keeps hk' (by simp)).cell 4).trans rfl⟩)
 have QCF := Lib.hid (fun (w' : World) (hk' : Keeps [] w w') => sp_config (h.calm hk'))
 have QM := Lib.hid (fun (w' : World) (hk' : Keeps [] w w') => cm_may w' S.c hf.c sl ge th st A cap ws (hw.keeps hk' (by simp)))
 obtain ⟨er,her⟩ : ∃ q,mayE S.c sl th st ws = q := ⟨_,rfl⟩
 rw [her] at he QM ⊢
 have e0 : (er != 0) = true := by simp [he]
 have hkB0 : Keeps [] wB wB := Keeps.refl _ _
 clear h hf hw he her hb hk
 go_enter Tryz.func15,Tryz.ntmps15
 go_wp2_with fail
 try rw [hwB]
 refine wp_region_noPanic ?_
 refine wp_region_L 99 (fun w' => w'.cell? ⟨w.heap.size,0,none⟩ = some (.int .i64 sl) ∧ w'.cell? ⟨w.heap.size,1,none⟩ = some (.int .i64 ge) ∧ w'.cell? ⟨w.heap.size,2,none⟩ = some (.int .i64 th) ∧ w'.cell? ⟨w.heap.size,3,none⟩ = some (.int .i64 st) ∧ w'.cell? ⟨w.heap.size,4,none⟩ = some (.slice A ws.length cap)) (by kernel_rfl) ?_
 have hHeld := HC.out _ hkB0.drew
 refine Sq.kT (i := 0) (v := ?rvm0) rfl ?rym0 hHeld ?rrm0
 case rym0 => (intro w' hSw; (try dsimp only at hSw); go_simp; first | done | with_reducible rfl)
 try simp only [Act.put,Sq.t,Sq.z,Sq.s]
 refine Sq.kT (i := 2) (v := ?rvm2) rfl ?rym2 hHeld ?rrm2
 case rym2 => (intro w' hSw; (try dsimp only at hSw); go_simp; first | done | with_reducible rfl)
 try simp only [Act.put,Sq.t,Sq.z,Sq.s]
 refine Sq.oT (i := 1) rfl fun K hK => ?_
 go_simp
 go_at_call 67
 refine (QCF.out _ hkB.drew).mono ?_
 rintro e wc ⟨rfl,hkc⟩
 have hS1 : wc.cell? ⟨w.heap.size,0,none⟩ = some (.int .i64 sl) ∧ wc.cell? ⟨w.heap.size,1,none⟩ = some (.int .i64 ge) ∧ wc.cell? ⟨w.heap.size,2,none⟩ = some (.int .i64 th) ∧ wc.cell? ⟨w.heap.size,3,none⟩ = some (.int .i64 st) ∧ wc.cell? ⟨w.heap.size,4,none⟩ = some (.slice A ws.length cap) := HC.out _ (hkB0.drew.trans hkc (by simp))
 have HKC : Hid (Keeps [] wB wc) := hkB0.drew.trans hkc (by simp)
 go_simp
 refine hK.out _ _ (fun _ => hS1) ?_
 clear hK K
 try simp only [Act.put,Sq.t,Sq.z,Sq.s]
 replace hHeld := hS1
 clear hS1
 refine Sq.oT (i := 3) rfl fun K hK => ?_
 go_simp
 go_at_call 69
 refine (QM.out _ (hkB.drew.trans hkc (by simp))).mono ?_
 rintro e wd ⟨rfl,hkd⟩
 have hS2 : wd.cell? ⟨w.heap.size,0,none⟩ = some (.int .i64 sl) ∧ wd.cell? ⟨w.heap.size,1,none⟩ = some (.int .i64 ge) ∧ wd.cell? ⟨w.heap.size,2,none⟩ = some (.int .i64 th) ∧ wd.cell? ⟨w.heap.size,3,none⟩ = some (.int .i64 st) ∧ wd.cell? ⟨w.heap.size,4,none⟩ = some (.slice A ws.length cap) := HC.out _ (HKC.out.trans hkd (by simp))
 have HKD : Hid (Keeps [] wB wd) := HKC.out.trans hkd (by simp)
 go_simp
 refine hK.out _ _ (fun _ => hS2) ?_
 clear hK K
 try simp only [Act.put,Sq.t,Sq.z,Sq.s]
 replace hHeld := hS2
 clear hS2
 refine Sq.kT (i := 4) (v := ?rvm4) rfl ?rym4 hHeld ?rrm4
 case rym4 => (intro w' hSw; (try dsimp only at hSw); go_simp; first | done | with_reducible rfl)
 try simp only [Act.put,Sq.t,Sq.z,Sq.s]
 refine wpAnyL_done (by kernel_rfl) ?_ _
 refine NoPanic.normal ?_
 go_wp2_with fail
 go_ret2
 exact ⟨rfl,hkB.trans HKD.out (by simp)⟩
set_option maxRecDepth 100000 in
set_option maxHeartbeats 2000000 in
theorem cm_new (h : SP w0 w z F S) (hf : Fit k S) (sl ge th st : Int) (A : Option Addr) (cap : Nat) (ws : List Pr) (hw : SlR w 81 2 (.slice A ws.length cap) ws.length (prCells ws)) (he : mayE S.c sl th st ws = 0) :
 Calls Tryz.prog 15 #[PT z.p,PT jb,.agg #[.int .i64 sl,.int .i64 ge,.int .i64 th,.int .i64 st,.slice A ws.length cap]] w fun e w' => ∃ cb H,e = .returned (.tuple #[PT cb,.int .i64 0]) ∧ CmN w0 w' z F jb cb H 0 (stgVal 0 .take) (Cm.new sl ge th st ws) ∧ (∀ q,q ∈ H → w.heap.size ≤ q) ∧ Keeps [] w w' := by
 have hk : Keeps [] w (w.alloc (.cells #[.int .i64 sl,.int .i64 ge,.int .i64 th,.int .i64 st,.slice A ws.length cap] 69)) := by simp
 have hb := Blk.new w 69 #[.int .i64 sl,.int .i64 ge,.int .i64 th,.int .i64 st,.slice A ws.length cap]
 obtain ⟨wB,hwB⟩ : ∃ q,w.alloc (.cells #[.int .i64 sl,.int .i64 ge,.int .i64 th,.int .i64 st,.slice A ws.length cap] 69) = q := ⟨_,rfl⟩
 rw [hwB] at hk hb
 have hkB := hk
 have HC := Lib.hid (show ∀ w',Keeps [] wB w' → w'.cell? ⟨w.heap.size,0,none⟩ = some (.int .i64 sl) ∧ w'.cell? ⟨w.heap.size,1,none⟩ = some (.int .i64 ge) ∧ w'.cell? ⟨w.heap.size,2,none⟩ = some (.int .i64 th) ∧ w'.cell? ⟨w.heap.size,3,none⟩ = some (.int .i64 st) ∧ w'.cell? ⟨w.heap.size,4,none⟩ = some (.slice A ws.length cap) from fun w' hk' => ⟨((hb.keeps hk' (by simp)).cell 0).trans rfl,((hb.keeps hk' (by simp)).cell 1).trans rfl,((hb.keeps hk' (by simp)).cell 2).trans rfl,((hb.keeps hk' (by simp)).cell 3).trans rfl,((hb.keeps hk' (by simp)).cell 4).trans rfl⟩)
 have QCF := Lib.hid (fun (w' : World) (hk' : Keeps [] w w') => sp_config (h.calm hk'))
 have QM := Lib.hid (fun (w' : World) (hk' : Keeps [] w w') => cm_may w' S.c hf.c sl ge th st A cap ws (hw.keeps hk' (by simp)))
 rw [he] at QM
 have hlen : 1 ≤ ws.length ∧ ws.length ≤ 16 := mayE_len he
 have hmx : Hid (0 + ws.length ≤ maxLen) := by unfold Hid maxLen; omega
 have hby : Hid ((0 + ws.length) * 16 ≤ 140737488355328) := by unfold Hid; omega
 have HW := Lib.hid (hw.keeps hkB (by simp))
 have HBB := Lib.hid hb
 have HLN := Lib.hid hlen
 have HH := Lib.hid h
 obtain ⟨i0,hi,hz0,hz1,hz2⟩ := info_parts Tryz.infoPr
 have hkB0 : Keeps [] wB wB := Keeps.refl _ _
 have hszB : wB.heap.size = w.heap.size + 1 := by rw [← hwB]; simp
 have HSZ := Lib.hid hszB
 clear h hf hw he hb hk hlen hszB
 go_enter Tryz.func15,Tryz.ntmps15
 go_wp2_with fail
 try rw [hwB]
 refine wp_region_noPanic ?_
 refine wp_region_L 99 (fun w' => w'.cell? ⟨w.heap.size,0,none⟩ = some (.int .i64 sl) ∧ w'.cell? ⟨w.heap.size,1,none⟩ = some (.int .i64 ge) ∧ w'.cell? ⟨w.heap.size,2,none⟩ = some (.int .i64 th) ∧ w'.cell? ⟨w.heap.size,3,none⟩ = some (.int .i64 st) ∧ w'.cell? ⟨w.heap.size,4,none⟩ = some (.slice A ws.length cap)) (by kernel_rfl) ?_
 have hHeld := HC.out _ hkB0.drew
 refine Sq.kT (i := 0) (v := ?rvm0) rfl ?rym0 hHeld ?rrm0
 case rym0 => (intro w' hSw; (try dsimp only at hSw); go_simp; first | done | with_reducible rfl)
 try simp only [Act.put,Sq.t,Sq.z,Sq.s]
 refine Sq.kT (i := 2) (v := ?rvm2) rfl ?rym2 hHeld ?rrm2
 case rym2 => (intro w' hSw; (try dsimp only at hSw); go_simp; first | done | with_reducible rfl)
 try simp only [Act.put,Sq.t,Sq.z,Sq.s]
 refine Sq.oT (i := 1) rfl fun K hK => ?_
 go_simp
 go_at_call 67
 refine (QCF.out _ hkB.drew).mono ?_
 rintro e wc ⟨rfl,hkc⟩
 have hS1 : wc.cell? ⟨w.heap.size,0,none⟩ = some (.int .i64 sl) ∧ wc.cell? ⟨w.heap.size,1,none⟩ = some (.int .i64 ge) ∧ wc.cell? ⟨w.heap.size,2,none⟩ = some (.int .i64 th) ∧ wc.cell? ⟨w.heap.size,3,none⟩ = some (.int .i64 st) ∧ wc.cell? ⟨w.heap.size,4,none⟩ = some (.slice A ws.length cap) := HC.out _ (hkB0.drew.trans hkc (by simp))
 have HKC : Hid (Keeps [] wB wc) := hkB0.drew.trans hkc (by simp)
 go_simp
 refine hK.out _ _ (fun _ => hS1) ?_
 clear hK K
 try simp only [Act.put,Sq.t,Sq.z,Sq.s]
 replace hHeld := hS1
 clear hS1
 refine Sq.oT (i := 3) rfl fun K hK => ?_
 go_simp
 go_at_call 69
 refine (QM.out _ (hkB.drew.trans hkc (by simp))).mono ?_
 rintro e wd ⟨rfl,hkd⟩
 have hS2 : wd.cell? ⟨w.heap.size,0,none⟩ = some (.int .i64 sl) ∧ wd.cell? ⟨w.heap.size,1,none⟩ = some (.int .i64 ge) ∧ wd.cell? ⟨w.heap.size,2,none⟩ = some (.int .i64 th) ∧ wd.cell? ⟨w.heap.size,3,none⟩ = some (.int .i64 st) ∧ wd.cell? ⟨w.heap.size,4,none⟩ = some (.slice A ws.length cap) := HC.out _ (HKC.out.trans hkd (by simp))
 have HKD : Hid (Keeps [] wB wd) := HKC.out.trans hkd (by simp)
 go_simp
 refine hK.out _ _ (fun _ => hS2) ?_
 clear hK K
 try simp only [Act.put,Sq.t,Sq.z,Sq.s]
 replace hHeld := hS2
 clear hS2
 refine Sq.kT (i := 4) (v := ?rvm4) rfl ?rym4 hHeld ?rrm4
 case rym4 => (intro w' hSw; (try dsimp only at hSw); go_simp; first | done | with_reducible rfl)
 try simp only [Act.put,Sq.t,Sq.z,Sq.s]
 refine wpAnyL_done (by kernel_rfl) ?_ _
 refine NoPanic.normal ?_
 obtain ⟨wa,hwa⟩ : ∃ v,v = wd := ⟨_,rfl⟩
 subst hwa
 have f4 := (HBB.out.keeps HKD.out (by simp)).frozen 4
 have hbl := (HBB.out.keeps HKD.out (by simp)).lt
 have hne : w.heap.size ≠ wa.heap.size := Nat.ne_of_lt hbl
 go_wp2_with (at_builtin; refine wpList_append_src rfl (.tmp 16) (.tmp 18) 67 rfl 81 i0 _ 2 16 Tryz.underlying67 hi hz0 hz1 hz2 rfl (by decide) (.slice (some ⟨wa.heap.size,0,none⟩) 0 0) 0 [] rfl (World.ownsRow_made _ _ _ (Nat.zero_le _) (by decide) rfl) A ws.length cap (prCells ws) rfl (prCells_len _) (slr_src (HW.out.keeps (HKD.out.alloc _) (by simp))) (pr_one _) hmx.out hby.out ?_; intro v1 w1 hown1 hg1 hat1; obtain ⟨g1,cc,rfl,_,_⟩ := hown1.form (by have := HLN.out.1; omega); have HO1 := Lib.hid hown1; have HG1 := Lib.hid hg1; have HA1 := Lib.hid hat1; have hk1 : Keeps [] wB w1 := (HKD.out.alloc _).grown hg1 (fun q hq => by simp [Value.ownBlock] at hq; subst hq; exact .inr HKD.out.size); have HK1 := Lib.hid hk1; obtain ⟨p0,p1,p2,p3,p4⟩ := HC.out _ hk1; have f41 := (HBB.out.keeps hk1 (by simp)).frozen 4; clear hown1 hg1 hat1 hk1)
 go_ret2
 have hrow : w1.ownsRow 0 81 2 (.slice (some ⟨g1,0,none⟩) ws.length cc) ws.length (prCells ws) := by simpa using HO1.out
 have hg1 : w.heap.size < g1 := by
  have h1 := HKD.out.size
  have h2 := HSZ.out
  rcases HA1.out with e | e <;> simp [Value.ownBlock] at e <;> omega
 have hkz : Keeps [] w (w1.setCell ⟨w.heap.size,4,none⟩ (.slice (some ⟨g1,0,none⟩) ws.length cc)) := (hkB.trans HK1.out (by simp)).setCell (.inr (Nat.le_refl _)) _
 have hrz := own_keeps hrow ((Keeps.refl [w.heap.size] w1).setCell (p := ⟨w.heap.size,4,none⟩) (.inl (by simp)) (.slice (some ⟨g1,0,none⟩) ws.length cc)) (fun q hq => by simp [Value.ownBlock] at hq; subst hq; simp; omega)
 have hsz : (w1.setCell ⟨w.heap.size,4,none⟩ (.slice (some ⟨g1,0,none⟩) ws.length cc)).heap.size = w1.heap.size := by simp
 have hs1 : w.heap.size < w1.heap.size := by have := HK1.out.size; have := HSZ.out; omega
 try simp only [Nat.zero_add]
 generalize w1.setCell ⟨w.heap.size,4,none⟩ (.slice (some ⟨g1,0,none⟩) ws.length cc) = wz at *
 rw [← hsz] at hs1 ⊢
 have hbn := Blk.new wz 164 (cmVals z jb (.slice (some ⟨g1,0,none⟩) ws.length cc) (stgVal 0 .take) none (Cm.new sl ge th st ws))
 have hra := own_keeps hrz ((Keeps.refl [] wz).alloc (.cells (cmVals z jb (.slice (some ⟨g1,0,none⟩) ws.length cc) (stgVal 0 .take) none (Cm.new sl ge th st ws)) 164)) (by simp)
 have hin : ∀ q,q ∈ [wz.heap.size,g1] → w.heap.size ≤ q := fun q hq => by simp at hq; rcases hq with rfl | rfl <;> omega
 refine ⟨wz.heap.size,[wz.heap.size,g1],rfl,⟨⟨_,none,[],[],hbn,hra,⟨rfl,rfl⟩,rfl,by simp [vblk,Value.ownBlock],by simp,by simp⟩,fun q hq => Nat.le_trans HH.out.keep.size (hin q hq),fun q hq => HH.out.fresh (hin q hq),fun q hq => ?_⟩,hin,hkz.alloc _⟩
 simp at hq
 rcases hq with rfl | rfl
 · exact ⟨_,hbn.tyOf,by decide⟩
 · exact ⟨_,own_tyOf hra rfl,by decide⟩
end
end Go.Proofs.YtmlnedilbneekaaGreat