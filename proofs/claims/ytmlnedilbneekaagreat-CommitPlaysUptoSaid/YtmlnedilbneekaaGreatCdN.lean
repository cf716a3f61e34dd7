/- Layer 13: the document's New. -/
import Derived.Test.YtmlnedilbneekaaGreatCdT
import Derived.Test.YtmlnedilbneekaaGreatCmNew
import Derived.Test.YtmlnedilbneekaaGreatSigTouched
import Derived.Test.YtmlnedilbneekaaGreatMake
set_option linter.unusedVariables false
set_option linter.unusedSimpArgs false
namespace Go.Proofs.YtmlnedilbneekaaGreat
open Go.RowKit Pol
namespace Cd
open Ld Rj
def Ps (w : World) (A : Option Addr) (ws : List Pr) : Prop := 0 < ws.length → ∃ q off,A = some ⟨q,off,none⟩ ∧ ∀ i u,(prCells ws)[i]? = some u → w.cell? ⟨q,off + i,none⟩ = some u
section
variable {w w' w0 : World} {y : Rb} {G X : List Nat} {S : Sp} {n b k jb : Nat} {A : Option Addr} {ws : List Pr} {c : Cf} {d : Int}
theorem prCells_len (l : List Pr) : (prCells l).length = l.length * 2 := by
 induction l with
 | nil => rfl
 | cons x l ih => simp [prCells,Pr.cells] at ih ⊢; omega
theorem pr_one (l : List Pr) : ∀ u ∈ prCells l,u.oneCell' = true := by
 intro u hu
 simp only [prCells,List.mem_flatMap,Pr.cells] at hu
 obtain ⟨p,_,h⟩ := hu
 simp at h
 rcases h with rfl | rfl <;> rfl
theorem Ps.lt (h : Ps w A ws) (hL : 0 < ws.length) {q off : Nat} (hA : A = some ⟨q,off,none⟩) : q < w.heap.size := by
 obtain ⟨q',off',e,hc⟩ := h hL
 rw [hA] at e
 injection e with e
 injection e with e1 e2
 subst e1 e2
 cases hx : ws with
 | nil => rw [hx] at hL; simp at hL
 | cons v l =>
   have := hc 0 (.int .i64 v.cell) (by rw [hx]; rfl)
   exact World.block_lt_of_cell? w _ this
theorem Ps.keeps (h : Ps w A ws) (hk : Keeps X w w') (hX : 0 < ws.length → ∀ q off,A = some ⟨q,off,none⟩ → q ∉ X) : Ps w' A ws := fun hL => by
 obtain ⟨q,off,e,hc⟩ := h hL
 have hlt := h.lt hL e
 exact ⟨q,off,e,fun i u hu => (World.cell?_of_block (hk.block q hlt (hX hL q off e))).trans (hc i u hu)⟩
theorem Ps.at_ (h : Ps w A ws) {i : Nat} {p : Pr} (hp : ws[i]? = some p) : ∃ q off,A = some ⟨q,off,none⟩ ∧ w.cell? ⟨q,off + i * 2,none⟩ = some (.int .i64 p.cell) ∧ w.cell? ⟨q,off + i * 2 + 1,none⟩ = some (.int .i64 p.x) := by
 have hi := (List.getElem?_eq_some_iff.1 hp).1
 obtain ⟨q,off,e,hc⟩ := h (by omega)
 obtain ⟨h0,h1⟩ := pr_at ws i p hp
 exact ⟨q,off,e,hc _ _ h0,by rw [Nat.add_assoc]; exact hc _ _ h1⟩
theorem rthere (h : RP w0 w y G S) (cell : Int) : Calls Tryz.prog 71 #[PT y.p,.int .i64 cell] w fun e w' => e = .returned (.bool (decide (0 ≤ cell ∧ cell < S.c.cells))) ∧ Keeps [] w w' := by
 have c0 := h.cells.1
 clear h
 by_cases h1 : 0 ≤ cell
 ·
  have d1 : decide (cell ≥ 0) = true := decide_eq_true h1
  by_cases h2 : cell < S.c.cells
  · have d2 : decide (cell < S.c.cells) = true := decide_eq_true h2
    rw [decide_eq_true (And.intro h1 h2)]
    clear h1 h2
    go_enter Tryz.func71,Tryz.ntmps71
    go_wp2_with fail
    go_ret
    exact ⟨rfl,by simp⟩
  · have d2 : decide (cell < S.c.cells) = false := decide_eq_false h2
    rw [decide_eq_false (fun h => h2 h.2)]
    clear h1 h2
    go_enter Tryz.func71,Tryz.ntmps71
    go_wp2_with fail
    go_ret
    exact ⟨rfl,by simp⟩
 ·
  have d1 : decide (cell ≥ 0) = false := decide_eq_false h1
  rw [decide_eq_false (fun h => h1 h.1)]
  clear h1
  go_enter Tryz.func71,Tryz.ntmps71
  go_wp2_with fail
  go_ret
  exact ⟨rfl,by simp⟩
theorem nodup_of {l : List Pr} (h : ∀ (i j : Nat) (p q : Pr),j < i → l[i]? = some p → l[j]? = some q → q.cell ≠ p.cell) : (l.map Pr.cell).Nodup := by
 unfold List.Nodup
 rw [List.pairwise_iff_getElem]
 intro i j hi hj hij
 rw [List.length_map] at hi hj
 rw [List.getElem_map,List.getElem_map]
 exact h j i _ _ hij (List.getElem?_eq_getElem hj) (List.getElem?_eq_getElem hi)
theorem not_nodup {l : List Pr} {i j : Nat} {p q : Pr} (hij : j < i) (hp : l[i]? = some p) (hq : l[j]? = some q) (he : q.cell = p.cell) : ¬ (l.map Pr.cell).Nodup := fun h => by
 unfold List.Nodup at h
 rw [List.pairwise_iff_getElem] at h
 obtain ⟨hi,hpi⟩ := List.getElem?_eq_some_iff.1 hp
 obtain ⟨hj,hqj⟩ := List.getElem?_eq_some_iff.1 hq
 have := h j i (by simpa using hj) (by simpa using hi) hij
 rw [List.getElem_map,List.getElem_map,hpi,hqj] at this
 exact this he
set_option maxRecDepth 100000 in
set_option maxHeartbeats 4000000 in
theorem twice_any (w : World) (A : Option Addr) (cap : Nat) (ws : List Pr) (h : Ps w A ws) (h16 : ws.length ≤ 16) :
 Calls Tryz.prog 72 #[.slice A ws.length cap] w fun e w' => e = .returned (.bool (decide (¬ (ws.map Pr.cell).Nodup))) ∧ Keeps [] w w' := by
 have HP := Lib.hid h
 obtain ⟨m,hm⟩ : ∃ m,ws.length = m := ⟨_,rfl⟩
 have HM := Lib.hid hm
 rw [hm] at h16 ⊢
 obtain ⟨N,hN⟩ : ∃ N : Bool,decide (¬ (ws.map Pr.cell).Nodup) = N := ⟨_,rfl⟩
 have HNT : Hid (¬ (ws.map Pr.cell).Nodup → N = true) := fun h => by rw [← hN]; exact decide_eq_true h
 have HNF : Hid ((ws.map Pr.cell).Nodup → N = false) := fun h => by rw [← hN]; exact decide_eq_false (fun hh => hh h)
 rw [hN]
 clear h hm hN
 go_enter Tryz.func72,Tryz.ntmps72
 go_wp2_with fail
 go_loopw [3] (fun i wr => ∃ a : Nat,a ≤ m ∧ i = .int .i64 a ∧ Keeps [] w wr ∧ ∀ (i j : Nat) (p q : Pr),i < a → j < i → ws[i]? = some p → ws[j]? = some q → q.cell ≠ p.cell) (fun i _ => m - (intOf i).toNat)
 case atStart => exact ⟨0,Nat.zero_le _,rfl,Keeps.refl _ _,fun i j p q h => absurd h (by omega)⟩
 case round =>
  obtain ⟨a,ha,rfl,hk,hsf⟩ := hrel
  have HK := Lib.hid hk
  have HSF := Lib.hid hsf
  clear hk hsf
  by_cases hlt : (a : Int) < (m : Int)
  ·
   have a0 : (0 : Int) ≤ (a : Int) := by omega
   obtain ⟨p,hp⟩ : ∃ p,ws[a]? = some p := ⟨_,List.getElem?_eq_getElem (by have := HM.out; omega)⟩
   have HPA := Lib.hid hp
   have hwa : IntKind.i64.wrap ((a : Int) + 1) = (a : Int) + 1 := by rw [IntKind.wrap_i64]; omega
   clear hp
   obtain ⟨wu,hwu⟩ : ∃ v,wr = v := ⟨_,rfl⟩
   subst hwu
   go_wp2_with fail
   go_loopw [4] (fun i wq => ∃ e : Nat,e ≤ a ∧ i = .int .i64 e ∧ Keeps [] w wq ∧ ∀ (j : Nat) (q : Pr),j < e → ws[j]? = some q → q.cell ≠ p.cell) (fun i _ => a - (intOf i).toNat)
   case atStart => exact ⟨0,Nat.zero_le _,rfl,HK.out,fun j q h => absurd h (by omega)⟩
   case round =>
    obtain ⟨e,he,rfl,hk2,hsf2⟩ := hrel
    have HK2 := Lib.hid hk2
    have HSF2 := Lib.hid hsf2
    clear hk2 hsf2
    by_cases hlt2 : (e : Int) < (a : Int)
    ·
     have e0 : (0 : Int) ≤ (e : Int) := by omega
     have e1 : (e : Int) < (m : Int) := by omega
     obtain ⟨q,hq⟩ : ∃ q,ws[e]? = some q := ⟨_,List.getElem?_eq_getElem (by have := HM.out; omega)⟩
     have hps := HP.out.keeps HK2.out (by simp)
     obtain ⟨g,off,rfl,c0,_⟩ := hps.at_ HPA.out
     obtain ⟨g',off',eA,c1,_⟩ := hps.at_ hq
     injection eA with eA
     injection eA with eA1 eA2
     subst eA1 eA2
     have HQ := Lib.hid hq
     have hwe : IntKind.i64.wrap ((e : Int) + 1) = (e : Int) + 1 := by rw [IntKind.wrap_i64]; omega
     clear hq hps
     by_cases hc : q.cell = p.cell
     · have k1 : (q.cell == p.cell) = true := by simpa using hc
       have hNN := HNT.out (not_nodup (by omega) HPA.out HQ.out hc)
       subst hNN
       clear hc
       go_wp2_with fail
       go_quiet (fail)
       go_wp2_with fail
       go_ret
       exact ⟨rfl,HK2.out.drewN _⟩
     ·
      have k1 : (q.cell == p.cell) = false := by simpa using hc
      have HCN := Lib.hid hc
      clear hc
      go_wp2_with fail
      go_quiet (fail)
      go_wp2_with fail
      exact ⟨⟨e + 1,by omega,by simp,HK2.out.drewN _,fun j q' hj hq' => by
       rcases Nat.lt_or_ge j e with h1 | h1
       · exact HSF2.out j q' h1 hq'
       · have h2 : j = e := by omega
         subst h2
         rw [HQ.out] at hq'
         injection hq' with hq'
         subst hq'
         exact HCN.out⟩,by simp [intOf]; omega⟩
    ·
     obtain rfl : e = a := by omega
     clear hlt2
     go_wp2_with fail
     exact ⟨⟨e + 1,by omega,by simp,HK2.out,fun i j p' q' hi hj hp' hq' => by
      rcases Nat.lt_or_ge i e with h1 | h1
      · exact HSF.out i j p' q' h1 hj hp' hq'
      · have h2 : i = e := by omega
        subst h2
        rw [HPA.out] at hp'
        injection hp' with hp'
        subst hp'
        exact HSF2.out j q' hj hq'⟩,by simp [intOf]; omega⟩
  · obtain rfl : a = m := by omega
    have hNN := HNF.out (nodup_of (fun i j p q hij hp hq => HSF.out i j p q (by have h5 := (List.getElem?_eq_some_iff.1 hp).1; have := HM.out; omega) hij hp hq))
    subst hNN
    clear hlt
    go_wp2_with fail
    go_ret
    exact ⟨rfl,HK.out⟩
def NW (w w' : World) (y : Rb) (n jb : Nat) (M sl ge th st : Int) (ws : List Pr) (e : Ending) : Prop :=
 (M = 0 → ∃ b F,e = .returned (.tuple #[PT b,.int .i64 0]) ∧ CD w' y n jb b (Cm.new sl ge th st ws) F ∧ (∀ u,u ∈ F → w.heap.size ≤ u) ∧ (∀ u,u ∈ F → ∃ t,tyOf w' u = some t ∧ t ∉ fixT)) ∧ (M ≠ 0 → e = .returned (.tuple #[.pointer none,.int .i64 M])) ∧ Keeps [] w w'
theorem NW.no {w w' : World} {y : Rb} {n jb : Nat} {M sl ge th st : Int} {ws : List Pr} (hM : M ≠ 0) (hk : Keeps [] w w') : NW w w' y n jb M sl ge th st ws (.returned (.tuple #[.pointer none,.int .i64 M])) := ⟨fun h => absurd h hM,fun _ => rfl,hk⟩
theorem ownsRow_nil' (w : World) : w.ownsRow 0 81 2 (.slice none 0 0) 0 [] := World.ownsRow_nil _ _ _ _
set_option maxRecDepth 100000 in
set_option maxHeartbeats 4000000 in
theorem cd_new (h : RP w0 w y G S) (hcc : S.c = c) (hn : S.c.slots = (n : Int)) (sl ge th st : Int) (A : Option Addr) (cap : Nat) (ws : List Pr) (hw : Ps w A ws) (hl : ws.length ≤ 1048576) :
 Calls Tryz.prog 16 #[PT y.p,PT jb,.int .i64 sl,.int .i64 ge,.int .i64 th,.int .i64 st,.slice A ws.length cap] w fun e w' => NW w w' y n jb (mayE c sl th st ws) sl ge th st ws e := by
 have HR := Lib.hid h
 have HP := Lib.hid hw
 have HN := Lib.hid (And.intro hcc hn)
 obtain ⟨m,hm⟩ : ∃ m,ws.length = m := ⟨_,rfl⟩
 have HM := Lib.hid hm
 have QT := Lib.hid (rthread w th)
 rw [hm] at hl ⊢
 have hmi : (m : Int) ≤ 1048576 := by omega
 obtain ⟨M,hM⟩ : ∃ M,mayE c sl th st ws = M := ⟨_,rfl⟩
 have HE : Hid (M = if th < 1 ∨ 8 < th ∨ st < 1 ∨ m = 0 then 1 else if 16 < m then 3 else if sl < 0 ∨ c.slots ≤ sl then 2 else if ∃ p ∈ ws,p.cell < 0 ∨ c.cells ≤ p.cell then 2 else if ¬ (ws.map Pr.cell).Nodup then 1 else 0) := by rw [← hM]; unfold Hid mayE; rw [hm]
 rw [hM]
 clear h hcc hn hw hm hM hl
 by_cases ht : th < 1 ∨ 8 < th
 ·
  rw [decide_eq_true ht] at QT
  have hM1 : M = 1 := by have h5 := HE.out; rw [if_pos (by omega)] at h5; exact h5
  subst hM1
  clear ht
  go_enter Tryz.func16,Tryz.ntmps16
  go_wp2_with fail
  refine QT.out.mono ?_
  rintro e w1 ⟨rfl,hk⟩
  go_wp2_with fail
  go_ret2
  exact NW.no (by decide) hk
 rw [decide_eq_false ht] at QT
 by_cases hst : st < 1
 ·
  have d1 : decide (st < 1) = true := decide_eq_true hst
  have hM1 : M = 1 := by have h5 := HE.out; rw [if_pos (by omega)] at h5; exact h5
  subst hM1
  clear ht hst
  go_enter Tryz.func16,Tryz.ntmps16
  go_wp2_with fail
  refine QT.out.mono ?_
  rintro e w1 ⟨rfl,hk⟩
  go_wp2_with fail
  go_ret2
  exact NW.no (by decide) hk
 have d1 : decide (st < 1) = false := decide_eq_false hst
 by_cases hm0 : m = 0
 ·
  have d2 : ((m : Int) == 0) = true := by simp; omega
  have hM1 : M = 1 := by have h5 := HE.out; rw [if_pos (by omega)] at h5; exact h5
  subst hM1
  clear ht hst hm0
  go_enter Tryz.func16,Tryz.ntmps16
  go_wp2_with fail
  refine QT.out.mono ?_
  rintro e w1 ⟨rfl,hk⟩
  go_wp2_with fail
  go_ret2
  exact NW.no (by decide) hk
 have d2 : ((m : Int) == 0) = false := by simp; omega
 have HE2 : Hid (M = if 16 < m then 3 else if sl < 0 ∨ c.slots ≤ sl then 2 else if ∃ p ∈ ws,p.cell < 0 ∨ c.cells ≤ p.cell then 2 else if ¬ (ws.map Pr.cell).Nodup then 1 else 0) := by have h5 := HE.out; rw [if_neg (by omega)] at h5; exact h5
 clear HE
 by_cases h16 : 16 < m
 ·
  have d3 : decide ((m : Int) > 16) = true := decide_eq_true (by omega)
  have hM1 : M = 3 := by have h5 := HE2.out; rw [if_pos h16] at h5; exact h5
  subst hM1
  clear ht hst hm0 h16
  go_enter Tryz.func16,Tryz.ntmps16
  go_wp2_with fail
  refine QT.out.mono ?_
  rintro e w1 ⟨rfl,hk⟩
  go_wp2_with fail
  go_ret2
  exact NW.no (by decide) hk
 have d3 : decide ((m : Int) > 16) = false := decide_eq_false (by omega)
 have H16 : Hid (m ≤ 16) := by unfold Hid; omega
 have HE3 : Hid (M = if sl < 0 ∨ c.slots ≤ sl then 2 else if ∃ p ∈ ws,p.cell < 0 ∨ c.cells ≤ p.cell then 2 else if ¬ (ws.map Pr.cell).Nodup then 1 else 0) := by have h5 := HE2.out; rw [if_neg h16] at h5; exact h5
 clear HE2
 by_cases hs0 : sl < 0
 ·
  have d4 : decide (sl < 0) = true := decide_eq_true hs0
  have hM1 : M = 2 := by have h5 := HE3.out; rw [if_pos (by omega)] at h5; exact h5
  subst hM1
  clear ht hst hm0 h16 hs0
  go_enter Tryz.func16,Tryz.ntmps16
  go_wp2_with fail
  refine QT.out.mono ?_
  rintro e w1 ⟨rfl,hk⟩
  go_wp2_with fail
  go_ret2
  exact NW.no (by decide) hk
 have d4 : decide (sl < 0) = false := decide_eq_false hs0
 have hsn : c.slots = (n : Int) := by rw [← HN.out.1]; exact HN.out.2
 by_cases hs1 : (n : Int) ≤ sl
 ·
  have d5 : decide (sl ≥ (n : Int)) = true := decide_eq_true hs1
  have hM1 : M = 2 := by have h5 := HE3.out; rw [if_pos (by omega)] at h5; exact h5
  subst hM1
  clear ht hst hm0 h16 hs0 hs1
  go_enter Tryz.func16,Tryz.ntmps16
  go_wp2_with fail
  refine QT.out.mono ?_
  rintro e w1 ⟨rfl,hk⟩
  have c1 : w1.cell? ⟨y.p,1,none⟩ = some (.int .i64 (n : Int)) := by have h5 := (HR.out.calm hk).cells.2.1; rw [HN.out.2] at h5; exact h5
  go_wp2_with fail
  go_ret2
  exact NW.no (by decide) hk
 have d5 : decide (sl ≥ (n : Int)) = false := decide_eq_false hs1
 have HE4 : Hid (M = if ∃ p ∈ ws,p.cell < 0 ∨ c.cells ≤ p.cell then 2 else if ¬ (ws.map Pr.cell).Nodup then 1 else 0) := by have h5 := HE3.out; rw [if_neg (by omega)] at h5; exact h5
 have hmp : 0 < 0 + m := by omega
 clear HE3 ht hst hm0 h16 hs0 hs1 hsn
 go_enter Tryz.func16,Tryz.ntmps16
 go_wp2_with fail
 refine QT.out.mono ?_
 rintro e w1 ⟨rfl,hk⟩
 have c1 : w1.cell? ⟨y.p,1,none⟩ = some (.int .i64 (n : Int)) := by have h5 := (HR.out.calm hk).cells.2.1; rw [HN.out.2] at h5; exact h5
 have HK1 := Lib.hid hk
 clear hk QT
 go_wp2_with fail
 clear c1
 go_loopw [16] (fun i wr => ∃ j : Nat,j ≤ m ∧ i = .int .i64 j ∧ Keeps [] w wr ∧ ∀ q p,q < j → ws[q]? = some p → 0 ≤ p.cell ∧ p.cell < c.cells) (fun i _ => m - (intOf i).toNat)
 case atStart => exact ⟨0,Nat.zero_le _,rfl,HK1.out,fun q p hq => absurd hq (by omega)⟩
 case round =>
  obtain ⟨j,hj,rfl,hk,hsf⟩ := hrel
  have HK := Lib.hid hk
  have HSF := Lib.hid hsf
  clear hk hsf
  by_cases hlt : (j : Int) < (m : Int)
  ·
   have j0 : (0 : Int) ≤ (j : Int) := by omega
   obtain ⟨p,hp⟩ : ∃ p,ws[j]? = some p := ⟨_,List.getElem?_eq_getElem (by have := HM.out; omega)⟩
   obtain ⟨g,off,rfl,c0,_⟩ := (HP.out.keeps HK.out (by simp)).at_ hp
   have HPJ := Lib.hid hp
   have hw : IntKind.i64.wrap ((j : Int) + 1) = (j : Int) + 1 := by rw [IntKind.wrap_i64]; omega
   have QH := Lib.hid (rthere (HR.out.calm HK.out) p.cell)
   rw [HN.out.1] at QH
   clear hp
   by_cases hc : 0 ≤ p.cell ∧ p.cell < c.cells
   ·
    rw [decide_eq_true hc] at QH
    have HCC := Lib.hid hc
    clear hc
    go_wp2_with fail
    refine QH.out.mono ?_
    rintro e w2 ⟨rfl,hk2⟩
    have HK2 := Lib.hid (HK.out.trans hk2 (by simp))
    clear hk2 QH
    go_wp2_with fail
    exact ⟨⟨j + 1,by omega,by simp,HK2.out,fun q u hq hu => by
     rcases Nat.lt_or_ge q j with h1 | h1
     · exact HSF.out q u h1 hu
     · have h2 : q = j := by omega
       subst h2
       rw [HPJ.out] at hu
       injection hu with hu
       subst hu
       exact HCC.out⟩,by simp [intOf]; omega⟩
   ·
    rw [decide_eq_false hc] at QH
    have hM1 : M = 2 := by have h5 := HE4.out; rw [if_pos ⟨p,List.mem_of_getElem? HPJ.out,by omega⟩] at h5; exact h5
    subst hM1
    clear hc
    go_wp2_with fail
    refine QH.out.mono ?_
    rintro e w2 ⟨rfl,hk2⟩
    have HK2 := Lib.hid (HK.out.trans hk2 (by simp))
    clear hk2 QH
    go_wp2_with fail
    go_ret2
    exact NW.no (by decide) HK2.out
  ·
   obtain rfl : j = m := by omega
   have HE5 : Hid (M = if ¬ (ws.map Pr.cell).Nodup then 1 else 0) := by
    have h5 := HE4.out
    rw [if_neg (fun hx => by
     obtain ⟨p,hp,ho⟩ := hx
     obtain ⟨q,hq⟩ := List.getElem?_of_mem hp
     have hql := (List.getElem?_eq_some_iff.1 hq).1
     have := HSF.out q p (by have := HM.out; omega) hq
     omega)] at h5
    exact h5
   have QW := Lib.hid (twice_any wr A cap ws (HP.out.keeps HK.out (by simp)) (by rw [HM.out]; exact H16.out))
   rw [HM.out] at QW
   clear hlt HE4
   by_cases hnd : (ws.map Pr.cell).Nodup
   ·
    rw [decide_eq_false (fun hx => hx hnd)] at QW
    have hM1 : M = 0 := by have h5 := HE5.out; rw [if_neg (fun hx => hx hnd)] at h5; exact h5
    subst hM1
    clear hnd
    go_wp2_with fail
    refine QW.out.mono ?_
    rintro e w2 ⟨rfl,hk2⟩
    have HK2 := Lib.hid (HK.out.trans hk2 (by simp))
    have HS2 : Hid (0 < j → ∃ ad,A = some ad ∧ ∀ i u,(prCells ws)[i]? = some u → w2.cell? (ad.add i) = some u) := fun h0 => by
     obtain ⟨q,off,eA,hc⟩ := (HP.out.keeps HK2.out (by simp)) (by rw [HM.out]; exact h0)
     exact ⟨_,eA,fun i u hu => by
      have e : (⟨q,off,none⟩ : Addr).add i = ⟨q,off + i,none⟩ := by unfold Addr.add; split <;> simp_all
      rw [e]; exact hc i u hu⟩
    clear hk2 QW
    obtain ⟨i0,hi,hz0,hz1,hz2⟩ := info_parts Tryz.infoPr
    have hmx : Hid (0 + j ≤ maxLen) := by unfold Hid maxLen; have := H16.out; omega
    have hby : Hid ((0 + j) * 16 ≤ 140737488355328) := by unfold Hid; have := H16.out; omega
    have HLN : Hid ((prCells ws).length = j * 2) := by unfold Hid; rw [prCells_len,HM.out]
    go_wp2_with (at_builtin; refine wpList_append_src rfl (.tmp 60) (.tmp 61) 67 rfl 81 i0 _ 2 16 Tryz.underlying67 hi hz0 hz1 hz2 rfl (by decide) (.slice none 0 0) 0 [] rfl (ownsRow_nil' _) A j cap (prCells ws) rfl HLN.out HS2.out (pr_one _) hmx.out hby.out ?_; intro v1 w3 hown1 hg1 hat1; obtain ⟨g,cw,rfl,_,hgl⟩ := hown1.form hmp; have HV := Lib.hid (And.intro hown1 (And.intro hg1 hat1)); clear hown1 hg1 hat1)
    go_ret2
    have ho := HV.out.1
    rw [Nat.zero_add,List.nil_append] at ho
    have hkn : Keeps [] w w3 := HK2.out.grown HV.out.2.1 (by simp [Value.ownBlock])
    have hk4 : Keeps [] w3 (w3.alloc (.cells #[PT y.p,PT jb,.int .i64 sl,.int .i64 ge,.int .i64 th,.int .i64 st,.slice (some ⟨g,0,none⟩) (0 + j) cw,.int .i64 1,.int .i64 0,.pointer none,.pointer none,.int .i64 0,.int .i64 0,.bool false] 167)) := Sq.r.alloc _
    have hg0 : w.heap.size ≤ g := by
     have h5 := HV.out.2.2
     simp [Value.ownBlock] at h5
     have h6 := HK2.out.size
     omega
    rw [Nat.zero_add] at hk4
    simp only [Nat.zero_add]
    refine ⟨fun _ => ⟨w3.heap.size,[w3.heap.size,g],rfl,⟨0,.slice none 0 0,0,none,0,[],.slice none 0 0,.slice (some ⟨g,0,none⟩) j cw,0,?_,⟨g,cw,by rw [show (Cm.new sl ge th st ws).ws.length = j from HM.out],?_⟩,fun l e => (by cases e),fun q e => (by cases e),fun q e => (by cases e),fun l q e => (by cases e),by simp,fun u hu => by simp [vblk,Value.ownBlock] at hu; simp [hu],fun _ => rfl,fun k e => (by cases e),fun _ => rfl,fun _ => rfl⟩,fun u hu => ?_,fun u hu => ?_⟩,fun hx => absurd rfl hx,hkn.trans hk4 (by simp)⟩
    · exact Blk.new _ _ _
    · show World.ownsRow _ 0 _ 2 _ ws.length _
      rw [HM.out]
      exact own_keeps ho hk4 (by simp)
    · simp at hu
      rcases hu with hu | hu
      · have h7 := hkn.size; omega
      · omega
    · simp at hu
      rcases hu with hu | hu
      · subst hu; exact ⟨_,(Blk.new w3 _ _).tyOf,by decide⟩
      · subst hu; exact ⟨_,tyOf_keeps (own_in ho u (by simp [vblk,Value.ownBlock])) hk4 (by simp),by decide⟩
   ·
    rw [decide_eq_true hnd] at QW
    have hM1 : M = 1 := by have h5 := HE5.out; rw [if_pos hnd] at h5; exact h5
    subst hM1
    clear hnd
    go_wp2_with fail
    refine QW.out.mono ?_
    rintro e w2 ⟨rfl,hk2⟩
    have HK2 := Lib.hid (HK.out.trans hk2 (by simp))
    clear hk2 QW
    go_wp2_with fail
    go_ret2
    exact NW.no (by decide) HK2.out
end
end Cd
end Go.Proofs.YtmlnedilbneekaaGreat