/- MemAny: a row of things: each cell holds what was laid there last: the call returns true for every input. -/
import Derived.Test.YtlpgcfgnimchaaaRows
import Derived.Test.YtlpgcfgnimchaaaMemAnyP
import Derived.Test.YtlpgcfgnimchaaaAwake1
import Derived.Deep.QuietTactic
import Derived.BigQuiet
import Derived.Deep.DeepCutAuto
import Derived.Deep.Cut
import Derived.ChangeMaps5
import Derived.WalkKit
import Derived.ProofKit
import Derived.OpenShut
import Derived.ShutString
import Derived.ChangeOld
import Derived.Below
import Derived.Carry
namespace Go.Proofs.Ytlpgcfgnimchaaa.memAny
open Go.ChangeShapes Go.WideShapes Go.ChangeAt Go.RowKit
set_option linter.unusedVariables false


theorem trade_bad (w : World) (r b : Nat) (kind : Int) (mp : Option Nat) (l : List Th) (hr : RowS.At RowS.R w r b kind mp l) (k : Int) (hk : (l.length : Int) ≤ k) (h0 : 0 ≤ k) (old new : Th) :
    Calls Try.prog 11 #[.pointer (some ⟨r, 0, none⟩), .int .i64 k, .agg #[.string old.s, .int .i64 old.a, .int .i64 old.b], .agg #[.string new.s, .int .i64 new.a, .int .i64 new.b]] w fun e w' =>
      e = .returned (.tuple #[.agg #[.string ⟨#[]⟩, .int .i64 0, .int .i64 0], .bool false, .int .i64 2]) ∧ Keeps [] w w' := by
  have ka : Keeps [] w ((((w.alloc (.cells #[.string old.s, .int .i64 old.a, .int .i64 old.b] 31)).alloc (.cells #[.string new.s, .int .i64 new.a, .int .i64 new.b] 31)).alloc (.cells #[.string ⟨#[]⟩, .int .i64 0, .int .i64 0] 31)).alloc (.cells #[.string ⟨#[]⟩, .int .i64 0, .int .i64 0] 31)) := ((((Keeps.refl _ _).alloc _).alloc _).alloc _).alloc _
  have c2 : ((((w.alloc (.cells #[.string old.s, .int .i64 old.a, .int .i64 old.b] 31)).alloc (.cells #[.string new.s, .int .i64 new.a, .int .i64 new.b] 31)).alloc (.cells #[.string ⟨#[]⟩, .int .i64 0, .int .i64 0] 31)).alloc (.cells #[.string ⟨#[]⟩, .int .i64 0, .int .i64 0] 31)).cell? ⟨r, 2, none⟩ = some (.slice (some ⟨b, 0, none⟩) l.length l.length) := ((hr.blk.keeps ka (by simp)).cell 2).trans rfl
  have hf := hr.fits
  have hd : decide (k < (l.length : Int)) = false := by simp; omega
  clear hr ka
  go_enter Try.func11, Try.ntmps11
  go_wp2
  refine bodyPost_ret (v := .tuple #[.agg #[.string ⟨#[]⟩, .int .i64 0, .int .i64 0], .bool false, .int .i64 2]) (by simp [results, Try.results11, go_sem]) rfl ⟨rfl, ?_⟩
  repeat (first | with_reducible exact Keeps.refl _ _ | with_reducible refine Keeps.alloc ?_ _ | with_reducible refine Keeps.drew ?_ | with_reducible refine Keeps.setCell ?_ (.inr (by simp <;> omega)) _)
theorem new_ex (w : World) (n : Nat) (h1 : 1 ≤ n) (h2 : n ≤ 4096) : Calls Try.prog 10 #[.pointer none, .int .i64 0, .int .i64 n] w fun e w' =>
    ∃ r b, e = .returned (.tuple #[.pointer (some ⟨r, 0, none⟩), .int .i64 0]) ∧ RowS.At RowS.R w' r b 0 none (List.replicate n Th.zero) ∧ Keeps [] w w' ∧ w.heap.size ≤ b :=
  (RowS.newRow_ok w none 0 n h1 h2).mono fun e w' ⟨he, h3, h4, _⟩ => ⟨_, _, he, h3, h4, Nat.le_refl _⟩
theorem keeps_cell0' {w w' : World} (hk : Keeps [] w w') {b o : Nat} {v : Value} (h : w.cell? ⟨b, o, none⟩ = some v) : w'.cell? ⟨b, o, none⟩ = some v := (keeps_cell hk (World.block_lt_of_cell? w _ h) (by simp)).trans h
theorem all_ex (w : World) (r b : Nat) (l : List Th) (hr : RowS.At RowS.R w r b 0 none l) (hn : 1 ≤ l.length) :
    Calls Try.prog 14 #[.pointer (some ⟨r, 0, none⟩)] w fun e w' => ∃ a c, e = .returned (.slice (some ⟨a, 0, none⟩) l.length c) ∧ (∀ (k : Nat) (x : Th), l[k]? = some x → w'.rangeAt a (k * 3) (RowS.cells x)) ∧ Keeps [] w w' :=
  (RowS.all_any w r b 0 none l hr).mono fun e w' ⟨v, he, h1, h2⟩ => by
    rcases h1.2 with ⟨_, h0⟩ | ⟨a, cap, cur, rfl, hb, hg, h3, _⟩
    · omega
    · exact ⟨a, cap, he, fun k x hx j v hv => (h1.cellAt (k * 3 + j) (by rw [← RowS.cells_length]; exact (List.getElem?_eq_some_iff.1 (RowS.cells_get l k x hx j v hv)).1)).trans (by simp [RowS.cells_get l k x hx j v hv]), h2⟩
/-- The array of nothing. -/
def Z32 : Array Value := ((List.replicate 32 Th.zero).flatMap RowS.cells).toArray
theorem zero32 : ∀ w, (zeroValue 32).run Try.prog w = .ok (.agg Z32) w := fun w => by kernel_rfl
attribute [local go_sem] td_c0 td_c1 td_c2 td_free Option.isSome_some Option.getD_some
set_option maxRecDepth 100000 in
set_option maxHeartbeats 8000000 in
theorem walk (a0 : Int) (A : Option Addr) (c : Nat) (xs : List Int) (B : Option Addr) (d : Nat) (ys : List ByteArray) (old : ByteArray) (w : World) (hb : (Lit.int IntKind.i64 a0).wf = true) (sA : Slc w A xs) (sB : SlcS w B ys) :
    Calls Try.prog 4 #[.int .i64 a0, .slice A xs.length c, .slice B ys.length d, .string old] w fun e w' => e = .returned (.bool true) ∧ Below w.heap.size w w' := by
  have SA := Lib.hid sA
  have SB := Lib.hid sB
  have hxl0 : xs.length ≤ 9223372036854775807 := sA.1
  have hyl0 : ys.length ≤ 9223372036854775807 := sB.1
  have hxl : (xs.length : Int) ≤ 9223372036854775807 := by omega
  have hyl : (ys.length : Int) ≤ 9223372036854775807 := by omega
  have hb31 := i64_and31 a0
  obtain ⟨q, hq⟩ : ∃ q : Nat, a0 % 32 = q := ⟨(a0 % 32).toNat, by omega⟩
  rw [hq] at hb31
  have hq2 : q < 32 := by omega
  obtain ⟨nn, hnn⟩ : ∃ nn : Nat, (1 : Int) + q = nn := ⟨1 + q, by omega⟩
  have nn1 : 1 ≤ nn := by omega
  have nn32 : nn ≤ 32 := by omega
  clear sA sB hxl0 hyl0 hq
  go_enter Try.func4, Try.ntmps4
  go_wp2_with fail
  refine (awake1 _).mono ?_
  rintro e w1 ⟨rfl, hk1⟩
  have HK1 := Lib.hid hk1
  clear hk1
  go_wp2_with fail
  refine (new_ex w1 nn nn1 (by omega)).mono ?_
  rintro e w2 ⟨r, b, rfl, hr, hk2, hlb⟩
  have HR := Lib.hid hr
  have HK2 := Lib.hid hk2
  have HLB := Lib.hid hlb
  clear hr hk2 hlb hb31 hq2 hnn
  have hz32 := zero32
  go_wp2_with fail
  have hI : AI w1 (w2.alloc (.cells Z32 32)) r b w2.heap.size (List.replicate nn Th.zero) (List.replicate 32 Th.zero) := by
    have k3 : Keeps [] w2 (w2.alloc (.cells Z32 32)) := (Keeps.refl _ _).alloc _
    refine ⟨HR.out.keeps k3 (by simp) (by simp), Blk.new _ _ _, HK2.out.trans k3 (by simp), HLB.out, HK2.out.size, by simp, fun j x hx => ?_⟩
    rw [List.getElem?_replicate] at hx ⊢
    split at hx
    · rw [if_pos (by omega)]; exact hx
    · cases hx
  have HI0 := Lib.hid hI
  clear hI HR HK2 HLB hz32
  go_loopw [14] (fun i wr => ∃ (j : Nat) (l L : List Th), j ≤ xs.length ∧ i = .int .i64 j ∧ l.length = nn ∧ AI w1 wr r b w2.heap.size l L) (fun i _ => xs.length - (intOf i).toNat)
  case atStart => exact ⟨0, _, _, Nat.zero_le _, rfl, by simp, HI0.out⟩
  case round =>
    obtain ⟨j, l, L, hj, rfl, hl, hi⟩ := hrel
    have KW := Lib.hid (HK1.out.trans hi.keep (by simp))
    have HI := Lib.hid hi
    clear hi
    by_cases hx : j < xs.length
    · have hx0 : (j : Int) < (xs.length : Int) := by omega
      by_cases hy : j < ys.length
      · have hy0 : (j : Int) < (ys.length : Int) := by omega
        have j0 : (0 : Int) ≤ (j : Int) := by omega
        obtain ⟨xj, hz⟩ : ∃ z, xs[j]? = some z := ⟨_, List.getElem?_eq_getElem hx⟩
        obtain ⟨yj, hyy⟩ : ∃ y, ys[j]? = some y := ⟨_, List.getElem?_eq_getElem hy⟩
        rcases SA.out.2 with h0 | ⟨ba, oa, rfl, hba, hca⟩
        · subst h0; simp at hx
        rcases SB.out.2 with h0 | ⟨bb, ob, rfl, hbb, hcb⟩
        · subst h0; simp at hy
        have d1 := (keeps_cell (p := ⟨ba, oa + j, none⟩) KW.out hba (by simp)).trans (hca j xj hz)
        have HD2 := Lib.hid (fun w' (hk : Keeps [] w w') => (keeps_cell (p := ⟨bb, ob + j, none⟩) hk hbb (by simp)).trans (hcb j yj hyy))
        have d2 := HD2.out _ KW.out
        have hp31 := i64_and31 xj
        obtain ⟨p, hpq⟩ : ∃ p : Nat, xj % 32 = p := ⟨(xj % 32).toNat, by omega⟩
        rw [hpq] at hp31
        have p0 : (0 : Int) ≤ (p : Int) := by omega
        have p32 : (p : Int) < 32 := by omega
        have kB : Keeps [] wr (wr.alloc (.cells #[.string yj, .int .i64 (j : Int), .int .i64 (p : Int)] 31)) := (Keeps.refl _ _).alloc _
        have HB := Lib.hid (HI.out.calm kB)
        have TN := Lib.hid (td_new wr (⟨yj, (j : Int), (p : Int)⟩ : Th))
        have nbz : Hid (wr.heap.size ≠ b) := by have := HI.out.row.row.lt; unfold Hid; omega
        have KBB := Lib.hid kB
        clear hca hcb hba hbb hz hyy hpq kB
        by_cases hpn : p < nn
        · have hpi : (p : Int) < (nn : Int) := by omega
          have hpm : ¬ ((nn : Int) ≤ (p : Int)) := by omega
          obtain ⟨xp, hxp⟩ : ∃ x, l[p]? = some x := ⟨_, List.getElem?_eq_getElem (by omega)⟩
          by_cases hox : xp = ⟨old, 0, 0⟩
          · subst hox
            have he1 : ∀ w, (Op.equalIn 10000 31 (.agg #[.string old, .int .i64 0, .int .i64 0]) (.agg #[.string old, .int .i64 0, .int .i64 0])).run Try.prog w = .ok true w := fun w => by have h := RowS.eq_run w ⟨old, 0, 0⟩ ⟨old, 0, 0⟩; simpa using h
            have QT := Lib.hid (RowS.trade_yes (wr.alloc (.cells #[.string yj, .int .i64 (j : Int), .int .i64 (p : Int)] 31)) r b 0 none l HB.out.row 0 MS.zero (met_n _) room_n p ⟨old, 0, 0⟩ ⟨yj, (j : Int), (p : Int)⟩ hxp)
            have HXP := Lib.hid hxp
            clear hxp
            as_aux_lemma =>
              go_wp2_with fail
              refine QT.out.mono ?_
              rintro e w4 ⟨rfl, hL⟩
              obtain ⟨hr4, ha4, hk4, hk04⟩ := HB.out.left hL
              have ka : Keeps [] w4 (w4.alloc (.cells #[.string old, .int .i64 0, .int .i64 0] 31)) := (Keeps.refl _ _).alloc _
              have u1 := td_keeps (td_keeps TN.out hk4 (by have := nbz.out; simpa using this)) ka (by simp)
              have u2 : td (w4.alloc (.cells #[.string old, .int .i64 0, .int .i64 0] 31)) w4.heap.size = some ⟨old, 0, 0⟩ := td_new w4 ⟨old, 0, 0⟩
              have ha5 : TArr (w4.alloc (.cells #[.string old, .int .i64 0, .int .i64 0] 31)) w2.heap.size L := Blk.keeps ha4 ka (by simp)
              obtain ⟨v0, v1, v2⟩ := ha5.cells (HB.out.same p _ HXP.out)
              have f0 := Blk.frozen ha5 (p * 3)
              have f1 := Blk.frozen ha5 (p * 3 + 1)
              have f2 := Blk.frozen ha5 (p * 3 + 2)
              have hr5 := hr4.keeps ka (by simp) (by simp)
              have H5 := Lib.hid (And.intro hr5 (And.intro ha5 (hk04.trans ka (by simp))))
              clear hL hr4 ha4 hk4 hk04 ka hr5 ha5 QT
              go_upto_region 17 with fail
              generalize hw5 : (w4.alloc (.cells #[.string old, .int .i64 0, .int .i64 0] 31)) = w5 at *
              clear hw5
              go_quiet (fail)
              go_wp2_with fail
              have kd : Keeps [] w5 (w5.drewN nq) := (Keeps.refl [] w5).drewN nq
              have h7 := HB.out.put (y := ⟨yj, (j : Int), (p : Int)⟩) (p := p) (w5 := w5.drewN nq) (H5.out.1.keeps kd (by simp) (by simp)) (Blk.keeps H5.out.2.1 kd (by simp)) (H5.out.2.2.trans kd (by simp))
              refine ⟨⟨j + 1, l.set p ⟨yj, (j : Int), (p : Int)⟩, L.set p ⟨yj, (j : Int), (p : Int)⟩, by omega, by simp, by simpa using hl, ?_⟩, by simp [intOf]; omega⟩
              exact h7
          · obtain ⟨x0, x1, x2⟩ := xp
            have he2 : ∀ w, (Op.equalIn 10000 31 (.agg #[.string x0, .int .i64 x1, .int .i64 x2]) (.agg #[.string old, .int .i64 0, .int .i64 0])).run Try.prog w = .ok false w := fun w => by have h := RowS.eq_run w ⟨x0, x1, x2⟩ ⟨old, 0, 0⟩; rw [decide_eq_false hox] at h; exact h
            have he3 : ∀ w, (Op.equalIn 10000 31 (.agg #[.string x0, .int .i64 x1, .int .i64 x2]) (.agg #[.string x0, .int .i64 x1, .int .i64 x2])).run Try.prog w = .ok true w := fun w => by have h := RowS.eq_run w ⟨x0, x1, x2⟩ ⟨x0, x1, x2⟩; simpa using h
            have he4 : ∀ w, (Op.equalIn 10000 31 (.agg #[.string yj, .int .i64 0, .int .i64 0]) (.agg #[.string yj, .int .i64 0, .int .i64 0])).run Try.prog w = .ok true w := fun w => by have h := RowS.eq_run w ⟨yj, 0, 0⟩ ⟨yj, 0, 0⟩; simpa using h
            have QT := Lib.hid (RowS.trade_not (wr.alloc (.cells #[.string yj, .int .i64 (j : Int), .int .i64 (p : Int)] 31)) r b 0 none l HB.out.row 0 MS.zero (met_n _) room_n p ⟨x0, x1, x2⟩ ⟨old, 0, 0⟩ ⟨yj, (j : Int), (p : Int)⟩ hxp hox)
            have HXP := Lib.hid hxp
            have HPL : Hid (p < l.length) := by unfold Hid; omega
            clear hxp hox
            as_aux_lemma =>
              go_wp2_with fail
              refine QT.out.mono ?_
              rintro e w4 ⟨rfl, hL⟩
              obtain ⟨hr4, ha4, hk4, hk04⟩ := HB.out.left hL
              have h4 : AI w1 w4 r b w2.heap.size l L := ⟨hr4, ha4, hk04, HB.out.lob, HB.out.loz, HB.out.len, HB.out.same⟩
              have ka : Keeps [] w4 (w4.alloc (.cells #[.string x0, .int .i64 x1, .int .i64 x2] 31)) := (Keeps.refl _ _).alloc _
              have u2 : td (w4.alloc (.cells #[.string x0, .int .i64 x1, .int .i64 x2] 31)) w4.heap.size = some ⟨x0, x1, x2⟩ := td_new w4 ⟨x0, x1, x2⟩
              have h5 := h4.calm ka
              obtain ⟨v0, v1, v2⟩ := h5.arr.cells (HB.out.same p _ HXP.out)
              have d5 := HD2.out _ (HK1.out.trans h5.keep (by simp))
              have H5 := Lib.hid h5
              clear hL hr4 ha4 hk4 hk04 ka h4 h5 QT
              go_upto_region 17 with fail
              generalize hw5 : (w4.alloc (.cells #[.string x0, .int .i64 x1, .int .i64 x2] 31)) = w5 at *
              clear hw5
              go_quiet (fail)
              go_wp2_with fail
              refine (RowS.store_at _ r b 0 none l (H5.out.calm ((Keeps.refl [] _).drewN _)).row 0 MS.zero (met_n _) room_n p ⟨yj, 0, 0⟩ HPL.out).mono ?_
              rintro e w6 ⟨rfl, hL⟩
              obtain ⟨hr6, ha6, hk6, hk06⟩ := (H5.out.calm ((Keeps.refl [] w5).drewN _)).left hL
              have d6 := HD2.out _ (HK1.out.trans hk06 (by simp))
              obtain ⟨t0, t1, t2⟩ := ha6.cells (HB.out.same p _ HXP.out)
              have g0 := Blk.frozen ha6 (p * 3)
              have g1 := Blk.frozen ha6 (p * 3 + 1)
              have g2 := Blk.frozen ha6 (p * 3 + 2)
              have H7 := Lib.hid (H5.out.put hr6 ha6 hk06)
              clear hL hr6 ha6 hk6 hk06
              go_wp2_with fail
              refine (RowS.load_at _ r b 0 none _ H7.out.row 0 MS.zero (met_n _) room_n p ⟨yj, 0, 0⟩ (by rw [List.getElem?_set, if_pos rfl, if_pos HPL.out])).mono ?_
              rintro e w8 ⟨rfl, hL⟩
              obtain ⟨hr8, ha8, hk8, hk08⟩ := H7.out.left hL
              have h8 : AI w1 w8 r b w2.heap.size _ _ := ⟨hr8, ha8, hk08, H7.out.lob, H7.out.loz, H7.out.len, H7.out.same⟩
              have kb : Keeps [] w8 (w8.alloc (.cells #[.string yj, .int .i64 0, .int .i64 0] 31)) := (Keeps.refl _ _).alloc _
              have h9 := h8.calm kb
              have u9 : td (w8.alloc (.cells #[.string yj, .int .i64 0, .int .i64 0] 31)) w8.heap.size = some ⟨yj, 0, 0⟩ := td_new w8 ⟨yj, 0, 0⟩
              obtain ⟨r0, r1, r2⟩ := h9.arr.cells (k := p) (x := ⟨yj, 0, 0⟩) (by have h32 := H5.out.len; rw [List.getElem?_set, if_pos rfl, if_pos (by omega)])
              have H9 := Lib.hid h9
              clear hL hr8 ha8 hk8 hk08 h8 kb h9
              go_upto_region 24 with fail
              generalize hw9 : (w8.alloc (.cells #[.string yj, .int .i64 0, .int .i64 0] 31)) = w9 at *
              clear hw9
              go_quiet (fail)
              go_wp2_with fail
              exact ⟨⟨j + 1, _, _, by omega, by simp, by simpa using hl, H9.out.calm ((Keeps.refl [] _).drewN _)⟩, by simp [intOf]; omega⟩
        · have hpm : (nn : Int) ≤ (p : Int) := by omega
          have he0 : ∀ w, (Op.equalIn 10000 31 (.agg #[.string ⟨#[]⟩, .int .i64 0, .int .i64 0]) (.agg #[.string ⟨#[]⟩, .int .i64 0, .int .i64 0])).run Try.prog w = .ok true w := fun w => by have h := RowS.eq_run w Th.zero Th.zero; simpa [Th.zero] using h
          as_aux_lemma =>
            go_wp2_with fail
            refine (trade_bad (wr.alloc (.cells #[.string yj, .int .i64 (j : Int), .int .i64 (p : Int)] 31)) r b 0 none l HB.out.row p (by omega) (by omega) ⟨old, 0, 0⟩ ⟨yj, (j : Int), (p : Int)⟩).mono ?_
            rintro e w4 ⟨rfl, hk4⟩
            have H4 := Lib.hid (HB.out.calm (hk4.alloc (.cells #[.string ⟨#[]⟩, .int .i64 0, .int .i64 0] 31)))
            clear hk4
            go_wp2_with fail
            exact ⟨⟨j + 1, l, L, by omega, by simp, hl, H4.out⟩, by simp [intOf]; omega⟩
      · have hy0 : ¬ ((j : Int) < (ys.length : Int)) := by omega
        go_wp2_with fail
        refine (all_ex wr r b l HI.out.row (by omega)).mono ?_
        rintro e w8 ⟨a, ca, he, hra, hk8⟩
        rw [hl] at he
        subst he
        have HR8 := Lib.hid hra
        have H8 := Lib.hid (HI.out.calm hk8)
        clear hra hk8
        go_wp2_with fail
        go_loopw [25] (fun i wq => ∃ q : Nat, q ≤ nn ∧ i = .int .i64 q ∧ Keeps [] w8 wq) (fun i _ => nn - (intOf i).toNat)
        case atStart => exact ⟨0, Nat.zero_le _, rfl, Keeps.refl _ _⟩
        case round =>
          obtain ⟨q, hq, rfl, hkq⟩ := hrel
          by_cases hlt : q < nn
          · have q0 : (0 : Int) ≤ (q : Int) := by omega
            have q1 : (q : Int) < (nn : Int) := by omega
            have q2 : (q : Int) < 32 := by omega
            obtain ⟨y, hyq⟩ : ∃ y, l[q]? = some y := ⟨_, List.getElem?_eq_getElem (by omega)⟩
            have h9 := H8.out.calm hkq
            obtain ⟨y0, y1, y2⟩ := h9.arr.cells (h9.same q y hyq)
            have e0 := HR8.out q y hyq
            have z0 : wr.cell? ⟨a, q * 3, none⟩ = some (.string y.s) := keeps_cell0' hkq (e0 0 _ rfl)
            have z1 : wr.cell? ⟨a, q * 3 + 1, none⟩ = some (.int .i64 y.a) := keeps_cell0' hkq (e0 1 _ rfl)
            have z2 : wr.cell? ⟨a, q * 3 + 2, none⟩ = some (.int .i64 y.b) := keeps_cell0' hkq (e0 2 _ rfl)
            have he : ∀ w, (Op.equalIn 10000 31 (.agg #[.string y.s, .int .i64 y.a, .int .i64 y.b]) (.agg #[.string y.s, .int .i64 y.a, .int .i64 y.b])).run Try.prog w = .ok true w := fun w => by have h := RowS.eq_run w y y; simpa using h
            clear e0 h9 hyq
            go_wp2_with fail
            go_quiet (fail)
            go_wp2_with fail
            exact ⟨⟨q + 1, by omega, by simp, hkq.trans ((Keeps.refl [] _).drewN _) (by simp)⟩, by simp [intOf]; omega⟩
          · have hge : ¬ ((q : Int) < (nn : Int)) := by omega
            go_wp2_with fail
            go_ret
            exact ⟨rfl, ((HK1.out.trans H8.out.keep (by simp)).trans hkq (by simp)).below (by simp) (Nat.le_refl _)⟩
    · have hx0 : ¬ ((j : Int) < (xs.length : Int)) := by omega
      go_wp2_with fail
      refine (all_ex wr r b l HI.out.row (by omega)).mono ?_
      rintro e w8 ⟨a, ca, he, hra, hk8⟩
      rw [hl] at he
      subst he
      have HR8 := Lib.hid hra
      have H8 := Lib.hid (HI.out.calm hk8)
      clear hra hk8
      go_wp2_with fail
      go_loopw [25] (fun i wq => ∃ q : Nat, q ≤ nn ∧ i = .int .i64 q ∧ Keeps [] w8 wq) (fun i _ => nn - (intOf i).toNat)
      case atStart => exact ⟨0, Nat.zero_le _, rfl, Keeps.refl _ _⟩
      case round =>
        obtain ⟨q, hq, rfl, hkq⟩ := hrel
        by_cases hlt : q < nn
        · have q0 : (0 : Int) ≤ (q : Int) := by omega
          have q1 : (q : Int) < (nn : Int) := by omega
          have q2 : (q : Int) < 32 := by omega
          obtain ⟨y, hyq⟩ : ∃ y, l[q]? = some y := ⟨_, List.getElem?_eq_getElem (by omega)⟩
          have h9 := H8.out.calm hkq
          obtain ⟨y0, y1, y2⟩ := h9.arr.cells (h9.same q y hyq)
          have e0 := HR8.out q y hyq
          have z0 : wr.cell? ⟨a, q * 3, none⟩ = some (.string y.s) := keeps_cell0' hkq (e0 0 _ rfl)
          have z1 : wr.cell? ⟨a, q * 3 + 1, none⟩ = some (.int .i64 y.a) := keeps_cell0' hkq (e0 1 _ rfl)
          have z2 : wr.cell? ⟨a, q * 3 + 2, none⟩ = some (.int .i64 y.b) := keeps_cell0' hkq (e0 2 _ rfl)
          have he : ∀ w, (Op.equalIn 10000 31 (.agg #[.string y.s, .int .i64 y.a, .int .i64 y.b]) (.agg #[.string y.s, .int .i64 y.a, .int .i64 y.b])).run Try.prog w = .ok true w := fun w => by have h := RowS.eq_run w y y; simpa using h
          clear e0 h9 hyq
          go_wp2_with fail
          go_quiet (fail)
          go_wp2_with fail
          exact ⟨⟨q + 1, by omega, by simp, hkq.trans ((Keeps.refl [] _).drewN _) (by simp)⟩, by simp [intOf]; omega⟩
        · have hge : ¬ ((q : Int) < (nn : Int)) := by omega
          go_wp2_with fail
          go_ret
          exact ⟨rfl, ((HK1.out.trans H8.out.keep (by simp)).trans hkq (by simp)).below (by simp) (Nat.le_refl _)⟩

theorem own : ownKnob Try.prog.godebug = none := by kernel_rfl
theorem laidOut : laidOutB Try.prog = true := by kernel_rfl

set_option maxRecDepth 100000 in
theorem lifted (os : Os) (started : os.Started) (H : Type) (enc : TypeId × Value → H) :
    ReturnsInHanded {} Try.checked os 4 .any (Rows.memAnySpec.pre6 enc Try.prog Try.f4 Rows.memAnyRow.domain false) (Rows.memAnySpec.post enc Try.prog Try.f4 false true false false) := by
  refine returnsInHanded_of_change (C := Try.checked) own started (by kernel_rfl) Try.func4
    (ChangeSpec.witness6 (enc := enc) (C := Try.checked) false ⟨#[], #[.int .i64 0, .slice none 0 0, .slice none 0 0, .string ByteArray.empty], []⟩ 8 (by kernel_rfl) (by kernel_rfl) (by kernel_rfl) (by kernel_rfl)) ?_
  intro W base args ds gs before hval0 hW hcnd _
  have hval : ∀ (j : Nat) t v, Try.f4.params[j]? = some t → args[j]? = some v → Value.okWide Try.prog W .any base t v := hval0
  have hW' := hW
  obtain ⟨p, q, hA0, hV, rfl, hfz, hnd⟩ := hW
  have hA : DataW.TrodAll enc Try.prog W 0 (fun _ => true) true Try.f4.params.toList args.toList ds p := hA0
  rw [Try.params4] at hA hval
  obtain ⟨v0, vs0, d0, ds0, p0, q0, hargs, rfl, rfl, h0, r0⟩ := trodAll_cons hA
  obtain ⟨v1, vs1, d1, ds1, p1, q1, rfl, rfl, rfl, h1, r1⟩ := trodAll_cons r0
  obtain ⟨v2, vs2, d2, ds2, p2, q2, rfl, rfl, rfl, h2, r2⟩ := trodAll_cons r1
  obtain ⟨v3, vs3, d3, ds3, p3, q3, rfl, rfl, rfl, h3, r3⟩ := trodAll_cons r2
  obtain ⟨rfl, rfl, rfl⟩ := trodAll_nil r3
  obtain rfl : args = #[v0, v1, v2, v3] := by cases args; simp_all
  obtain ⟨rfl, rfl⟩ := trodVars_none hV
  obtain ⟨a0, rfl, rfl, rfl, w0⟩ := open_int Try.underlying3 (hval 0 3 v0 rfl rfl) h0
  have k1 := h1
  have lt1 : ∀ x ∈ p1, x.block < W.heap.size := by obtain ⟨m, hm⟩ := k1; exact DataW.trod_lt m _ _ _ hm
  obtain ⟨A1, n1, c1, rfl⟩ := okWide_slice Try.underlying23 (hval 1 23 v1 rfl rfl)
  obtain ⟨fl1, hf1⟩ := h1
  obtain ⟨⟨xs1, s1⟩, z1⟩ := ints_open Try.underlying23 Try.underlying3 (by kernel_rfl) hf1
  obtain rfl := s1.1
  have k2 := h2
  have lt2 : ∀ x ∈ p2, x.block < W.heap.size := by obtain ⟨m, hm⟩ := k2; exact DataW.trod_lt m _ _ _ hm
  obtain ⟨A2, n2, c2, rfl⟩ := okWide_slice Try.underlying24 (hval 2 24 v2 rfl rfl)
  obtain ⟨fl2, hf2⟩ := h2
  obtain ⟨ys2, l2, s2⟩ := strs_open Try.underlying24 Try.underlying9 (by kernel_rfl) hf2
  obtain rfl := l2
  have k3 := h3
  have lt3 : ∀ x ∈ p3, x.block < W.heap.size := by obtain ⟨m, hm⟩ := k3; exact DataW.trod_lt m _ _ _ hm
  obtain ⟨y3, rfl, e3, f3, m3⟩ := Go.ChangeMaps.open_string Try.underlying9 (hval 3 9 v3 rfl rfl) h3
  clear hA0 hval0
  refine (walk a0 A1 c1 xs1 A2 c2 ys2 y3 W w0 (Slc.of_ints s1) s2 ).mono fun e W' ⟨he, bel⟩ => ?_
  subst he
  exact ⟨_, rfl, _, _, _, [], _, [], hW', trodAll_mk1 (shut_bool Try.underlying4 _), (trodAll_cons_mk (shut_int Try.underlying3 w0) (trodAll_cons_mk (Below.trod laidOut (by kernel_rfl) (of_decide_eq_true (by kernel_rfl)) k1 bel lt1) (trodAll_cons_mk (Below.trod laidOut (by kernel_rfl) (of_decide_eq_true (by kernel_rfl)) k2 bel lt2) (trodAll_cons_mk (Below.trod laidOut (by kernel_rfl) (of_decide_eq_true (by kernel_rfl)) k3 bel lt3) trodAll_mk0)))), rfl, bel.frame _, fun h => by cases h⟩

theorem over : Rows.memAnyRow.holds Try.pinned (OpenSpec.ofChange Rows.memAnySpec) :=
  OpenClaim.holds_of_wide 4 Try.f4 rfl rfl rfl rfl rfl rfl rfl ⟨rfl, rfl, rfl, rfl, rfl⟩ rfl rfl rfl rfl rfl (by kernel_rfl) Try.func4 (by kernel_rfl)
    (of_decide_eq_true (by kernel_rfl)) (by unfold Func.isWrapper; first | (rw [if_pos (by decide +kernel)]; kernel_rfl) | (rw [if_neg (by decide +kernel)]; exact ⟨rfl, rfl⟩))
    (fun os started H enc _ => lifted os started H enc)

/-- The statement. -/
theorem proved : Rows.MemAnySaid := over
#print axioms proved
end Go.Proofs.Ytlpgcfgnimchaaa.memAny
