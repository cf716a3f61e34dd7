/- LookPlays: the walk: what the call does, wherever what it reads is of bulk at most 1048576. -/
import Derived.Test.YtmlnedilbneekaaGreatLpDoesD
import Derived.Test.YtmlnedilbneekaaGreatOneStruct
import Derived.Deep.RegionHeld3
import Derived.Deep.QuietTactic
import Derived.BigQuiet
import Derived.Deep.DeepCutAuto
import Derived.Deep.CutBlock
import Derived.WalkKit
namespace Go.Proofs.YtmlnedilbneekaaGreat.lookPlays
open Go.RowKit
set_option linter.unusedVariables false

open PR LP
set_option maxRecDepth 100000 in
set_option maxHeartbeats 16000000 in
theorem walk (cf : Cf) (A : Option Addr) (nn c : Nat) (ops : List Op12) (w : World) (hs : LstOp12 w A nn c ops) :
    Calls Tryz.prog 3 #[.agg #[.int .i64 cf.cells, .int .i64 cf.slots, .int .i64 cf.bits, .int .i64 cf.tag, .int .i64 cf.bias, .int .i64 cf.defer], .slice A nn c] w fun e w' => e = .returned (.bool true) ∧ Below w.heap.size w w' := by
  have HSC := Lib.hid hs
  have hn := hs.2.2.1
  have hni : (nn : Int) ≤ 1048576 := by omega
  clear hs
  have kB : Keeps [] w (w.alloc (.cells cf.vals 23)) := (Keeps.refl _ _).alloc _
  have hb : Blk (w.alloc (.cells cf.vals 23)) w.heap.size 23 cf.vals := Blk.new _ _ _
  have HKB := Lib.hid kB
  have HBB := Lib.hid hb
  clear kB hb
  go_enter Tryz.func3, Tryz.ntmps3
  go_wp2_with fail
  refine (awake12 _).mono ?_
  rintro e w1 ⟨rfl, hk1⟩
  have HK1 : Hid (Keeps [] w w1) := HKB.out.trans hk1 (by simp)
  have HB1 : Hid (Blk w1 w.heap.size 23 cf.vals) := HBB.out.keeps hk1 (by simp)
  clear hk1 HKB HBB
  obtain ⟨d0, d1, d2, d3, d4, d5⟩ := cf_cells HB1.out
  go_wp2_with fail
  by_cases hok : cf.ok
  · refine (sp_new w1 cf hok).mono ?_
    rintro e w2 ⟨z, F, rfl, hsp⟩
    have HS2 := Lib.hid (hsp.base HK1.out)
    have hk2 := hsp.keep
    have HB2 : Hid (Blk w2 w.heap.size 23 cf.vals) := HB1.out.keeps hk2 (by simp)
    clear hsp hk2 d0 d1 d2 d3 d4 d5 HB1
    obtain ⟨d0, d1, d2, d3, d4, d5⟩ := cf_cells HB2.out
    go_wp2_with fail
    refine (rp_new w2 cf hok).mono ?_
    rintro e w3 ⟨y, G, rfl, hrp⟩
    have HR0 : Hid (Rg w (w3.alloc (.cells (rigA z y (fun _ => none) (fun _ => none) (fun _ => none) (fun _ => none)) 43)) z y cf.slots.toNat w3.heap.size none (Sp.new cf) (Sp.new cf) (fun _ => none) (fun _ => none) (fun _ => none) (fun _ => none)) := by
      have hk3 := hrp.keep
      refine LP.start (HS2.out.calm hk3) (hrp.base HS2.out.keep) (fun x hx hg => ?_)
      have h1 := HS2.out.lt x hx
      have h2 := hrp.low x hg
      omega
    clear hrp d0 d1 d2 d3 d4 d5 HS2 HB2 HK1
    have hsl := hok.2.1
    obtain ⟨n, hnn⟩ : ∃ n, cf.slots.toNat = n := ⟨_, rfl⟩
    have hcn : cf.slots = (n : Int) := by have h5 := hok.2.1; omega
    have hn8 : n ≤ 8 := by have h5 := hok.2.1; omega
    rw [hnn] at HR0
    have HNN := Lib.hid (And.intro hcn hn8)
    have HF0 := Lib.hid (Fit.new hok)
    obtain ⟨w4, hw4⟩ : ∃ v, (w3.alloc (.cells (rigA z y (fun _ => none) (fun _ => none) (fun _ => none) (fun _ => none)) 43)) = v := ⟨_, rfl⟩
    rw [hw4] at HR0
    have hw5 : w3.alloc (.cells #[PT z.p, PT y.p, .pointer none, .pointer none, .pointer none, .pointer none, .pointer none, .pointer none, .pointer none, .pointer none] 43) = w4 := hw4
    obtain ⟨gb, hgb⟩ : ∃ v, w3.heap.size = v := ⟨_, rfl⟩
    clear hw4 hcn hn8 hnn hsl
    go_upto_region 9 with fail
    try rw [hw5]
    rw [hgb] at HR0
    try rw [hgb]
    clear hw5 hgb
    go_wp2_with fail
    go_loopw [11] (fun i wr => ∃ (k : Nat) (S : Sp) (M N : ML) (A B : MD), k ≤ nn ∧ i = .int .i64 k ∧ Ins w wr z y n gb k cf S M N A B) (fun i _ => nn - (intOf i).toNat)
    case atStart => exact ⟨0, _, _, _, _, _, Nat.zero_le _, rfl, ⟨HR0.out, HF0.out, Sp.new_wu cf, rfl, fun j => .inl ⟨rfl, rfl⟩, fun j => .inl ⟨rfl, rfl⟩⟩⟩
    case round =>
      clear HR0 HF0
      obtain ⟨k, S, M, N, A1, B1, hk, rfl, hI⟩ := hrel
      have HI := Lib.hid hI
      clear hI
      by_cases hlt : k < nn
      · obtain ⟨ab, off, p, rfl, hp, hvs, hcell⟩ := HSC.out.at_ hlt
        have hop := hcell wr HI.out.rg.keep
        have c0 := hop.c0
        have c1 := hop.c1
        have c2 := hop.c2
        have c3 := hop.c3
        have c4 := hop.c4
        have c5 := hop.c5
        have c6 := hop.c6
        have c7 := hop.c7
        have k0 : (0 : Int) ≤ (k : Int) := by omega
        have k1 : (k : Int) < (nn : Int) := by omega
        have QD := Lib.hid (does_any HI.out (by omega) HNN.out.1 HNN.out.2 p hop.ok hvs hop.cap hop.ln)
        have HCELL := Lib.hid hcell
        clear hop hcell hp hvs
        unfold Op12.vals at QD
        go_wp2_with fail
        refine QD.out.mono ?_
        rintro e w5 ⟨rfl, S5, M5, N5, A5, B5, hI5⟩
        have HI5 := Lib.hid hI5
        have c1 := (HCELL.out w5 hI5.rg.keep).c1
        obtain ⟨j, hj⟩ : ∃ j : Nat, p.m % 2 = (j : Int) := ⟨(p.m % 2).toNat, by omega⟩
        have m1 : bits .and .i64 p.m 1 = (j : Int) := (i64_and1 p.m).trans hj
        have hj2 : j < 2 := by omega
        have QT := Lib.hid (told_yes hI5.rg (by rw [hI5.c]; exact HNN.out.1) hj2 hI5.pl hI5.pd (by omega))
        clear hI5 QD c0 c2 c3 c4 c5 c6 c7 hj hj2
        go_wp2_with fail
        refine QT.out.mono ?_
        rintro e w6 ⟨rfl, hk6⟩
        have HI6 : Hid (Ins w w6 z y n gb (k + 1) cf S5 M5 N5 A5 B5) := ⟨HI5.out.rg.calm hk6, HI5.out.fit, HI5.out.wu, HI5.out.c, HI5.out.pl, HI5.out.pd⟩
        clear hk6 HI5 QT m1
        go_wp2_with fail
        exact ⟨⟨k + 1, _, _, _, _, _, by omega, by simp, HI6.out⟩, by simp [intOf]; omega⟩
      · have hge : ¬ ((k : Int) < (nn : Int)) := by omega
        have QS := Lib.hid (same_any HI.out.rg HI.out.fit (by omega))
        have HKP := Lib.hid HI.out.rg.keep
        clear HI
        go_wp2_with fail
        refine QS.out.mono ?_
        rintro e wf ⟨rfl, hkf⟩
        go_wp2_with fail
        go_ret
        exact ⟨rfl, (HKP.out.trans hkf (by simp)).below (by simp) (Nat.le_refl _)⟩
  · refine (sp_new_bad w1 cf hok).mono ?_
    rintro e w2 ⟨rfl, hk2⟩
    have HK2 : Hid (Keeps [] w w2) := HK1.out.trans hk2 (by simp)
    have HB2 : Hid (Blk w2 w.heap.size 23 cf.vals) := HB1.out.keeps hk2 (by simp)
    clear hk2 d0 d1 d2 d3 d4 d5 HB1 HK1
    obtain ⟨d0, d1, d2, d3, d4, d5⟩ := cf_cells HB2.out
    go_wp2_with fail
    refine (rp_new_bad w2 cf hok).mono ?_
    rintro e w3 ⟨rfl, hk3⟩
    have HK3 : Hid (Keeps [] w w3) := HK2.out.trans hk3 (by simp)
    clear hk3
    go_wp2_with fail
    go_ret
    exact ⟨rfl, HK3.out.below (by simp) (Nat.le_refl _)⟩
end Go.Proofs.YtmlnedilbneekaaGreat.lookPlays
