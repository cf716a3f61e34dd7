/- GatePlays: two gates of one meter and the document: the call returns true wherever what it reads is of bulk at most 1048576. -/
import Derived.Test.YtdkbdlhfhmgenaaRows
import Derived.Test.YtdkbdlhfhmgenaaGDuo
import Derived.Test.YtdkbdlhfhmgenaaGateAwake
import Derived.Test.YtdkbdlhfhmgenaaScript5
import Derived.Deep.RegionHeld3
import Derived.JoinedCond
import Derived.WalkKit
import Derived.ProofKit
import Derived.OpenShut
import Derived.ShutString
import Derived.ChangeOld
import Derived.Below
import Derived.Carry
namespace Go.Proofs.Ytdkbdlhfhmgenaa.gatePlays
open Go.ChangeShapes Go.WideShapes Go.ChangeAt Go.RowKit
set_option linter.unusedVariables false


set_option maxRecDepth 100000 in
set_option maxHeartbeats 4000000 in
theorem walk (A : Option Addr) (n c : Nat) (ops : List Op5) (w : World) (hs : Script5 w A n c ops) :
    Calls Try.prog 4 #[.slice A n c] w fun e w' => e = .returned (.bool true) ∧ Below w.heap.size w w' := by
  have HSC := Lib.hid hs
  have hn := hs.2.2.1
  have hni : (n : Int) ≤ 1048576 := by omega
  clear hs
  go_enter Try.func4, Try.ntmps4
  go_wp2_with fail
  refine (awake5 _).mono ?_
  rintro e w1 ⟨rfl, hk1⟩
  have HK1 := Lib.hid hk1
  clear hk1
  go_wp2_with fail
  refine (newMeter w1).mono ?_
  rintro e w2 ⟨m, rfl, hm, hk2, hm2⟩
  have H2 := Lib.hid (And.intro hm (And.intro hk2 hm2))
  clear hm hk2 hm2
  go_wp2_with fail
  refine (gate_new w2 (some m)).mono ?_
  rintro e w3 ⟨rfl, hg3, hk3⟩
  have H3 := Lib.hid (And.intro hg3 hk3)
  clear hg3 hk3
  go_wp2_with fail
  refine (gate_new w3 (some m)).mono ?_
  rintro e w4 ⟨rfl, hg4, hk4⟩
  have H4 := Lib.hid (And.intro hg4 hk4)
  clear hg4 hk4
  go_wp2_with fail
  obtain ⟨w7, hw7⟩ : ∃ w7, ((w4.alloc (.cells #[.int .i64 0, .int .i64 0, .int .i64 0, .int .i64 0, .slice none 0 0] XT)).alloc (.cells #[.pointer (some ⟨w4.heap.size, 0, none⟩), .int .i64 0, .int .i64 0] 45)).alloc (.cells #[.pointer (some ⟨w4.heap.size, 0, none⟩), .int .i64 0, .int .i64 0] 45) = w7 := ⟨_, rfl⟩
  have HINV : Hid (GInv w w7 m w4.heap.size (w2.heap.size + 2) (w2.heap.size + 1) w2.heap.size (w4.heap.size + 1) Gt.zero (w3.heap.size + 2) (w3.heap.size + 1) w3.heap.size (w4.heap.size + 1 + 1) Gt.zero 0) := by
    obtain ⟨m2, k2, e2⟩ := H2.out
    obtain ⟨g3, k3⟩ := H3.out
    obtain ⟨g4, k4⟩ := H4.out
    have k47 : Keeps [] w4 w7 := hw7 ▸ (((Keeps.refl [] w4).alloc _).alloc _).alloc _
    have k37 := k4.trans k47 (by simp)
    have k27 := k3.trans k37 (by simp)
    have x7 : MetAt XT w7 (some w4.heap.size) w4.heap.size MS.zero := by
      have hx : MetAt XT (w4.alloc (.cells #[.int .i64 0, .int .i64 0, .int .i64 0, .int .i64 0, .slice none 0 0] XT)) (some w4.heap.size) w4.heap.size MS.zero := ⟨_, Blk.new _ _ _, World.ownsRow_nil _ _ _ _, .inl ⟨rfl, rfl⟩⟩
      exact hw7 ▸ (hx.alloc _).alloc _
    have r1 : RG w7 (w4.heap.size + 1) w4.heap.size Gt.zero := by rw [← hw7]; exact Blk.alloc (new_at _ _ _ (by simp)) _
    have r2 : RG w7 (w4.heap.size + 1 + 1) w4.heap.size Gt.zero := by rw [← hw7]; exact new_at _ _ _ (by simp)
    have h1 := HK1.out.size
    have hz2 := k2.size
    have hz3 := k3.size
    have hz4 := k4.size
    have hl3 := g3.1.lt
    have hl4 := g4.1.lt
    have hlm := foot_lt m2 (k := m) (by simp [foot])
    unfold Hid
    refine ⟨m, w4.heap.size, MS.zero, ⟨⟨g3.keeps k37 (by simp) (by simp) (by simp), r1, m2.keeps k27 (by simp), x7, by omega⟩, ⟨g4.keeps k47 (by simp) (by simp) (by simp), r2, m2.keeps k27 (by simp), x7, by omega⟩, by omega, by omega⟩, Nat.le_refl _, ?_, (HK1.out.trans k2 (by simp)).trans k27 (by simp), ⟨by decide, by decide, .inr ⟨by decide, rfl⟩⟩, ⟨by decide, by decide, .inr ⟨by decide, rfl⟩⟩⟩
    intro y hy
    simp only [List.mem_cons, List.not_mem_nil, or_false] at hy
    omega
  rw [hw7]
  clear H2 H3 H4 HK1 hw7
  obtain ⟨x, hx⟩ : ∃ q, w4.heap.size = q := ⟨_, rfl⟩
  obtain ⟨z1, hz1⟩ : ∃ q, w4.heap.size + 1 = q := ⟨_, rfl⟩
  obtain ⟨z2, hz2⟩ : ∃ q, w4.heap.size + 1 + 1 = q := ⟨_, rfl⟩
  obtain ⟨q1, hq1⟩ : ∃ q, w2.heap.size + 2 = q := ⟨_, rfl⟩
  obtain ⟨q2, hq2⟩ : ∃ q, w3.heap.size + 2 = q := ⟨_, rfl⟩
  obtain ⟨r1, hr1⟩ : ∃ q, w2.heap.size + 1 = q := ⟨_, rfl⟩
  obtain ⟨r2, hr2⟩ : ∃ q, w3.heap.size + 1 = q := ⟨_, rfl⟩
  obtain ⟨b1, hb1⟩ : ∃ q, w2.heap.size = q := ⟨_, rfl⟩
  obtain ⟨b2, hb2⟩ : ∃ q, w3.heap.size = q := ⟨_, rfl⟩
  rw [hz2, hz1, hx, hq1, hq2, hr1, hr2, hb1, hb2] at HINV
  rw [hz2, hz1, hx, hq1, hq2]
  clear hx hz1 hz2 hq1 hq2 hr1 hr2 hb1 hb2
  go_loopw [10] (fun i wr => ∃ (k : Nat) (g h : Gt), k ≤ n ∧ i = .int .i64 k ∧ GInv w wr m x q1 r1 b1 z1 g q2 r2 b2 z2 h k) (fun i _ => n - (intOf i).toNat)
  case atStart => exact ⟨0, _, _, Nat.zero_le _, rfl, HINV.out⟩
  case round =>
    obtain ⟨k, g, h, hk, rfl, hi⟩ := hrel
    have HC0 := Lib.hid hi
    clear hi
    by_cases hlt : k < n
    · obtain ⟨ab, off, p, rfl, hp, hcell⟩ := HSC.out.at_ hlt
      have hop := hcell wr (HC0.out.kept.below (by simp) (Nat.le_refl _))
      have c0 := hop.c0
      have c1 := hop.c1
      have c2 := hop.c2
      clear hop hcell hp
      have k0 : (0 : Int) ≤ (k : Int) := by omega
      have k1 : (k : Int) < (n : Int) := by omega
      obtain ⟨po, kd, t⟩ := p
      simp only at c0 c1 c2
      have HBK := Lib.hid (Keeps.alloc (Keeps.refl [] wr) (.cells #[.bool po, .int .i64 kd, .int .i64 t] 29))
      have BB := Lib.hid (Blk.new wr 29 #[.bool po, .int .i64 kd, .int .i64 t])
      have HC1 := Lib.hid (HC0.out.keeps HBK.out)
      by_cases e1 : kd = 1
      · subst e1
        go_wp2_with fail
        refine (HC0.out.begin HBK.out t).mono ?_
        rintro e w5 ⟨rfl, S, hS, hkS, hcl⟩
        have bb := BB.out.keeps hkS (fun hx => by have := hS _ hx; omega)
        have x0 : w5.cell? ⟨wr.heap.size, 0, none⟩ = some (.bool po) := (bb.cell 0).trans rfl
        have x1 : w5.cell? ⟨wr.heap.size, 1, none⟩ = some (.int .i64 1) := (bb.cell 1).trans rfl
        have x2 : w5.cell? ⟨wr.heap.size, 2, none⟩ = some (.int .i64 t) := (bb.cell 2).trans rfl
        have B5 := Lib.hid bb
        have HCL := Lib.hid hcl
        clear hkS hcl bb
        go_wp2_with fail
        refine HCL.out.mono ?_
        rintro e w6 ⟨rfl, S2, hS2, hkS2, hg⟩
        have bb := B5.out.keeps hkS2 (fun hx => by have := hS2 _ hx; omega)
        have y0 : w6.cell? ⟨wr.heap.size, 0, none⟩ = some (.bool po) := (bb.cell 0).trans rfl
        have y1 : w6.cell? ⟨wr.heap.size, 1, none⟩ = some (.int .i64 1) := (bb.cell 1).trans rfl
        have y2 : w6.cell? ⟨wr.heap.size, 2, none⟩ = some (.int .i64 t) := (bb.cell 2).trans rfl
        have HG6 := Lib.hid hg
        clear hkS2 hg bb x0 x1 x2 B5 HCL BB HC1 hS hS2
        obtain ⟨kd, hkd⟩ : ∃ kd : Int, kd = 1 := ⟨_, rfl⟩
        rw [← hkd] at y1
        clear hkd
        cases po
        · go_wp2_with fail
          refine ((HG6.out).does (by omega) false kd t).mono ?_
          rintro e w8 ⟨rfl, g, hq⟩
          have HQ := Lib.hid hq
          clear hq
          obtain ⟨lb, lbx, s, hd, hsl, hlo, hkp, hg1, hg2⟩ := id HQ.out
          obtain ⟨vx, hmx⟩ := hd.one.mex
          have BX5 := Lib.hid hmx.blk
          have HD := Lib.hid hd
          have HC := Lib.hid (show ∀ w', Keeps [] w8 w' → w'.cell? ⟨z1, 1, none⟩ = some (.int .i64 g.number) ∧ w'.cell? ⟨z1, 2, none⟩ = some (.int .i64 g.owner) ∧ w'.cell? ⟨z2, 1, none⟩ = some (.int .i64 h.number) ∧ w'.cell? ⟨z2, 2, none⟩ = some (.int .i64 h.owner) ∧ w'.cell? ⟨x, 2, none⟩ = some (.int .i64 s.done) from fun w' hk => ⟨((HD.out.keeps hk).one.ref.cells).2.1, ((HD.out.keeps hk).one.ref.cells).2.2, ((HD.out.keeps hk).two.ref.cells).2.1, ((HD.out.keeps hk).two.ref.cells).2.2, ((BX5.out.keeps hk (by simp)).cell 2).trans rfl⟩)
          have QN1 := Lib.hid (fun w (hk : Keeps [] w8 w) => now_held (wB := w8) (w := w) q1 r1 b1 (some m) g (HD.out.keeps hk).one.gate hk)
          have QN2 := Lib.hid (fun w (hk : Keeps [] w8 w) => now_held (wB := w8) (w := w) q2 r2 b2 (some m) h (HD.out.keeps hk).two.gate hk)
          have QD := Lib.hid (fun w (hk : Keeps [] w8 w) => done_held (wB := w8) (w := w) m lb s (HD.out.keeps hk).one.met hk)
          have he1 : ∀ w, (Op.equalIn 10000 35 (.agg #[.int .i64 g.number, .int .i64 g.owner]) (.agg #[.int .i64 g.number, .int .i64 g.owner])).run Try.prog w = .ok true w := fun w => same_run w g.number g.owner
          have he2 : ∀ w, (Op.equalIn 10000 35 (.agg #[.int .i64 h.number, .int .i64 h.owner]) (.agg #[.int .i64 h.number, .int .i64 h.owner])).run Try.prog w = .ok true w := fun w => same_run w h.number h.owner
          have hkB : Keeps [] w8 w8 := Keeps.refl _ _
          clear hd hmx hsl hlo hkp hg1 hg2
          go_wp2_with fail
          go_region_held3 (fun w' => w'.cell? ⟨z1, 1, none⟩ = some (.int .i64 g.number) ∧ w'.cell? ⟨z1, 2, none⟩ = some (.int .i64 g.owner) ∧ w'.cell? ⟨z2, 1, none⟩ = some (.int .i64 h.number) ∧ w'.cell? ⟨z2, 2, none⟩ = some (.int .i64 h.owner) ∧ w'.cell? ⟨x, 2, none⟩ = some (.int .i64 s.done)) (first | exact HC.out _ (by first | assumption | exact Keeps.drew (by assumption)) | go_keep) ((first
            | (go_at_call_of 15 (Value.pointer (some ⟨q1, 0, none⟩)); refine (QN1.out _ (by first | assumption | exact Keeps.drew (by assumption))).mono ?_; rintro e wc ⟨rfl, hkc⟩)
            | (go_at_call_of 15 (Value.pointer (some ⟨q2, 0, none⟩)); refine (QN2.out _ (by first | assumption | exact Keeps.drew (by assumption))).mono ?_; rintro e wc ⟨rfl, hkc⟩)
            | (go_at_call 20; refine (QD.out _ (by first | assumption | exact Keeps.drew (by assumption))).mono ?_; rintro e wc ⟨rfl, hkc⟩)))
          have HE := Lib.hid (HQ.out.keeps hkc)
          clear HC QN1 QN2 QD he1 he2 hkB BX5
          go_wp2_with fail
          go_roundw
          case rel => exact ⟨k + 1, _, _, by omega, by go_num, HE.out⟩
          case measure => simp [intOf]; omega
        · go_wp2_with fail
          refine ((HG6.out).symm.does (by omega) true kd t).mono ?_
          rintro e w8 ⟨rfl, h, hq⟩
          have HQ := Lib.hid hq.symm
          clear hq
          obtain ⟨lb, lbx, s, hd, hsl, hlo, hkp, hg1, hg2⟩ := id HQ.out
          obtain ⟨vx, hmx⟩ := hd.one.mex
          have BX5 := Lib.hid hmx.blk
          have HD := Lib.hid hd
          have HC := Lib.hid (show ∀ w', Keeps [] w8 w' → w'.cell? ⟨z1, 1, none⟩ = some (.int .i64 g.number) ∧ w'.cell? ⟨z1, 2, none⟩ = some (.int .i64 g.owner) ∧ w'.cell? ⟨z2, 1, none⟩ = some (.int .i64 h.number) ∧ w'.cell? ⟨z2, 2, none⟩ = some (.int .i64 h.owner) ∧ w'.cell? ⟨x, 2, none⟩ = some (.int .i64 s.done) from fun w' hk => ⟨((HD.out.keeps hk).one.ref.cells).2.1, ((HD.out.keeps hk).one.ref.cells).2.2, ((HD.out.keeps hk).two.ref.cells).2.1, ((HD.out.keeps hk).two.ref.cells).2.2, ((BX5.out.keeps hk (by simp)).cell 2).trans rfl⟩)
          have QN1 := Lib.hid (fun w (hk : Keeps [] w8 w) => now_held (wB := w8) (w := w) q1 r1 b1 (some m) g (HD.out.keeps hk).one.gate hk)
          have QN2 := Lib.hid (fun w (hk : Keeps [] w8 w) => now_held (wB := w8) (w := w) q2 r2 b2 (some m) h (HD.out.keeps hk).two.gate hk)
          have QD := Lib.hid (fun w (hk : Keeps [] w8 w) => done_held (wB := w8) (w := w) m lb s (HD.out.keeps hk).one.met hk)
          have he1 : ∀ w, (Op.equalIn 10000 35 (.agg #[.int .i64 g.number, .int .i64 g.owner]) (.agg #[.int .i64 g.number, .int .i64 g.owner])).run Try.prog w = .ok true w := fun w => same_run w g.number g.owner
          have he2 : ∀ w, (Op.equalIn 10000 35 (.agg #[.int .i64 h.number, .int .i64 h.owner]) (.agg #[.int .i64 h.number, .int .i64 h.owner])).run Try.prog w = .ok true w := fun w => same_run w h.number h.owner
          have hkB : Keeps [] w8 w8 := Keeps.refl _ _
          clear hd hmx hsl hlo hkp hg1 hg2
          go_wp2_with fail
          go_region_held3 (fun w' => w'.cell? ⟨z1, 1, none⟩ = some (.int .i64 g.number) ∧ w'.cell? ⟨z1, 2, none⟩ = some (.int .i64 g.owner) ∧ w'.cell? ⟨z2, 1, none⟩ = some (.int .i64 h.number) ∧ w'.cell? ⟨z2, 2, none⟩ = some (.int .i64 h.owner) ∧ w'.cell? ⟨x, 2, none⟩ = some (.int .i64 s.done)) (first | exact HC.out _ (by first | assumption | exact Keeps.drew (by assumption)) | go_keep) ((first
            | (go_at_call_of 15 (Value.pointer (some ⟨q1, 0, none⟩)); refine (QN1.out _ (by first | assumption | exact Keeps.drew (by assumption))).mono ?_; rintro e wc ⟨rfl, hkc⟩)
            | (go_at_call_of 15 (Value.pointer (some ⟨q2, 0, none⟩)); refine (QN2.out _ (by first | assumption | exact Keeps.drew (by assumption))).mono ?_; rintro e wc ⟨rfl, hkc⟩)
            | (go_at_call 20; refine (QD.out _ (by first | assumption | exact Keeps.drew (by assumption))).mono ?_; rintro e wc ⟨rfl, hkc⟩)))
          have HE := Lib.hid (HQ.out.keeps hkc)
          clear HC QN1 QN2 QD he1 he2 hkB BX5
          go_wp2_with fail
          go_roundw
          case rel => exact ⟨k + 1, _, _, by omega, by go_num, HE.out⟩
          case measure => simp [intOf]; omega
      have n1 : (kd == 1) = false := by simpa using e1
      cases po
      · go_wp2_with fail
        refine ((HC1.out).does (by omega) false kd t).mono ?_
        rintro e w8 ⟨rfl, g, hq⟩
        have HQ := Lib.hid hq
        clear hq
        obtain ⟨lb, lbx, s, hd, hsl, hlo, hkp, hg1, hg2⟩ := id HQ.out
        obtain ⟨vx, hmx⟩ := hd.one.mex
        have BX5 := Lib.hid hmx.blk
        have HD := Lib.hid hd
        have HC := Lib.hid (show ∀ w', Keeps [] w8 w' → w'.cell? ⟨z1, 1, none⟩ = some (.int .i64 g.number) ∧ w'.cell? ⟨z1, 2, none⟩ = some (.int .i64 g.owner) ∧ w'.cell? ⟨z2, 1, none⟩ = some (.int .i64 h.number) ∧ w'.cell? ⟨z2, 2, none⟩ = some (.int .i64 h.owner) ∧ w'.cell? ⟨x, 2, none⟩ = some (.int .i64 s.done) from fun w' hk => ⟨((HD.out.keeps hk).one.ref.cells).2.1, ((HD.out.keeps hk).one.ref.cells).2.2, ((HD.out.keeps hk).two.ref.cells).2.1, ((HD.out.keeps hk).two.ref.cells).2.2, ((BX5.out.keeps hk (by simp)).cell 2).trans rfl⟩)
        have QN1 := Lib.hid (fun w (hk : Keeps [] w8 w) => now_held (wB := w8) (w := w) q1 r1 b1 (some m) g (HD.out.keeps hk).one.gate hk)
        have QN2 := Lib.hid (fun w (hk : Keeps [] w8 w) => now_held (wB := w8) (w := w) q2 r2 b2 (some m) h (HD.out.keeps hk).two.gate hk)
        have QD := Lib.hid (fun w (hk : Keeps [] w8 w) => done_held (wB := w8) (w := w) m lb s (HD.out.keeps hk).one.met hk)
        have he1 : ∀ w, (Op.equalIn 10000 35 (.agg #[.int .i64 g.number, .int .i64 g.owner]) (.agg #[.int .i64 g.number, .int .i64 g.owner])).run Try.prog w = .ok true w := fun w => same_run w g.number g.owner
        have he2 : ∀ w, (Op.equalIn 10000 35 (.agg #[.int .i64 h.number, .int .i64 h.owner]) (.agg #[.int .i64 h.number, .int .i64 h.owner])).run Try.prog w = .ok true w := fun w => same_run w h.number h.owner
        have hkB : Keeps [] w8 w8 := Keeps.refl _ _
        clear hd hmx hsl hlo hkp hg1 hg2
        go_wp2_with fail
        go_region_held3 (fun w' => w'.cell? ⟨z1, 1, none⟩ = some (.int .i64 g.number) ∧ w'.cell? ⟨z1, 2, none⟩ = some (.int .i64 g.owner) ∧ w'.cell? ⟨z2, 1, none⟩ = some (.int .i64 h.number) ∧ w'.cell? ⟨z2, 2, none⟩ = some (.int .i64 h.owner) ∧ w'.cell? ⟨x, 2, none⟩ = some (.int .i64 s.done)) (first | exact HC.out _ (by first | assumption | exact Keeps.drew (by assumption)) | go_keep) ((first
          | (go_at_call_of 15 (Value.pointer (some ⟨q1, 0, none⟩)); refine (QN1.out _ (by first | assumption | exact Keeps.drew (by assumption))).mono ?_; rintro e wc ⟨rfl, hkc⟩)
          | (go_at_call_of 15 (Value.pointer (some ⟨q2, 0, none⟩)); refine (QN2.out _ (by first | assumption | exact Keeps.drew (by assumption))).mono ?_; rintro e wc ⟨rfl, hkc⟩)
          | (go_at_call 20; refine (QD.out _ (by first | assumption | exact Keeps.drew (by assumption))).mono ?_; rintro e wc ⟨rfl, hkc⟩)))
        have HE := Lib.hid (HQ.out.keeps hkc)
        clear HC QN1 QN2 QD he1 he2 hkB BX5
        go_wp2_with fail
        go_roundw
        case rel => exact ⟨k + 1, _, _, by omega, by go_num, HE.out⟩
        case measure => simp [intOf]; omega
      · go_wp2_with fail
        refine ((HC1.out).symm.does (by omega) true kd t).mono ?_
        rintro e w8 ⟨rfl, h, hq⟩
        have HQ := Lib.hid hq.symm
        clear hq
        obtain ⟨lb, lbx, s, hd, hsl, hlo, hkp, hg1, hg2⟩ := id HQ.out
        obtain ⟨vx, hmx⟩ := hd.one.mex
        have BX5 := Lib.hid hmx.blk
        have HD := Lib.hid hd
        have HC := Lib.hid (show ∀ w', Keeps [] w8 w' → w'.cell? ⟨z1, 1, none⟩ = some (.int .i64 g.number) ∧ w'.cell? ⟨z1, 2, none⟩ = some (.int .i64 g.owner) ∧ w'.cell? ⟨z2, 1, none⟩ = some (.int .i64 h.number) ∧ w'.cell? ⟨z2, 2, none⟩ = some (.int .i64 h.owner) ∧ w'.cell? ⟨x, 2, none⟩ = some (.int .i64 s.done) from fun w' hk => ⟨((HD.out.keeps hk).one.ref.cells).2.1, ((HD.out.keeps hk).one.ref.cells).2.2, ((HD.out.keeps hk).two.ref.cells).2.1, ((HD.out.keeps hk).two.ref.cells).2.2, ((BX5.out.keeps hk (by simp)).cell 2).trans rfl⟩)
        have QN1 := Lib.hid (fun w (hk : Keeps [] w8 w) => now_held (wB := w8) (w := w) q1 r1 b1 (some m) g (HD.out.keeps hk).one.gate hk)
        have QN2 := Lib.hid (fun w (hk : Keeps [] w8 w) => now_held (wB := w8) (w := w) q2 r2 b2 (some m) h (HD.out.keeps hk).two.gate hk)
        have QD := Lib.hid (fun w (hk : Keeps [] w8 w) => done_held (wB := w8) (w := w) m lb s (HD.out.keeps hk).one.met hk)
        have he1 : ∀ w, (Op.equalIn 10000 35 (.agg #[.int .i64 g.number, .int .i64 g.owner]) (.agg #[.int .i64 g.number, .int .i64 g.owner])).run Try.prog w = .ok true w := fun w => same_run w g.number g.owner
        have he2 : ∀ w, (Op.equalIn 10000 35 (.agg #[.int .i64 h.number, .int .i64 h.owner]) (.agg #[.int .i64 h.number, .int .i64 h.owner])).run Try.prog w = .ok true w := fun w => same_run w h.number h.owner
        have hkB : Keeps [] w8 w8 := Keeps.refl _ _
        clear hd hmx hsl hlo hkp hg1 hg2
        go_wp2_with fail
        go_region_held3 (fun w' => w'.cell? ⟨z1, 1, none⟩ = some (.int .i64 g.number) ∧ w'.cell? ⟨z1, 2, none⟩ = some (.int .i64 g.owner) ∧ w'.cell? ⟨z2, 1, none⟩ = some (.int .i64 h.number) ∧ w'.cell? ⟨z2, 2, none⟩ = some (.int .i64 h.owner) ∧ w'.cell? ⟨x, 2, none⟩ = some (.int .i64 s.done)) (first | exact HC.out _ (by first | assumption | exact Keeps.drew (by assumption)) | go_keep) ((first
          | (go_at_call_of 15 (Value.pointer (some ⟨q1, 0, none⟩)); refine (QN1.out _ (by first | assumption | exact Keeps.drew (by assumption))).mono ?_; rintro e wc ⟨rfl, hkc⟩)
          | (go_at_call_of 15 (Value.pointer (some ⟨q2, 0, none⟩)); refine (QN2.out _ (by first | assumption | exact Keeps.drew (by assumption))).mono ?_; rintro e wc ⟨rfl, hkc⟩)
          | (go_at_call 20; refine (QD.out _ (by first | assumption | exact Keeps.drew (by assumption))).mono ?_; rintro e wc ⟨rfl, hkc⟩)))
        have HE := Lib.hid (HQ.out.keeps hkc)
        clear HC QN1 QN2 QD he1 he2 hkB BX5
        go_wp2_with fail
        go_roundw
        case rel => exact ⟨k + 1, _, _, by omega, by go_num, HE.out⟩
        case measure => simp [intOf]; omega
    · have hge : ¬ ((k : Int) < (n : Int)) := by omega
      obtain ⟨lb, lbx, s, hd, hsl, _, hkp, _, _⟩ := HC0.out
      have hsl2 : s.log.length ≤ 2199023255552 := by omega
      have HSL := Lib.hid hsl2
      obtain ⟨vx, hmx⟩ := hd.one.mex
      obtain ⟨Ax, cx, rfl, _, lx⟩ := LogSlc.of_own hmx.own hsl2
      have LX := Lib.hid lx
      have BX5 := Lib.hid hmx.blk
      have HD := Lib.hid hd
      have HKP := Lib.hid hkp
      clear hd hmx lx hkp hsl hsl2
      have HC := Lib.hid (show ∀ w', Keeps [] wr w' → w'.cell? ⟨x, 4, none⟩ = some (.slice Ax s.log.length cx) from fun w' hk => ((BX5.out.keeps hk (by simp)).cell 4).trans rfl)
      have QL := Lib.hid (fun w (hk : Keeps [] wr w) => log_held (wB := wr) (w := w) m lb s (HD.out.keeps hk).one.met HSL.out hk)
      have QT := Lib.hid (fun w A c (hk : Keeps [] wr w) (h : LogSlc w A s.log) => same_held (wB := wr) (w := w) A Ax s.log c cx h (LX.out.keeps hk) hk)
      have hkB : Keeps [] wr wr := Keeps.refl _ _
      go_wp2_with fail
      go_region_held3 (fun w' => w'.cell? ⟨x, 4, none⟩ = some (.slice Ax s.log.length cx)) (first | exact HC.out _ (by first | assumption | exact Keeps.drew (by assumption)) | go_keep) ((first
        | (go_at_call 16; refine (QL.out _ (by first | assumption | exact Keeps.drew (by assumption))).mono ?_; rintro e wd ⟨A7, c7, rfl, hS7, hkd⟩)
        | (go_at_call 21; refine (QT.out _ _ _ (by first | assumption | exact Keeps.drew (by assumption)) (by assumption)).mono ?_; rintro e wd ⟨rfl, hkd⟩)))
      go_wp2_with fail
      go_ret
      exact ⟨rfl, (HKP.out.trans hkd (by simp)).below (by simp) (Nat.le_refl _)⟩

theorem own : ownKnob Try.prog.godebug = none := by kernel_rfl
theorem laidOut : laidOutB Try.prog = true := by kernel_rfl
set_option maxRecDepth 100000 in
theorem lifted (os : Os) (started : os.Started) (H : Type) (enc : TypeId × Value → H) (F : Stop.Interp) :
    ReturnsInHanded {} Try.checked os 4 .any ((Rows.OpenSpec.upto Rows.gatePlaysSpec).pre6 enc Try.prog Try.f4 Rows.gatePlaysUptoRow.domain false) (((Rows.OpenSpec.upto Rows.gatePlaysSpec).at F).post enc Try.prog Try.f4 false true false false) := by
  refine returnsInHanded_of_cond (C := Try.checked) (s := Rows.OpenSpec.upto Rows.gatePlaysSpec) (k := Rows.uptoSmall) rfl own started (by kernel_rfl) Try.func4
    (OpenSpec.witness (enc := enc) (C := Try.checked) (s := Rows.OpenSpec.upto Rows.gatePlaysSpec) (k := Rows.uptoSmall) rfl false ⟨#[], #[.slice none 0 0], []⟩ 8 (by kernel_rfl) (by kernel_rfl) (by kernel_rfl)
      (x := ([.nil], [], [])) (by kernel_rfl) rfl (by kernel_rfl)) ?_
  intro W base args ds gs before hval0 hW _ hk _
  have hval : ∀ (j : Nat) t v, Try.f4.params[j]? = some t → args[j]? = some v → Value.okWide Try.prog W .any base t v := hval0
  have hW' := hW
  obtain ⟨p, q, hA0, hV, rfl, hfz, hnd⟩ := hW
  have hA : DataW.TrodAll enc Try.prog W 0 (fun _ => true) true Try.f4.params.toList args.toList ds p := hA0
  rw [Try.params4] at hA hval
  obtain ⟨v0, vs0, d0, ds0, p0, q0, hargs, rfl, rfl, h0, r0⟩ := trodAll_cons hA
  obtain ⟨rfl, rfl, rfl⟩ := trodAll_nil r0
  obtain rfl : args = #[v0] := by cases args; simp_all
  obtain ⟨rfl, rfl⟩ := trodVars_none hV
  have k0 := h0
  have lt0 : ∀ x ∈ p0, x.block < W.heap.size := by obtain ⟨m, hm⟩ := k0; exact DataW.trod_lt m _ _ _ hm
  obtain ⟨A0, n0, c0, rfl⟩ := okWide_slice Try.underlying22 (hval 0 22 v0 rfl rfl)
  obtain ⟨ops0, s0⟩ : ∃ ops, Script5 W A0 n0 c0 ops := by
    obtain ⟨fuel, hf⟩ := h0
    exact script5_open hf (bulks.small hk (by simp))
  clear hA0 hval0
  refine (walk A0 n0 c0 ops0 W s0).mono fun e W' ⟨he, bel⟩ => ?_
  subst he
  exact ⟨_, rfl, _, _, _, [], _, [], hW', trodAll_mk1 (shut_bool Try.underlying4 _), (trodAll_cons_mk (Below.trod laidOut (by kernel_rfl) (of_decide_eq_true (by kernel_rfl)) k0 bel lt0) trodAll_mk0), rfl, bel.frame _, fun h => by cases h⟩

/-- The statement: the second form. -/
theorem proved : Rows.GatePlaysUptoSaid :=
  OpenClaim.holds_of_cond 4 Try.f4 rfl rfl rfl rfl rfl rfl rfl ⟨rfl, rfl, rfl, rfl, rfl⟩ rfl rfl rfl rfl rfl (by kernel_rfl) Try.func4 (by kernel_rfl)
    (of_decide_eq_true (by kernel_rfl)) (by unfold Func.isWrapper; first | (rw [if_pos (by decide +kernel)]; kernel_rfl) | (rw [if_neg (by decide +kernel)]; exact ⟨rfl, rfl⟩))
    (fun os started H enc _ F => lifted os started H enc F)
#print axioms proved
end Go.Proofs.Ytdkbdlhfhmgenaa.gatePlays
