/- MemApart: two rows with meters of their own, in turns, have nothing in common: for every script the call returns true. No condition. -/
import Derived.Test.YtlpgcfgnimchaaaRows
import Derived.Test.YtlpgcfgnimchaaaAwake1
import Derived.Test.YtlpgcfgnimchaaaPairs
import Derived.Deep.RegionHeld3
import Derived.Deep.DeepCutAuto
import Derived.Outline
import Derived.WalkKit
import Derived.ProofKit
import Derived.OpenShut
import Derived.ShutString
import Derived.ChangeOld
import Derived.Below
import Derived.Carry
namespace Go.Proofs.Ytlpgcfgnimchaaa.memApart
open Go.ChangeShapes Go.WideShapes Go.ChangeAt Go.RowKit
set_option linter.unusedVariables false

theorem log_slc (w : World) (g lb : Nat) (s : MS) (hm : MetAt MT w (some g) lb s) (hl : s.log.length ≤ 2199023255552) :
    Calls Try.prog 21 #[PM (some g)] w fun e w' => ∃ A c, e = .returned (.slice A s.log.length c) ∧ LogSlc w' A s.log ∧ Keeps [] w w' :=
  (log_some w g lb s hm hl).mono fun e w' ⟨v, he, h1, h2⟩ => by
    obtain ⟨A, c, hv, _, h3⟩ := LogSlc.of_own h1 hl
    exact ⟨A, c, by rw [he, hv], h3, h2⟩
theorem own_mono {w0 w : World} {g lb gx lbx r b ry bx : Nat} {kind : Int} {len n m : Nat} (h : Own w0 w g lb gx lbx r b ry bx kind len n) (hm : n ≤ m) : Own w0 w g lb gx lbx r b ry bx kind len m := by
  obtain ⟨l, s, h1, h2, h3, h4⟩ := h
  exact ⟨l, s, h1, h2, by omega, h4⟩

set_option maxRecDepth 100000 in
set_option maxHeartbeats 1000000 in
theorem walk (A : Option Addr) (n c : Nat) (ops : List Opd) (w : World) (hs : Script w A n c ops) :
    Calls Try.prog 7 #[.slice A n c] w fun e w' => e = .returned (.bool true) ∧ Below w.heap.size w w' := by
  have HSC := Lib.hid hs
  have hn := hs.2.2.1
  have hni : (n : Int) ≤ 2199023255488 := by omega
  clear hs
  go_enter Try.func7, Try.ntmps7
  go_wp2_with fail
  refine (awake1 _).mono ?_
  rintro e w1 ⟨rfl, hk1⟩
  have HK1 := Lib.hid hk1
  clear hk1
  go_wp2_with fail
  refine (newMeter w1).mono ?_
  rintro e w2 ⟨g1, rfl, hm1, hk2, hg1⟩
  have H2 := Lib.hid (And.intro hm1 (And.intro hk2 hg1))
  clear hm1 hk2 hg1
  go_wp2_with fail
  refine (newMeter w2).mono ?_
  rintro e w3 ⟨g2, rfl, hm2, hk3, hg2⟩
  have H3 := Lib.hid (And.intro hm2 (And.intro hk3 hg2))
  clear hm2 hk3 hg2
  go_wp2_with fail
  refine (RowI.newRow_ok w3 (some g1) 1 4 (by decide) (by decide)).mono ?_
  rintro e w4 ⟨rfl, hr1, hk4, hs4⟩
  have H4 := Lib.hid (And.intro hr1 (And.intro hk4 hs4))
  clear hr1 hk4 hs4
  go_wp2_with fail
  refine (RowI.newRow_ok w4 (some g2) 1 4 (by decide) (by decide)).mono ?_
  rintro e w5 ⟨rfl, hr2, hk5, hs5⟩
  have H5 := Lib.hid (And.intro hr2 (And.intro hk5 hs5))
  clear hr2 hk5 hs5
  go_wp2_with fail
  have hx6 : MetAt XT ((w5.alloc (.cells #[.int .i64 0, .int .i64 0, .int .i64 0, .int .i64 0, .slice none 0 0] XT)).alloc (.cells #[.int .i64 0, .int .i64 0, .int .i64 0, .int .i64 0, .slice none 0 0] XT)) (some w5.heap.size) w5.heap.size MS.zero :=
    MetAt.alloc (show MetAt XT (w5.alloc (.cells #[.int .i64 0, .int .i64 0, .int .i64 0, .int .i64 0, .slice none 0 0] XT)) (some w5.heap.size) w5.heap.size MS.zero from ⟨_, Blk.new _ _ _, World.ownsRow_nil _ _ _ _, .inl ⟨rfl, rfl⟩⟩) _
  have hz6 : MetAt XT ((w5.alloc (.cells #[.int .i64 0, .int .i64 0, .int .i64 0, .int .i64 0, .slice none 0 0] XT)).alloc (.cells #[.int .i64 0, .int .i64 0, .int .i64 0, .int .i64 0, .slice none 0 0] XT)) (some (w5.heap.size + 1)) (w5.heap.size + 1) MS.zero :=
    ⟨_, new_at _ _ _ (by simp), World.ownsRow_nil _ _ _ _, .inl ⟨rfl, rfl⟩⟩
  have HX := Lib.hid (And.intro hx6 hz6)
  clear hx6 hz6
  refine (RefI.new_ok _ w5.heap.size 1 4 (by decide) (by decide)).mono ?_
  rintro e w6 ⟨rfl, hr3, hk6, hs6⟩
  simp only [World.size_alloc] at hr3 hs6
  have H6 := Lib.hid (And.intro hr3 (And.intro hk6 hs6))
  clear hr3 hk6 hs6
  go_wp2_with fail
  refine (RefI.new_ok w6 (w5.heap.size + 1) 1 4 (by decide) (by decide)).mono ?_
  rintro e w7 ⟨rfl, hr4, hk7, hs7⟩
  have H7 := Lib.hid (And.intro hr4 (And.intro hk7 hs7))
  clear hr4 hk7 hs7
  have HINV : Hid (Own w w7 g1 g1 w5.heap.size w5.heap.size (w3.heap.size + 1) w3.heap.size (w5.heap.size + 1 + 1 + 1) (w5.heap.size + 1 + 1) 1 4 0 ∧ Own w w7 g2 g2 (w5.heap.size + 1) (w5.heap.size + 1) (w4.heap.size + 1) w4.heap.size (w6.heap.size + 1) w6.heap.size 1 4 0 ∧
      Sep (Fp g1 g1 w5.heap.size w5.heap.size (w3.heap.size + 1) w3.heap.size (w5.heap.size + 1 + 1 + 1) (w5.heap.size + 1 + 1)) (Fp g2 g2 (w5.heap.size + 1) (w5.heap.size + 1) (w4.heap.size + 1) w4.heap.size (w6.heap.size + 1) w6.heap.size) ∧ Keeps [] w w7) := by
    obtain ⟨m2, k2, e2⟩ := H2.out
    obtain ⟨m3, k3, e3⟩ := H3.out
    obtain ⟨a4, k4, s4⟩ := H4.out
    obtain ⟨a5, k5, s5⟩ := H5.out
    obtain ⟨x6, z6⟩ := HX.out
    obtain ⟨a6, k6, s6⟩ := H6.out
    obtain ⟨a7, k7, s7⟩ := H7.out
    have k56 : Keeps [] w5 w6 := (((Keeps.refl [] w5).alloc _).alloc _).trans k6 (by simp)
    have k57 := k56.trans k7 (by simp)
    have k47 := k5.trans k57 (by simp)
    have k37 := k4.trans k47 (by simp)
    have k27 := k3.trans k37 (by simp)
    have h1 := HK1.out.size
    have h2 := foot_lt m2 (k := g1) (by simp [foot])
    have h3 := foot_lt m3 (k := g2) (by simp [foot])
    have h3' := k3.size
    refine ⟨⟨_, MS.zero, ⟨a4.keeps k47 (by simp) (by simp), a6.keeps k7 (by simp) (by simp), m2.keeps k27 (by simp), (x6.keeps k6 (by simp)).keeps k7 (by simp), by omega, by omega⟩, rfl, Nat.le_refl _, ?_⟩,
      ⟨_, MS.zero, ⟨a5.keeps k57 (by simp) (by simp), a7, m3.keeps k37 (by simp), (z6.keeps k6 (by simp)).keeps k7 (by simp), by omega, by omega⟩, rfl, Nat.le_refl _, ?_⟩, ?_, (HK1.out.trans k2 (by simp)).trans k27 (by simp)⟩
    · intro x hx
      simp only [Fp, List.mem_cons, List.not_mem_nil, or_false] at hx
      omega
    · intro x hx
      simp only [Fp, List.mem_cons, List.not_mem_nil, or_false] at hx
      omega
    · intro x hx
      simp only [Fp, List.mem_cons, List.not_mem_nil, or_false] at hx ⊢
      rcases hx with h | h | h | h | h | h | h | h <;> omega
  clear H2 H3 H4 H5 H6 H7 HX HK1
  obtain ⟨x, hx⟩ : ∃ x, w5.heap.size = x := ⟨_, rfl⟩
  obtain ⟨b1, hb1⟩ : ∃ x, w3.heap.size = x := ⟨_, rfl⟩
  obtain ⟨b2, hb2⟩ : ∃ x, w4.heap.size = x := ⟨_, rfl⟩
  obtain ⟨b6, hb6⟩ : ∃ x, w6.heap.size = x := ⟨_, rfl⟩
  rw [hx, hb1, hb2, hb6] at HINV
  rw [hx, hb1, hb2, hb6]
  clear hx hb1 hb2 hb6
  go_wp2_with fail
  go_loopw [14] (fun i wr => ∃ (k lb1 lx1 lb2 lx2 : Nat), k ≤ n ∧ i = .int .i64 k ∧ Own w wr g1 lb1 x lx1 (b1 + 1) b1 (x + 1 + 1 + 1) (x + 1 + 1) 1 4 k ∧ Own w wr g2 lb2 (x + 1) lx2 (b2 + 1) b2 (b6 + 1) b6 1 4 k ∧
      Sep (Fp g1 lb1 x lx1 (b1 + 1) b1 (x + 1 + 1 + 1) (x + 1 + 1)) (Fp g2 lb2 (x + 1) lx2 (b2 + 1) b2 (b6 + 1) b6) ∧ Keeps [] w wr) (fun i _ => n - (intOf i).toNat)
  case atStart => exact ⟨0, _, _, _, _, Nat.zero_le _, rfl, HINV.out⟩
  case round =>
    obtain ⟨k, lb1, lx1, lb2, lx2, hk, rfl, ho1, ho2, hsep, hkr⟩ := hrel
    have HO := Lib.hid (And.intro ho1 (And.intro ho2 (And.intro hsep hkr)))
    clear ho1 ho2 hsep hkr
    by_cases hlt : k < n
    · obtain ⟨ab, off, p, rfl, hp, hcell⟩ := HSC.out.at_ hlt
      have hop := hcell wr (HO.out.2.2.2.below (by simp) (Nat.le_refl _))
      have hp0 := hcell w (Below.refl _ _)
      have c0 := hop.c0
      have c1 := hop.c1
      have c2 := hop.c2
      have c3 := hop.c3
      have c4 := hop.c4
      have c5 := hop.c5
      have HP0 := Lib.hid hp0
      clear hop hcell hp hp0
      have k0 : (0 : Int) ≤ (k : Int) := by omega
      have k1 : (k : Int) < (n : Int) := by omega
      obtain ⟨po, pk, pi, px, pold, pA, pn, pcap, pxs⟩ := p
      simp only at c0 c1 c2 c3 c4 c5
      cases po
      · go_wp2_with fail
        refine (own_does HO.out.2.2.2 HO.out.1 (by decide) (by omega) HO.out.2.1 HO.out.2.2.1 ⟨false, pk, pi, px, pold, pA, pn, pcap, pxs⟩ HP0.out.ints HP0.out.fits).mono ?_
        rintro e w8 ⟨rfl, lb', lx', q1, q2, q3, q4⟩
        have HQ := Lib.hid (And.intro q1 (And.intro q2 (And.intro q3 q4)))
        clear q1 q2 q3 q4
        go_wp2_with fail
        go_roundw
        case rel => exact ⟨k + 1, lb', lx', lb2, lx2, by omega, by go_num, HQ.out.1, own_mono HQ.out.2.1 (by omega), HQ.out.2.2.1, HQ.out.2.2.2⟩
        case measure => simp [intOf]; omega
      · go_wp2_with fail
        refine (own_does HO.out.2.2.2 HO.out.2.1 (by decide) (by omega) HO.out.1 HO.out.2.2.1.symm ⟨true, pk, pi, px, pold, pA, pn, pcap, pxs⟩ HP0.out.ints HP0.out.fits).mono ?_
        rintro e w8 ⟨rfl, lb', lx', q1, q2, q3, q4⟩
        have HQ := Lib.hid (And.intro q1 (And.intro q2 (And.intro q3 q4)))
        clear q1 q2 q3 q4
        go_wp2_with fail
        go_roundw
        case rel => exact ⟨k + 1, lb1, lx1, lb', lx', by omega, by go_num, own_mono HQ.out.2.1 (by omega), HQ.out.1, HQ.out.2.2.1.symm, HQ.out.2.2.2⟩
        case measure => simp [intOf]; omega
    · have hge : ¬ ((k : Int) < (n : Int)) := by omega
      obtain ⟨q1, q2, _, q4⟩ := HO.out
      obtain ⟨l1, s1, p1, _, f1, _⟩ := q1
      obtain ⟨l2, s2, p2, _, f2, _⟩ := q2
      obtain ⟨vx, hbx, hox, _⟩ := id p1.mex
      obtain ⟨vz, hbz, hoz, _⟩ := id p2.mex
      obtain ⟨Ax, cx, rfl, _, lx⟩ := LogSlc.of_own hox (by omega)
      obtain ⟨Az, cz, rfl, _, lz⟩ := LogSlc.of_own hoz (by omega)
      have ex : wr.cell? ⟨x, 4, none⟩ = some (.slice Ax s1.log.length cx) := (hbx.cell 4).trans rfl
      have ez : wr.cell? ⟨x + 1, 4, none⟩ = some (.slice Az s2.log.length cz) := (hbz.cell 4).trans rfl
      have LT := Lib.hid (And.intro hbx.lt hbz.lt)
      have EX := Lib.hid (And.intro ex ez)
      have LX := Lib.hid (And.intro lx lz)
      have LN : Hid (s1.log.length ≤ 2199023255552 ∧ s2.log.length ≤ 2199023255552) := ⟨by omega, by omega⟩
      have P1 := Lib.hid p1
      have P2 := Lib.hid p2
      have KW := Lib.hid q4
      clear hbx hbz hox hoz lx lz p1 p2 q4 HO f1 f2
      go_wp2_with fail
      go_region_held3 (fun w' => w'.cell? ⟨x, 4, none⟩ = some (.slice Ax s1.log.length cx) ∧ w'.cell? ⟨x + 1, 4, none⟩ = some (.slice Az s2.log.length cz)) (first | exact ⟨xv6, yv6⟩ | exact ⟨xv5, yv5⟩ | exact ⟨xv4, yv4⟩ | exact ⟨xv3, yv3⟩ | exact ⟨xv2, yv2⟩ | exact ⟨xv1, yv1⟩ | go_keep)
        (first
          | (go_at_call_of 27 (Value.pointer (some ⟨g1, 0, none⟩)); refine (meters_yes _ g1 lb1 x lx1 s1 P1.out.met.drew P1.out.mex.drew).mono ?_; rintro e v1 ⟨rfl, kk⟩; have K1 := Lib.hid kk.undrew; clear kk; have xv1 : v1.cell? ⟨x, 4, none⟩ = some (.slice Ax s1.log.length cx) := (keeps_cell K1.out LT.out.1 List.not_mem_nil).trans EX.out.1; have yv1 : v1.cell? ⟨x + 1, 4, none⟩ = some (.slice Az s2.log.length cz) := (keeps_cell K1.out LT.out.2 List.not_mem_nil).trans EX.out.2)
          | (go_at_call_of 27 (Value.pointer (some ⟨g2, 0, none⟩)); refine (meters_yes _ g2 lb2 (x + 1) lx2 s2 (P2.out.met.keeps K1.out (fun _ _ => List.not_mem_nil)) (P2.out.mex.keeps K1.out (fun _ _ => List.not_mem_nil))).mono ?_; rintro e v2 ⟨rfl, kk⟩; have K2 := Lib.hid (K1.out.trans kk (fun _ h => nomatch h)); clear kk; have xv2 : v2.cell? ⟨x, 4, none⟩ = some (.slice Ax s1.log.length cx) := (keeps_cell K2.out LT.out.1 List.not_mem_nil).trans EX.out.1; have yv2 : v2.cell? ⟨x + 1, 4, none⟩ = some (.slice Az s2.log.length cz) := (keeps_cell K2.out LT.out.2 List.not_mem_nil).trans EX.out.2)
          | (go_at_call_of 21 (Value.pointer (some ⟨g1, 0, none⟩)); refine (log_slc _ g1 lb1 s1 (P1.out.met.keeps K2.out (fun _ _ => List.not_mem_nil)) LN.out.1).mono ?_; rintro e v3 ⟨A3, c3, rfl, l3, kk⟩; have K3 := Lib.hid (K2.out.trans kk (fun _ h => nomatch h)); have L3 := Lib.hid l3; clear kk l3; have xv3 : v3.cell? ⟨x, 4, none⟩ = some (.slice Ax s1.log.length cx) := (keeps_cell K3.out LT.out.1 List.not_mem_nil).trans EX.out.1; have yv3 : v3.cell? ⟨x + 1, 4, none⟩ = some (.slice Az s2.log.length cz) := (keeps_cell K3.out LT.out.2 List.not_mem_nil).trans EX.out.2)
          | (go_at_call 28; refine (same_yes _ A3 Ax s1.log _ _ L3.out (LX.out.1.keeps K3.out)).mono ?_; rintro e v4 ⟨rfl, kk⟩; have K4 := Lib.hid (K3.out.trans kk (fun _ h => nomatch h)); clear kk L3; have xv4 : v4.cell? ⟨x, 4, none⟩ = some (.slice Ax s1.log.length cx) := (keeps_cell K4.out LT.out.1 List.not_mem_nil).trans EX.out.1; have yv4 : v4.cell? ⟨x + 1, 4, none⟩ = some (.slice Az s2.log.length cz) := (keeps_cell K4.out LT.out.2 List.not_mem_nil).trans EX.out.2)
          | (go_at_call_of 21 (Value.pointer (some ⟨g2, 0, none⟩)); refine (log_slc _ g2 lb2 s2 (P2.out.met.keeps K4.out (fun _ _ => List.not_mem_nil)) LN.out.2).mono ?_; rintro e v5 ⟨A5, c5, rfl, l5, kk⟩; have K5 := Lib.hid (K4.out.trans kk (fun _ h => nomatch h)); have L5 := Lib.hid l5; clear kk l5; have xv5 : v5.cell? ⟨x, 4, none⟩ = some (.slice Ax s1.log.length cx) := (keeps_cell K5.out LT.out.1 List.not_mem_nil).trans EX.out.1; have yv5 : v5.cell? ⟨x + 1, 4, none⟩ = some (.slice Az s2.log.length cz) := (keeps_cell K5.out LT.out.2 List.not_mem_nil).trans EX.out.2)
          | (go_at_call 28; refine (same_yes _ A5 Az s2.log _ _ L5.out (LX.out.2.keeps K5.out)).mono ?_; rintro e v6 ⟨rfl, kk⟩; have K6 := Lib.hid (K5.out.trans kk (fun _ h => nomatch h)); clear kk L5; have xv6 : v6.cell? ⟨x, 4, none⟩ = some (.slice Ax s1.log.length cx) := (keeps_cell K6.out LT.out.1 List.not_mem_nil).trans EX.out.1; have yv6 : v6.cell? ⟨x + 1, 4, none⟩ = some (.slice Az s2.log.length cz) := (keeps_cell K6.out LT.out.2 List.not_mem_nil).trans EX.out.2))
      go_wp2_with fail
      go_ret
      exact ⟨rfl, (KW.out.trans K6.out (by simp)).below (by simp) (Nat.le_refl _)⟩

theorem own : ownKnob Try.prog.godebug = none := by kernel_rfl
theorem laidOut : laidOutB Try.prog = true := by kernel_rfl

set_option maxRecDepth 100000 in
theorem lifted (os : Os) (started : os.Started) (H : Type) (enc : TypeId × Value → H) :
    ReturnsInHanded {} Try.checked os 7 .any (Rows.memApartSpec.pre6 enc Try.prog Try.f7 Rows.memApartRow.domain false) (Rows.memApartSpec.post enc Try.prog Try.f7 false true false false) := by
  refine returnsInHanded_of_change_sized (C := Try.checked) own started (by kernel_rfl) Try.func7
    (ChangeSpec.witness6 (enc := enc) (C := Try.checked) false ⟨#[], #[.slice none 0 0], []⟩ 8 (by kernel_rfl) (by kernel_rfl) (by kernel_rfl) (by kernel_rfl)) ?_
  intro W base args ds gs before hval0 hW hcnd hsz _
  have hval : ∀ (j : Nat) t v, Try.f7.params[j]? = some t → args[j]? = some v → Value.okWide Try.prog W .any base t v := hval0
  have hW' := hW
  obtain ⟨p, q, hA0, hV, rfl, hfz, hnd⟩ := hW
  have hA : DataW.TrodAll enc Try.prog W 0 (fun _ => true) true Try.f7.params.toList args.toList ds p := hA0
  rw [Try.params7] at hA hval
  obtain ⟨v0, vs0, d0, ds0, p0, q0, hargs, rfl, rfl, h0, r0⟩ := trodAll_cons hA
  obtain ⟨rfl, rfl, rfl⟩ := trodAll_nil r0
  obtain rfl : args = #[v0] := by cases args; simp_all
  obtain ⟨rfl, rfl⟩ := trodVars_none hV
  have k0 := h0
  have lt0 : ∀ x ∈ p0, x.block < W.heap.size := by obtain ⟨m, hm⟩ := k0; exact DataW.trod_lt m _ _ _ hm
  obtain ⟨A0, n0, c0, rfl⟩ := okWide_slice Try.underlying41 (hval 0 41 v0 rfl rfl)
  obtain ⟨ops0, s0⟩ : ∃ ops, Script W A0 n0 c0 ops := by
    obtain ⟨fuel, hf⟩ := h0
    exact script_open hf (fun q hq => by have h := List.all_eq_true.1 hsz _ (DataW.weights_mem_each (j := 0) (t := 41) (d := d0) rfl rfl q hq); simpa using h)
  clear hA0 hval0
  refine (walk A0 n0 c0 ops0 W s0).mono fun e W' ⟨he, bel⟩ => ?_
  subst he
  exact ⟨_, rfl, _, _, _, [], _, [], hW', trodAll_mk1 (shut_bool Try.underlying4 _), (trodAll_cons_mk (Below.trod laidOut (by kernel_rfl) (of_decide_eq_true (by kernel_rfl)) k0 bel lt0) trodAll_mk0), rfl, bel.frame _, fun h => by cases h⟩

theorem over : Rows.memApartRow.holds Try.pinned (OpenSpec.ofChange Rows.memApartSpec) :=
  OpenClaim.holds_of_wide 7 Try.f7 rfl rfl rfl rfl rfl rfl rfl ⟨rfl, rfl, rfl, rfl, rfl⟩ rfl rfl rfl rfl rfl (by kernel_rfl) Try.func7 (by kernel_rfl)
    (of_decide_eq_true (by kernel_rfl)) (by unfold Func.isWrapper; first | (rw [if_pos (by decide +kernel)]; kernel_rfl) | (rw [if_neg (by decide +kernel)]; exact ⟨rfl, rfl⟩))
    (fun os started H enc _ => lifted os started H enc)

/-- The statement. -/
theorem proved : Rows.MemApartSaid := over
#print axioms proved
end Go.Proofs.Ytlpgcfgnimchaaa.memApart
