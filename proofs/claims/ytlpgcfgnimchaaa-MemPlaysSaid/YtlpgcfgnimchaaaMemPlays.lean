/- MemPlays -/
import Derived.Test.YtlpgcfgnimchaaaRows
import Derived.Test.YtlpgcfgnimchaaaDuoEnd
import Derived.Test.YtlpgcfgnimchaaaAwake1
import Derived.Deep.RegionHeld3
import Derived.WalkKit
import Derived.ProofKit
import Derived.OpenShut
import Derived.ShutString
import Derived.ChangeOld
import Derived.Below
import Derived.Carry
namespace Go.Proofs.Ytlpgcfgnimchaaa.memPlays
open Go.ChangeShapes Go.WideShapes Go.ChangeAt Go.RowKit
set_option linter.unusedVariables false


theorem log_slc (w : World) (g lb : Nat) (s : MS) (hm : MetAt MT w (some g) lb s) (hl : s.log.length ≤ 2199023255552) :
    Calls Try.prog 21 #[PM (some g)] w fun e w' => ∃ A c, e = .returned (.slice A s.log.length c) ∧ LogSlc w' A s.log ∧ Keeps [] w w' :=
  (log_some w g lb s hm hl).mono fun e w' ⟨v, he, h1, h2⟩ => by
    obtain ⟨A, c, hv, _, h3⟩ := LogSlc.of_own h1 hl
    exact ⟨A, c, by rw [he, hv], h3, h2⟩
theorem own_meters {w0 w : World} {g gx r b ry bx : Nat} {kind : Int} {len r2 b2 ry2 bx2 : Nat} {kind2 : Int} {len2 n : Nat} (h : Own2 w0 w g gx r b ry bx kind len r2 b2 ry2 bx2 kind2 len2 n) :
    Calls Try.prog 27 #[.pointer (some ⟨g, 0, none⟩), .pointer (some ⟨gx, 0, none⟩)] w fun e w' => e = .returned (.bool true) ∧ Own2 w0 w' g gx r b ry bx kind len r2 b2 ry2 bx2 kind2 len2 n := by
  obtain ⟨lb, lbx, l, l2, s, hd, hrest⟩ := id h
  exact (meters_yes w g lb gx lbx s hd.one.met hd.one.mex).mono fun e w' ⟨he, hk⟩ => ⟨he, h.keeps hk⟩
set_option maxRecDepth 100000 in
set_option maxHeartbeats 4000000 in
theorem walk (kind one two : Int) (A : Option Addr) (n c : Nat) (ops : List Opd) (w : World) (hw0 : (Lit.int IntKind.i64 kind).wf = true) (hw1 : (Lit.int IntKind.i64 one).wf = true) (hw2 : (Lit.int IntKind.i64 two).wf = true) (hs : Script w A n c ops) :
    Calls Try.prog 8 #[.int .i64 kind, .int .i64 one, .int .i64 two, .slice A n c] w fun e w' => e = .returned (.bool true) ∧ Below w.heap.size w w' := by
  have HSC := Lib.hid hs
  have hn := hs.2.2.1
  have hni : (n : Int) ≤ 2199023255488 := by omega
  clear hs
  obtain ⟨k2, hk2⟩ : ∃ k, wrap64 (kind - 1) = k := ⟨_, rfl⟩
  have hk3 : IntKind.i64.wrap (kind - 1) = k2 := by rw [← hk2, IntKind.wrap_i64]; unfold wrap64; rfl
  go_enter Try.func8, Try.ntmps8
  go_wp2_with fail
  refine (awake1 _).mono ?_
  rintro e w1 ⟨rfl, hk1⟩
  have HK1 := Lib.hid hk1
  clear hk1
  go_wp2_with fail
  refine (newMeter w1).mono ?_
  rintro e w2 ⟨g, rfl, hm1, hk2', hg1⟩
  have H2 := Lib.hid (And.intro hm1 (And.intro hk2' hg1))
  have K2 := Lib.hid (HK1.out.trans hk2' (by simp))
  clear hm1 hk2' hg1
  by_cases h1 : one < 1 ∨ 4096 < one
  · have hmay := fun w => may_no w one h1
    have HB1 := Lib.hid (St.rowBad (w := w2) g kind one h1)
    have HM1 := Lib.hid hmay
    clear hmay h1
    go_wp2_with fail
    refine HB1.out.mono ?_
    rintro e wa ⟨rfl, rfl⟩
    by_cases h2 : two < 1 ∨ 4096 < two
    · have HB2 := Lib.hid (St.rowBad (w := w2) g k2 two h2)
      have HM2 := Lib.hid (fun w => may_no w two h2)
      clear h2
      go_wp2_with fail
      refine HB2.out.mono ?_
      rintro e wa ⟨rfl, rfl⟩
      go_wp2_with fail
      refine (HM1.out _).mono ?_
      rintro e wa ⟨rfl, rfl⟩
      go_wp2_with fail
      refine (HM2.out _).mono ?_
      rintro e wa ⟨rfl, rfl⟩
      go_wp2_with fail
      go_ret
      exact ⟨rfl, K2.out.below (by simp) (Nat.le_refl _)⟩
    · obtain ⟨o2, rfl⟩ : ∃ o : Nat, two = o := ⟨two.toNat, by omega⟩
      have HB2 := Lib.hid (RowI.newRow_ok w2 (some g) k2 o2 (by omega) (by omega))
      have HM2 := Lib.hid (fun w => may_yes w o2 (by omega) (by omega))
      clear h2
      go_wp2_with fail
      refine HB2.out.mono ?_
      rintro e wa ⟨rfl, _, hka, _⟩
      have KA := Lib.hid (K2.out.trans hka (by simp))
      clear hka
      go_wp2_with fail
      refine (HM1.out _).mono ?_
      rintro e wb ⟨rfl, rfl⟩
      go_wp2_with fail
      refine (HM2.out _).mono ?_
      rintro e wb ⟨rfl, rfl⟩
      go_wp2_with fail
      go_ret
      exact ⟨rfl, KA.out.below (by simp) (Nat.le_refl _)⟩
  obtain ⟨o1, rfl⟩ : ∃ o : Nat, one = o := ⟨one.toNat, by omega⟩
  have ho1 : 1 ≤ o1 ∧ o1 ≤ 4096 := by omega
  have HM1 := Lib.hid (fun w => may_yes w o1 (by omega) (by omega))
  have HB1 := Lib.hid (RowI.newRow_ok w2 (some g) kind o1 (by omega) (by omega))
  have HO1 := Lib.hid ho1
  clear h1 ho1
  go_wp2_with fail
  refine HB1.out.mono ?_
  rintro e w3 ⟨rfl, hr1, hk3', hs3⟩
  have H3 := Lib.hid (And.intro hr1 (And.intro hk3' hs3))
  have K3 := Lib.hid (K2.out.trans hk3' (by simp))
  clear hr1 hk3' hs3 HB1
  by_cases h2 : two < 1 ∨ 4096 < two
  · have HB2 := Lib.hid (St.rowBad (w := w3) g k2 two h2)
    have HM2 := Lib.hid (fun w => may_no w two h2)
    clear h2
    go_wp2_with fail
    refine HB2.out.mono ?_
    rintro e wa ⟨rfl, rfl⟩
    go_wp2_with fail
    refine (HM1.out _).mono ?_
    rintro e wa ⟨rfl, rfl⟩
    go_wp2_with fail
    refine (HM2.out _).mono ?_
    rintro e wa ⟨rfl, rfl⟩
    go_wp2_with fail
    go_ret
    exact ⟨rfl, K3.out.below (by simp) (Nat.le_refl _)⟩
  obtain ⟨o2, rfl⟩ : ∃ o : Nat, two = o := ⟨two.toNat, by omega⟩
  have ho2 : 1 ≤ o2 ∧ o2 ≤ 4096 := by omega
  have HM2 := Lib.hid (fun w => may_yes w o2 (by omega) (by omega))
  have HB2 := Lib.hid (RowI.newRow_ok w3 (some g) k2 o2 (by omega) (by omega))
  have HO2 := Lib.hid ho2
  clear h2 ho2
  go_wp2_with fail
  refine HB2.out.mono ?_
  rintro e w4 ⟨rfl, hr2, hk4, hs4⟩
  have H4 := Lib.hid (And.intro hr2 (And.intro hk4 hs4))
  clear hr2 hk4 hs4 HB2 K2 K3
  go_wp2_with fail
  refine (HM1.out _).mono ?_
  rintro e wb ⟨rfl, rfl⟩
  go_wp2_with fail
  refine (HM2.out _).mono ?_
  rintro e wb ⟨rfl, rfl⟩
  clear HM1 HM2
  go_wp2_with fail
  have hx4 : MetAt XT (w4.alloc (.cells #[.int .i64 0, .int .i64 0, .int .i64 0, .int .i64 0, .slice none 0 0] XT)) (some w4.heap.size) w4.heap.size MS.zero :=
    ⟨_, Blk.new _ _ _, World.ownsRow_nil _ _ _ _, .inl ⟨rfl, rfl⟩⟩
  have HX := Lib.hid hx4
  clear hx4
  refine (RefI.new_ok _ w4.heap.size kind o1 (by have := HO1.out; omega) (by have := HO1.out; omega)).mono ?_
  rintro e w5 ⟨rfl, hr3, hk5, hs5⟩
  simp only [World.size_alloc] at hr3 hs5
  have H5 := Lib.hid (And.intro hr3 (And.intro hk5 hs5))
  clear hr3 hk5 hs5
  go_wp2_with fail
  refine (RefI.new_ok w5 w4.heap.size k2 o2 (by have := HO2.out; omega) (by have := HO2.out; omega)).mono ?_
  rintro e w6 ⟨rfl, hr4, hk6, hs6⟩
  have H6 := Lib.hid (And.intro hr4 (And.intro hk6 hs6))
  clear hr4 hk6 hs6
  have HINV : Hid (Own2 w w6 g w4.heap.size (w2.heap.size + 1) w2.heap.size (w4.heap.size + 1 + 1) (w4.heap.size + 1) kind o1 (w3.heap.size + 1) w3.heap.size (w5.heap.size + 1) w5.heap.size k2 o2 0) := by
    obtain ⟨m2, k2, e2⟩ := H2.out
    obtain ⟨a3, k3, s3⟩ := H3.out
    obtain ⟨a4, k4, s4⟩ := H4.out
    have x4 := HX.out
    obtain ⟨a5, k5, s5⟩ := H5.out
    obtain ⟨a6, k6, s6⟩ := H6.out
    have k45 : Keeps [] w4 w5 := ((Keeps.refl [] w4).alloc _).trans k5 (by simp)
    have k46 := k45.trans k6 (by simp)
    have k36 := k4.trans k46 (by simp)
    have k26 := k3.trans k36 (by simp)
    have h1 := HK1.out.size
    have h2 := foot_lt m2 (k := g) (by simp [foot])
    have hz2 := k2.size
    have hz := k45.size
    unfold Hid
    refine ⟨g, w4.heap.size, List.replicate o1 0, List.replicate o2 0, MS.zero, ⟨⟨a3.keeps k36 (by simp) (by simp), a5.keeps k6 (by simp) (by simp), m2.keeps k26 (by simp), (x4.keeps k5 (by simp)).keeps k6 (by simp), by omega, by omega⟩,
      ⟨a4.keeps k46 (by simp) (by simp), a6, m2.keeps k26 (by simp), (x4.keeps k5 (by simp)).keeps k6 (by simp), by omega, by omega⟩, by omega, by omega, by omega, by omega⟩, by simp, by simp, Nat.le_refl _, ?_, (HK1.out.trans k2 (by simp)).trans k26 (by simp)⟩
    intro x hx
    simp only [List.mem_cons, List.not_mem_nil, or_false] at hx
    omega
  clear H2 H3 H4 H5 H6 HX HK1
  obtain ⟨x, hx⟩ : ∃ x, w4.heap.size = x := ⟨_, rfl⟩
  obtain ⟨b1, hb1⟩ : ∃ x, w2.heap.size = x := ⟨_, rfl⟩
  obtain ⟨b2, hb2⟩ : ∃ x, w3.heap.size = x := ⟨_, rfl⟩
  obtain ⟨b6, hb6⟩ : ∃ x, w5.heap.size = x := ⟨_, rfl⟩
  rw [hx, hb1, hb2, hb6] at HINV
  rw [hx, hb1, hb2, hb6]
  clear hx hb1 hb2 hb6
  obtain ⟨r1, hr1⟩ : ∃ q, b1 + 1 = q := ⟨_, rfl⟩
  obtain ⟨r2, hr2⟩ : ∃ q, b2 + 1 = q := ⟨_, rfl⟩
  obtain ⟨y2, hy2⟩ : ∃ q, b6 + 1 = q := ⟨_, rfl⟩
  obtain ⟨y1, hy1⟩ : ∃ q, x + 1 + 1 = q := ⟨_, rfl⟩
  obtain ⟨x1, hx1⟩ : ∃ q, x + 1 = q := ⟨_, rfl⟩
  rw [hr1, hr2, hy2, hy1, hx1] at HINV
  rw [hr1, hr2, hy2, hy1]
  clear hr1 hr2 hy2 hy1 hx1
  go_wp2_with fail
  go_loopw [18] (fun i wr => ∃ k : Nat, k ≤ n ∧ i = .int .i64 k ∧ Own2 w wr g x r1 b1 y1 x1 kind o1 r2 b2 y2 b6 k2 o2 k) (fun i _ => n - (intOf i).toNat)
  case atStart => exact ⟨0, Nat.zero_le _, rfl, HINV.out⟩
  case round =>
    obtain ⟨k, hk, rfl, ho⟩ := hrel
    have HO := Lib.hid ho
    clear ho
    by_cases hlt : k < n
    · obtain ⟨ab, off, p, rfl, hp, hcell⟩ := HSC.out.at_ hlt
      have hop := hcell wr (HO.out.kept.below (by simp) (Nat.le_refl _))
      have hp0 := hcell w (Below.refl _ _)
      have c0 := hop.c0
      have c1 := hop.c1
      have c2 := hop.c2
      have c3 := hop.c3
      have c4 := hop.c4
      have c5 := hop.c5
      have HP0 := Lib.hid hp0
      clear hop hcell hp hp0
      have k0 : (0 : Int) ≤ (k : Int) := by omega
      have k1 : (k : Int) < (n : Int) := by omega
      obtain ⟨po, pk, pi, px, pold, pA, pn, pcap, pxs⟩ := p
      simp only at c0 c1 c2 c3 c4 c5
      cases po
      · go_wp2_with fail
        refine (HO.out.does (by have := HO1.out; omega) (by omega) ⟨false, pk, pi, px, pold, pA, pn, pcap, pxs⟩ HP0.out.ints HP0.out.fits).mono ?_
        rintro e w8 ⟨rfl, q1⟩
        have HQ := Lib.hid q1
        clear q1
        go_wp2_with fail
        refine (own_meters HQ.out).mono ?_
        rintro e w9 ⟨rfl, q1⟩
        have HQ := Lib.hid q1
        clear q1
        go_wp2_with fail
        go_roundw
        case rel => exact ⟨k + 1, by omega, by go_num, HQ.out⟩
        case measure => simp [intOf]; omega
      · go_wp2_with fail
        refine (HO.out.symm.does (by have := HO2.out; omega) (by omega) ⟨true, pk, pi, px, pold, pA, pn, pcap, pxs⟩ HP0.out.ints HP0.out.fits).mono ?_
        rintro e w8 ⟨rfl, q1⟩
        have HQ := Lib.hid q1
        clear q1
        go_wp2_with fail
        refine (own_meters HQ.out).mono ?_
        rintro e w9 ⟨rfl, q1⟩
        have HQ := Lib.hid q1.symm
        clear q1
        go_wp2_with fail
        go_roundw
        case rel => exact ⟨k + 1, by omega, by go_num, HQ.out⟩
        case measure => simp [intOf]; omega
    · have hge : ¬ ((k : Int) < (n : Int)) := by omega
      obtain ⟨lb, lbx, l, l2, s, hd, hl1, hl2, hsn, hb, hkept⟩ := HO.out
      have hsl : s.log.length ≤ 2199023255552 := by omega
      have hsl2 : s.log.length + 1 ≤ 2199023255552 := by omega
      have HSL := Lib.hid (And.intro hsl hsl2)
      have HD := Lib.hid hd
      have HK := Lib.hid hkept
      have HL1 := Lib.hid hl1
      have HL2 := Lib.hid hl2
      clear hd hl1 hl2 hsn hb hkept HO HINV hsl hsl2
      go_wp2_with fail
      refine (log_some wr g lb s HD.out.one.met HSL.out.1).mono ?_
      rintro e w10 ⟨v1, rfl, ho1, k10⟩
      obtain ⟨A1, c1, rfl, _, hsc1⟩ := LogSlc.of_own ho1 HSL.out.1
      have O1 := Lib.hid ho1
      have K10 := Lib.hid k10
      clear ho1 k10 hsc1
      go_wp2_with fail
      refine (log_some w10 g lb s (HD.out.keeps K10.out).one.met HSL.out.1).mono ?_
      rintro e w11 ⟨v2, rfl, ho2, k11⟩
      obtain ⟨A2, c2, rfl, _, hsc2⟩ := LogSlc.of_own ho2 HSL.out.1
      have O2 := Lib.hid ho2
      have L2 := Lib.hid hsc2
      have O1b := Lib.hid (own_keeps O1.out k11 (by simp))
      have Z1 := Lib.hid (fun (q : Nat) (hq : (Value.slice A1 s.log.length c1).ownBlock = some q) => (O1.out.lt q hq))
      have K11 := Lib.hid (K10.out.trans k11 (by simp))
      have D11 := Lib.hid (HD.out.keeps K11.out)
      clear ho2 k11 hsc2
      obtain ⟨vx, hmx⟩ := D11.out.one.mex
      obtain ⟨Ax, cx, rfl, _, lx⟩ := LogSlc.of_own hmx.own HSL.out.1
      have LX := Lib.hid lx
      have BX := Lib.hid hmx.blk
      clear hmx lx
      have HC := Lib.hid (show ∀ w', Keeps [] w11 w' → w'.cell? ⟨x, 4, none⟩ = some (.slice Ax s.log.length cx) ∧ w'.cell? ⟨y1, 2, none⟩ = some (.slice (some ⟨x1, 0, none⟩) o1 o1) ∧ w'.cell? ⟨y2, 2, none⟩ = some (.slice (some ⟨b6, 0, none⟩) o2 o2) from fun w' hk => ⟨((BX.out.keeps hk (by simp)).cell 4).trans rfl, by rw [← HL1.out]; exact ((D11.out.keeps hk).one.rox.blk.cell 2).trans rfl, by rw [← HL2.out]; exact ((D11.out.keeps hk).two.rox.blk.cell 2).trans rfl⟩)
      have QS := Lib.hid (fun w (hk : Keeps [] w11 w) => same_held (wB := w11) (w := w) A1 Ax s.log c1 cx ((LogSlc.of_own O1b.out HSL.out.1).elim fun A h => h.elim fun c h => (by injection h.1 with h1 _ _; exact h1 ▸ h.2.2.keeps hk)) (LX.out.keeps hk) hk)
      have QL1 := Lib.hid (fun w (hk : Keeps [] w11 w) => len_held (wB := w11) (w := w) _ _ _ _ l o1 HL1.out (D11.out.keeps hk).one.row hk)
      have QL2 := Lib.hid (fun w (hk : Keeps [] w11 w) => len_held (wB := w11) (w := w) _ _ _ _ l2 o2 HL2.out (D11.out.keeps hk).two.row hk)
      have QA1 := Lib.hid (fun w (hk : Keeps [] w11 w) => all_held (wB := w11) (w := w) _ _ _ _ l o1 HL1.out (D11.out.keeps hk).one.row hk)
      have QA2 := Lib.hid (fun w (hk : Keeps [] w11 w) => all_held (wB := w11) (w := w) _ _ _ _ l2 o2 HL2.out (D11.out.keeps hk).two.row hk)
      have QR1 := Lib.hid (fun w A c (hk : Keeps [] w11 w) (h : Slc w A l) => sameRow_held (wB := w11) (w := w) A (some ⟨x1, 0, none⟩) l o1 c o1 HL1.out h (Slc.of_blk (D11.out.keeps hk).one.rox.row (by have := D11.out.one.rox.fits; unfold maxLen; omega)) hk)
      have QR2 := Lib.hid (fun w A c (hk : Keeps [] w11 w) (h : Slc w A l2) => sameRow_held (wB := w11) (w := w) A (some ⟨b6, 0, none⟩) l2 o2 c o2 HL2.out h (Slc.of_blk (D11.out.keeps hk).two.rox.row (by have := D11.out.two.rox.fits; unfold maxLen; omega)) hk)
      have hkB : Keeps [] w11 w11 := Keeps.refl _ _
      go_wp2_with fail
      go_region_held3 (fun w' => w'.cell? ⟨x, 4, none⟩ = some (.slice Ax s.log.length cx) ∧ w'.cell? ⟨y1, 2, none⟩ = some (.slice (some ⟨x1, 0, none⟩) o1 o1) ∧ w'.cell? ⟨y2, 2, none⟩ = some (.slice (some ⟨b6, 0, none⟩) o2 o2)) (first | exact HC.out _ (by first | assumption | exact Keeps.drew (by assumption)) | go_keep) ((first
        | (go_at_call 28; refine (QS.out _ (by first | assumption | exact Keeps.drew (by assumption))).mono ?_; rintro e wc ⟨rfl, hkc⟩)
        | (go_at_call_of 30 (Value.pointer (some ⟨r1, 0, none⟩)); refine (QL1.out _ (by first | assumption | exact Keeps.drew (by assumption))).mono ?_; rintro e wc ⟨rfl, hkc⟩)
        | (go_at_call_of 30 (Value.pointer (some ⟨r2, 0, none⟩)); refine (QL2.out _ (by first | assumption | exact Keeps.drew (by assumption))).mono ?_; rintro e wc ⟨rfl, hkc⟩)
        | (go_at_call_of 32 (Value.pointer (some ⟨r1, 0, none⟩)); refine (QA1.out _ (by first | assumption | exact Keeps.drew (by assumption))).mono ?_; rintro e wc ⟨A8, c8, rfl, hS8, hkc⟩)
        | (go_at_call_of 32 (Value.pointer (some ⟨r2, 0, none⟩)); refine (QA2.out _ (by first | assumption | exact Keeps.drew (by assumption))).mono ?_; rintro e wc ⟨A9, c9, rfl, hS9, hkc⟩)
        | (go_at_call_of 31 (Value.slice A8 o1 c8); refine (QR1.out _ _ _ (by first | assumption | exact Keeps.drew (by assumption)) (by assumption)).mono ?_; rintro e wc ⟨rfl, hkc⟩)
        | (go_at_call_of 31 (Value.slice A9 o2 c9); refine (QR2.out _ _ _ (by first | assumption | exact Keeps.drew (by assumption)) (by assumption)).mono ?_; rintro e wc ⟨rfl, hkc⟩)))
      clear HC QS QL1 QL2 QA1 QA2 QR1 QR2 hkB
      have O1c := Lib.hid (own_keeps O1b.out hkc (by simp))
      have O2c := Lib.hid (own_keeps O2.out hkc (by simp))
      have KC := Lib.hid (K11.out.trans hkc (by simp))
      obtain ⟨S1, hS1⟩ : ∃ S, (Value.slice A1 s.log.length c1).ownBlock.toList = S := ⟨_, rfl⟩
      have sl : Hid (∀ q, A1 = some ⟨q, 0, none⟩ → q ∈ S1) := by unfold Hid; rintro q rfl; rw [← hS1]; simp [Value.ownBlock]
      have hSl : Hid (∀ q, (Value.slice A1 s.log.length c1).ownBlock = some q → q ∈ S1) := by unfold Hid; intro q hq; rw [← hS1]; simp [hq]
      have hlo : Hid (∀ q, q ∈ S1 → wr.heap.size ≤ q) := by unfold Hid; intro q hq; rw [← hS1] at hq; exact (Z1.out q (Option.mem_toList.1 hq)).1
      have n2 : Hid (∀ q, (Value.slice A2 s.log.length c2).ownBlock = some q → q ∉ S1) := by
        unfold Hid; intro q hq hq2; rw [← hS1] at hq2
        have h1 := (Z1.out q (Option.mem_toList.1 hq2)).2
        have h2 := (O2.out.lt q hq).1
        omega
      clear hS1 Z1 O1 O1b O2 K10 K11 LX BX L2
      go_wp2_with fail
      obtain ⟨j0', hi, hz0, hz1, hz2⟩ := info_parts Try.infoAcc
      go_loopw [22] (fun i wv => ∃ j : Nat, j ≤ s.log.length ∧ i = .int .i64 j ∧ OverA wc S1 (.slice A1 s.log.length c1) s.log.length wv) (fun i _ => s.log.length - (intOf i).toNat)
      case atStart => exact ⟨0, Nat.zero_le _, rfl, OverA.of O1c.out⟩
      case round =>
        obtain ⟨j, hj, rfl, hov⟩ := hrel
        have HV := Lib.hid hov
        clear hov
        by_cases hlt2 : (j : Int) < (s.log.length : Int)
        · have q0 : (0 : Int) ≤ (j : Int) := by omega
          have qb : (s.log.length : Int) ≤ 2199023255552 := by have := HSL.out.1; omega
          obtain ⟨q, rfl, hcell⟩ := HV.out.spot (k := j) (by omega)
          obtain ⟨⟨u0, e0⟩, f0⟩ := hcell 0 (by decide)
          obtain ⟨⟨u1, e1⟩, f1⟩ := hcell 1 (by decide)
          obtain ⟨⟨u2, e2⟩, f2⟩ := hcell 2 (by decide)
          obtain ⟨⟨u3, e3⟩, f3⟩ := hcell 3 (by decide)
          obtain ⟨⟨u4, e4⟩, f4⟩ := hcell 4 (by decide)
          obtain ⟨⟨u5, e5⟩, f5⟩ := hcell 5 (by decide)
          rw [Nat.add_zero] at e0 f0
          have hq := Lib.hid (sl.out q rfl)
          clear hcell
          go_wp2_with fail
          go_roundw
          case rel => exact ⟨j + 1, by omega, by go_num, (((((HV.out.put hq.out (j * 6) (.int .i64 0)).put hq.out (j * 6 + 1) (.int .i64 0)).put hq.out (j * 6 + 2) (.int .i64 0)).put hq.out (j * 6 + 3) (.int .i64 0)).put hq.out (j * 6 + 4) (.int .i64 0)).put hq.out (j * 6 + 5) (.bool false)⟩
          case measure => simp [intOf]; omega
        · obtain ⟨⟨cs, ho⟩, kv⟩ := HV.out
          have HO1 := Lib.hid ho
          have KV := Lib.hid kv
          have m1 : Hid (s.log.length + 1 ≤ maxLen) := by have := HSL.out.2; unfold Hid maxLen; omega
          have m2 : Hid ((s.log.length + 1) * 48 ≤ 140737488355328) := by have := HSL.out.2; unfold Hid; omega
          clear ho kv HV
          go_wp2_with (at_builtin; refine wpList_append_row rfl (.tmp 203) (.tmp 205) 56 rfl 59 j0' _ 6 48 Try.underlying56 hi hz0 hz1 hz2 rfl (by decide) _ s.log.length cs rfl (own_keeps HO1.out ((Keeps.refl [] _).alloc _) (by simp)) _ 1 [.int .i64 (-1), .int .i64 0, .int .i64 0, .int .i64 0, .int .i64 0, .bool false] rfl (acc_row _ _ rfl) acc_ones m1.out m2.out ?_; intro v14 w14 hown1 hg1 hat1)
          have K14 := Lib.hid ((KV.out.alloc _).grown hg1 (fun k hk => .inl (hSl.out k hk)))
          have KF := Lib.hid (KC.out.trans K14.out (fun x hx => .inr (hlo.out x hx)))
          have D14 := Lib.hid (HD.out.keeps KF.out)
          have O2d := Lib.hid (own_keeps O2c.out K14.out n2.out)
          clear hown1 hg1 hat1
          obtain ⟨vy, hmy⟩ := D14.out.one.mex
          obtain ⟨Ay, cy, rfl, _, ly⟩ := LogSlc.of_own hmy.own HSL.out.1
          have LY := Lib.hid ly
          have BY := Lib.hid hmy.blk
          clear hmy ly
          have HC := Lib.hid (show ∀ w', Keeps [] w14 w' → w'.cell? ⟨x, 4, none⟩ = some (.slice Ay s.log.length cy) from fun w' hk => ((BY.out.keeps hk (by simp)).cell 4).trans rfl)
          have QS := Lib.hid (fun w (hk : Keeps [] w14 w) => same_held (wB := w14) (w := w) A2 Ay s.log c2 cy ((LogSlc.of_own O2d.out HSL.out.1).elim fun A h => h.elim fun c h => (by injection h.1 with h1 _ _; exact h1 ▸ h.2.2.keeps hk)) (LY.out.keeps hk) hk)
          have QL := Lib.hid (fun w (hk : Keeps [] w14 w) => log_held (wB := w14) (w := w) g lb s (D14.out.keeps hk).one.met HSL.out.1 hk)
          have QT := Lib.hid (fun w A c (hk : Keeps [] w14 w) (h : LogSlc w A s.log) => same_held (wB := w14) (w := w) A Ay s.log c cy h (LY.out.keeps hk) hk)
          have hkB : Keeps [] w14 w14 := Keeps.refl _ _
          go_wp2_with fail
          go_region_held3 (fun w' => w'.cell? ⟨x, 4, none⟩ = some (.slice Ay s.log.length cy)) (first | exact HC.out _ (by first | assumption | exact Keeps.drew (by assumption)) | go_keep) ((first
            | (go_at_call_of 28 (Value.slice A2 s.log.length c2); refine (QS.out _ (by first | assumption | exact Keeps.drew (by assumption))).mono ?_; rintro e wd ⟨rfl, hkd⟩)
            | (go_at_call 21; refine (QL.out _ (by first | assumption | exact Keeps.drew (by assumption))).mono ?_; rintro e wd ⟨A7, c7, rfl, hS7, hkd⟩)
            | (go_at_call 28; refine (QT.out _ _ _ (by first | assumption | exact Keeps.drew (by assumption)) (by assumption)).mono ?_; rintro e wd ⟨rfl, hkd⟩)))
          go_wp2_with fail
          go_ret
          exact ⟨rfl, (HK.out.trans (KF.out.trans hkd (by simp)) (by simp)).below (by simp) (Nat.le_refl _)⟩

theorem own : ownKnob Try.prog.godebug = none := by kernel_rfl
theorem laidOut : laidOutB Try.prog = true := by kernel_rfl

set_option maxRecDepth 100000 in
theorem lifted (os : Os) (started : os.Started) (H : Type) (enc : TypeId × Value → H) :
    ReturnsInHanded {} Try.checked os 8 .any (Rows.memPlaysSpec.pre6 enc Try.prog Try.f8 Rows.memPlaysRow.domain false) (Rows.memPlaysSpec.post enc Try.prog Try.f8 false true false false) := by
  refine returnsInHanded_of_change_sized (C := Try.checked) own started (by kernel_rfl) Try.func8
    (ChangeSpec.witness6 (enc := enc) (C := Try.checked) false ⟨#[], #[.int .i64 0, .int .i64 0, .int .i64 0, .slice none 0 0], []⟩ 8 (by kernel_rfl) (by kernel_rfl) (by kernel_rfl) (by kernel_rfl)) ?_
  intro W base args ds gs before hval0 hW hcnd hsz _
  have hval : ∀ (j : Nat) t v, Try.f8.params[j]? = some t → args[j]? = some v → Value.okWide Try.prog W .any base t v := hval0
  have hW' := hW
  obtain ⟨p, q, hA0, hV, rfl, hfz, hnd⟩ := hW
  have hA : DataW.TrodAll enc Try.prog W 0 (fun _ => true) true Try.f8.params.toList args.toList ds p := hA0
  rw [Try.params8] at hA hval
  obtain ⟨v0, vs0, d0, ds0, p0, q0, hargs, rfl, rfl, h0, r0⟩ := trodAll_cons hA
  obtain ⟨v1, vs1, d1, ds1, p1, q1, rfl, rfl, rfl, h1, r1⟩ := trodAll_cons r0
  obtain ⟨v2, vs2, d2, ds2, p2, q2, rfl, rfl, rfl, h2, r2⟩ := trodAll_cons r1
  obtain ⟨v3, vs3, d3, ds3, p3, q3, rfl, rfl, rfl, h3, r3⟩ := trodAll_cons r2
  obtain ⟨rfl, rfl, rfl⟩ := trodAll_nil r3
  obtain rfl : args = #[v0, v1, v2, v3] := by cases args; simp_all
  obtain ⟨rfl, rfl⟩ := trodVars_none hV
  obtain ⟨a0, rfl, rfl, rfl, w0⟩ := open_int Try.underlying3 (hval 0 3 v0 rfl rfl) h0
  obtain ⟨a1, rfl, rfl, rfl, w1⟩ := open_int Try.underlying3 (hval 1 3 v1 rfl rfl) h1
  obtain ⟨a2, rfl, rfl, rfl, w2⟩ := open_int Try.underlying3 (hval 2 3 v2 rfl rfl) h2
  have k3 := h3
  have lt3 : ∀ x ∈ p3, x.block < W.heap.size := by obtain ⟨m, hm⟩ := k3; exact DataW.trod_lt m _ _ _ hm
  obtain ⟨A3, n3, c3, rfl⟩ := okWide_slice Try.underlying41 (hval 3 41 v3 rfl rfl)
  obtain ⟨ops3, s3⟩ : ∃ ops, Script W A3 n3 c3 ops := by
    obtain ⟨fuel, hf⟩ := h3
    exact script_open hf (fun q hq => by have h := List.all_eq_true.1 hsz _ (DataW.weights_mem_each (j := 3) (t := 41) (d := d3) rfl rfl q hq); simpa using h)
  clear hA0 hval0
  refine (walk a0 a1 a2 A3 n3 c3 ops3 W w0 w1 w2 s3).mono fun e W' ⟨he, bel⟩ => ?_
  subst he
  exact ⟨_, rfl, _, _, _, [], _, [], hW', trodAll_mk1 (shut_bool Try.underlying4 _), (trodAll_cons_mk (shut_int Try.underlying3 w0) (trodAll_cons_mk (shut_int Try.underlying3 w1) (trodAll_cons_mk (shut_int Try.underlying3 w2) (trodAll_cons_mk (Below.trod laidOut (by kernel_rfl) (of_decide_eq_true (by kernel_rfl)) k3 bel lt3) trodAll_mk0)))), rfl, bel.frame _, fun h => by cases h⟩

theorem over : Rows.memPlaysRow.holds Try.pinned (OpenSpec.ofChange Rows.memPlaysSpec) :=
  OpenClaim.holds_of_wide 8 Try.f8 rfl rfl rfl rfl rfl rfl rfl ⟨rfl, rfl, rfl, rfl, rfl⟩ rfl rfl rfl rfl rfl (by kernel_rfl) Try.func8 (by kernel_rfl)
    (of_decide_eq_true (by kernel_rfl)) (by unfold Func.isWrapper; first | (rw [if_pos (by decide +kernel)]; kernel_rfl) | (rw [if_neg (by decide +kernel)]; exact ⟨rfl, rfl⟩))
    (fun os started H enc _ => lifted os started H enc)

/-- The statement. -/
theorem proved : Rows.MemPlaysSaid := over
#print axioms proved
end Go.Proofs.Ytlpgcfgnimchaaa.memPlays
