/- CommitDoomed: an attempt that is doomed, or not its own any more, gives the gate back, frees its slot if that is its own still, and stores nothing: the call returns true for every input. -/
import Derived.Test.YtdhgiohjdhcedaaGreatRows
import Derived.Test.YtdhgiohjdhcedaaGreatAw13
import Derived.Test.YtdhgiohjdhcedaaGreatCmWrs
import Derived.Test.YtdhgiohjdhcedaaGreatCmSide
import Derived.Test.YtdhgiohjdhcedaaGreatCmAl
import Derived.Test.YtdhgiohjdhcedaaGreatVcSm
import Derived.Test.YtdhgiohjdhcedaaGreatLocal
import Derived.Deep.RegionHeld3
import Derived.Deep.DeepCutAuto
import Derived.WalkKit
import Derived.ProofKit
import Derived.OpenShut
import Derived.ShutString
import Derived.ChangeOld
import Derived.Below
import Derived.Carry
namespace Go.Proofs.YtdhgiohjdhcedaaGreat.commitDoomed
open Go.ChangeShapes Go.WideShapes Go.ChangeAt Go.RowKit
set_option linter.unusedVariables false
set_option linter.unusedSimpArgs false

open dd Pol
/-- The space in which the attempt is lost. -/
structure Lost (wb w : World) (z : Sb) (jb : Nat) (F : List Nat) (S : Sp) (c : Cf) (h : Hd) (m : Int) : Prop where
  sp : SP wb w z F S
  j : JAt w jb c 0
  jl : wb.heap.size ≤ jb
  fit : Fit 6 S
  wu : S.wu
  cc : S.c = c
  hh : nth S.H 0 = some h
  lost : h.state ≠ 2 ∨ h.gen ≠ 1 ∨ h.doomed = true
  left : left_ h = if m = 0 then ⟨1, 0, 0, 0, false, 0⟩ else h
  gate : S.gate = ⟨0, 0⟩
  cells : S.cells = List.replicate 64 0
/-- Head 0 is another one. -/
structure Hs (S S' : Sp) (h : Hd) : Prop where
  c : S'.c = S.c
  W : S'.W = S.W
  g : S'.gate = S.gate
  C : S'.cells = S.cells
  hh : nth S'.H 0 = some h
theorem nth_set0 {l : List Hd} {x : Hd} (y : Hd) (h : nth l 0 = some x) : nth (l.set (Int.toNat 0) y) 0 = some y := by
  have := nth_len h
  unfold nth
  rw [if_pos (by omega)]
  simp only [Int.toNat_zero]
  rw [List.getElem?_set_self (by omega)]
theorem hs_doom {S : Sp} {x : Hd} (h : nth S.H 0 = some x) (hs : x.state = 2 ∧ x.gen = 1) : Hs S (S.doom 0 1 4).2 (x.doom 4) := by
  unfold Sp.doom
  rw [if_neg (by omega), h]
  simp only
  rw [if_pos hs]
  exact ⟨rfl, rfl, rfl, rfl, nth_set0 _ h⟩
theorem hs_free {S : Sp} {x : Hd} (h : nth S.H 0 = some x) (hs : x.state ≠ 0 ∧ x.gen = 1) : Hs S (S.free 0 1).2 ⟨x.gen, 0, 0, 0, false, 0⟩ := by
  unfold Sp.free
  rw [h]
  simp only
  rw [if_pos hs]
  exact ⟨rfl, rfl, rfl, rfl, nth_set0 _ h⟩
theorem hs_claim {S : Sp} {x : Hd} (h : nth S.H 0 = some x) (hs : x.state = 0) : Hs S (S.claim 0 6).2 ⟨x.gen + 1, 1, 0, 6, false, 0⟩ := by
  unfold Sp.claim
  rw [if_neg (by omega), h]
  simp only
  rw [if_pos hs]
  exact ⟨rfl, rfl, rfl, rfl, nth_set0 _ h⟩
theorem hs_ready {S : Sp} {x : Hd} (h : nth S.H 0 = some x) (hs : x.state = 1 ∧ x.gen = 2) : Hs S (S.ready 0 2 4).2 ⟨x.gen, 2, 4, x.thread, x.doomed, x.who⟩ := by
  unfold Sp.ready
  rw [if_neg (by omega), h]
  simp only
  rw [if_pos hs]
  exact ⟨rfl, rfl, rfl, rfl, nth_set0 _ h⟩
theorem Hs.trans {A B C : Sp} {h h' : Hd} (a : Hs A B h) (b : Hs B C h') : Hs A C h' := ⟨b.c.trans a.c, b.W.trans a.W, b.g.trans a.g, b.C.trans a.C, b.hh⟩
theorem spL_nth {c : Cf} (hc : c.ok) : nth (spL c).H 0 = some hdL := by
  rw [(spL_is hc.2.1.1).2.2]
  have := hc.2.1.1
  exact nth_set0 _ (nth_rep (n := c.slots.toNat) (a := Hd.zero) (by omega))
theorem Lost.of {wb w : World} {z : Sb} {jb : Nat} {F : List Nat} {S : Sp} {c : Cf} {h : Hd} {m : Int} (hs : SP wb w z F S) (hj : JAt w jb c 0) (hjl : wb.heap.size ≤ jb) (hf : Fit 6 S) (hok : c.ok) (h64 : c.cells = 64) (hh : Hs (spL c) S h) (hl : h.state ≠ 2 ∨ h.gen ≠ 1 ∨ h.doomed = true) (he : left_ h = if m = 0 then ⟨1, 0, 0, 0, false, 0⟩ else h) : Lost wb w z jb F S c h m := by
  have e := (spL_is hok.2.1.1).2.2
  exact ⟨hs, hj, hjl, hf, Sp.wu_of (spL_wu c) hh.W, hh.c.trans (spL_c c), hh.hh, hl, he, hh.g.trans (by rw [e]; rfl), hh.C.trans (by rw [e]; show List.replicate c.cells.toNat 0 = _; rw [h64]; rfl)⟩
theorem row0 {w : World} {a c : Nat} {H : List Hd} {W : List Int} {h : Hd} (ho : OwnS w a c 8 (slL H W)) (hl : H.length = 8) (hw : W.length = 2 * H.length) (hh : nth H 0 = some h) :
    w.cell? ⟨a, 0, none⟩ = some (.int .i64 h.gen) ∧ w.cell? ⟨a, 1, none⟩ = some (.int .i64 h.state) ∧ w.cell? ⟨a, 2, none⟩ = some (.int .i64 h.stamp) ∧ w.cell? ⟨a, 3, none⟩ = some (.int .i64 h.thread) ∧ w.cell? ⟨a, 4, none⟩ = some (.bool h.doomed) ∧ w.cell? ⟨a, 5, none⟩ = some (.int .i64 h.who) ∧ w.cell? ⟨a, 6, none⟩ = some (.int .u64 (fd.wd W 0 0)) ∧ w.cell? ⟨a, 7, none⟩ = some (.int .u64 (fd.wd W 0 1)) := by
  have hg := fd.slC_get H W 0 hw (by omega)
  have e : fd.hd H ((0 : Nat) : Int) = h := by
    have := (nth_len hh).2.2
    unfold fd.hd
    simp only [Int.toNat_zero] at this
    simp [this]
  rw [e] at hg
  obtain ⟨g0, g1, g2, g3, g4, g5, g6, g7⟩ := hg
  have hc : ∀ i u, i < 64 → (fd.slC H W)[i]? = some u → w.cell? ⟨a, i, none⟩ = some u := fun i u hi hu => (World.ownsRow.cellAt ho i (by omega)).trans hu
  exact ⟨hc _ _ (by decide) g0, hc _ _ (by decide) g1, hc _ _ (by decide) g2, hc _ _ (by decide) g3, hc _ _ (by decide) g4, hc _ _ (by decide) g5, hc _ _ (by decide) g6, hc _ _ (by decide) g7⟩
theorem ownC_cell {w : World} {a c : Nat} {l : List Int} {k : Nat} {x : Int} (h : OwnC w a c l) (hx : l[k]? = some x) : w.cell? ⟨a, k, none⟩ = some (.int .i64 x) := by
  have e : ∀ l : List Int, l.flatMap RowI.cells = l.map (Value.int .i64) := fun l => by
    induction l with
    | nil => rfl
    | cons y l ih => simp [RowI.cells] at ih ⊢; exact ih
  have hlt := (List.getElem?_eq_some_iff.1 hx).1
  exact (World.ownsRow.cellAt h k (by omega)).trans (by rw [e l, List.getElem?_map, hx]; rfl)
theorem qs {P : Program} {f : FuncId} {args : Array Value} {w : World} {n : Nat} {v : Value} (h : Calls P f args (w.drewN n) fun e w' => e = .returned v ∧ w.drewN n = w') : Calls P f args (w.drewN n) fun e w'' => e = .returned v ∧ ∃ m, w'' = w.drewN m := h.mono fun _ _ ⟨he, hm⟩ => ⟨he, n, hm.symm⟩
theorem pair_keeps {w w' : World} {A : Option Addr} {n cap : Nat} {l : List ElPair} (h : LstPair w A n cap l) (hk : Keeps [] w w') : LstPair w' A n cap l := by
  obtain ⟨h1, h2, h3, h4⟩ := h
  refine ⟨h1, h2, h3, fun hn => ?_⟩
  obtain ⟨b, off, hA, hb, hc⟩ := h4 hn
  exact ⟨b, off, hA, Nat.lt_of_lt_of_le hb hk.size, fun i p hp => (hc i p hp).keeps hb hk⟩
set_option maxRecDepth 100000 in
set_option maxHeartbeats 8000000 in
theorem walk (tag how : Int) (A : Option Addr) (n cap : Nat) (l : List ElPair) (w : World) (_ : (Lit.int IntKind.i64 tag).wf = true) (_ : (Lit.int IntKind.i64 how).wf = true) (hl : LstPair w A n cap l) : Calls Tryz.prog 4 #[.int .i64 tag, .int .i64 how, .slice A n cap] w fun e w' => e = .returned (.bool true) ∧ Below w.heap.size w w' := by
  have HL := Lib.hid hl
  have hok := cfgOf_ok tag 127 0 0
  have h64 : (cfgOf tag 127 0 0).cells = 64 := rfl
  have h8 : (cfgOf tag 127 0 0).slots = 8 := rfl
  have HQ := Lib.hid (fun w' => config_any w' tag 127 0 0)
  obtain ⟨c, hc⟩ : ∃ q, cfgOf tag 127 0 0 = q := ⟨_, rfl⟩
  rw [hc] at HQ hok h64 h8
  have HOK := Lib.hid (And.intro hok (And.intro h64 h8))
  clear hl hc hok h64 h8
  have m3 := msk3 how
  obtain ⟨m, hm, m0, m4⟩ : ∃ q : Int, how % 4 = q ∧ 0 ≤ q ∧ q < 4 := ⟨_, rfl, by omega, by omega⟩
  rw [hm] at m3
  clear hm
  go_enter Tryz.func4, Tryz.ntmps4
  go_wp2_with fail
  refine (awake13 _).mono ?_
  rintro e w1 ⟨rfl, hk⟩
  have HK := Lib.hid hk
  clear hk
  go_wp2_with fail
  refine (HQ.out _).mono ?_
  rintro e w2 ⟨rfl, hk⟩
  replace HK := Lib.hid (HK.out.trans hk (by simp))
  clear hk HQ
  go_wp2_with fail
  have hka : Keeps [] w2 (w2.alloc (.cells c.vals 23)) := by simp
  refine (lives_any _ c HOK.out.1).mono ?_
  rintro e w3 ⟨z, jb, F, rfl, hs, hj, hlo⟩
  obtain ⟨wb, hwb⟩ : ∃ q, w2.alloc (.cells c.vals 23) = q := ⟨_, rfl⟩
  rw [hwb] at hka
  have hs' : SP wb w3 z F (spL c) := by rw [← hwb]; exact hs
  have hlo' : wb.heap.size ≤ jb := by rw [← hwb]; exact hlo
  have HKB := Lib.hid (HK.out.trans hka (by simp))
  have HS := Lib.hid hs'
  have HJ := Lib.hid (And.intro hj hlo')
  clear hs hs' hj hlo hlo' hka hwb HK
  go_wp2_with fail
  refine (sp_slots HS.out).mono ?_
  rintro e wq ⟨rfl, rfl⟩
  go_upto_block 0 with fail
  go_cut [] (fun wx => ∃ F' S h, Lost wb wx z jb F' S c h m)
  case first =>
    have HF0 := Lib.hid (spL_fit HOK.out.1)
    obtain rfl | rfl | rfl | rfl : m = 0 ∨ m = 1 ∨ m = 2 ∨ m = 3 := by omega
    · as_aux_lemma =>
        go_wp2_with fail
        refine (sp_doom HS.out HF0.out (by decide) 0 1 4).mono ?_
        rintro e w4 ⟨rfl, F1, h1, k1, n1⟩
        replace HJ := Lib.hid (And.intro (Blk.keeps HJ.out.1 k1 (HS.out.out HJ.out.1 (by decide))) HJ.out.2)
        replace HS := Lib.hid h1
        have HF1 := Lib.hid (HF0.out.doom 0 1 4)
        clear h1 k1 n1
        go_wp2_with fail
        go_meet
        exact ⟨_, _, _, Lost.of HS.out HJ.out.1 HJ.out.2 (HF1.out.wide (by decide)) HOK.out.1 HOK.out.2.1 (hs_doom (spL_nth HOK.out.1) (by decide)) (by decide) (by decide)⟩
    · as_aux_lemma =>
        go_wp2_with fail
        refine (sp_free HS.out HF0.out (by decide) 0 1).mono ?_
        rintro e w4 ⟨rfl, F1, h1, k1, n1⟩
        replace HJ := Lib.hid (And.intro (Blk.keeps HJ.out.1 k1 (HS.out.out HJ.out.1 (by decide))) HJ.out.2)
        replace HS := Lib.hid h1
        have HF1 := Lib.hid (HF0.out.free 0 1)
        clear h1 k1 n1
        go_wp2_with fail
        go_meet
        exact ⟨_, _, _, Lost.of HS.out HJ.out.1 HJ.out.2 (HF1.out.wide (by decide)) HOK.out.1 HOK.out.2.1 (hs_free (spL_nth HOK.out.1) (by decide)) (by decide) (by decide)⟩
    · as_aux_lemma =>
        go_wp2_with fail
        refine (sp_free HS.out HF0.out (by decide) 0 1).mono ?_
        rintro e w4 ⟨rfl, F1, h1, k1, n1⟩
        replace HJ := Lib.hid (And.intro (Blk.keeps HJ.out.1 k1 (HS.out.out HJ.out.1 (by decide))) HJ.out.2)
        replace HS := Lib.hid h1
        have HF1 := Lib.hid (HF0.out.free 0 1)
        clear h1 k1 n1
        go_wp2_with fail
        refine (sp_claim HS.out HF1.out (by decide) 0 6).mono ?_
        rintro e w5 ⟨rfl, F1, h1, k1, n1⟩
        replace HJ := Lib.hid (And.intro (Blk.keeps HJ.out.1 k1 (HS.out.out HJ.out.1 (by decide))) HJ.out.2)
        replace HS := Lib.hid h1
        have HF2 := Lib.hid (HF1.out.claim 0 6)
        clear h1 k1 n1
        go_wp2_with fail
        go_meet
        exact ⟨_, _, _, Lost.of HS.out HJ.out.1 HJ.out.2 (HF2.out.wide (by decide)) HOK.out.1 HOK.out.2.1 ((hs_free (spL_nth HOK.out.1) (by decide)).trans (hs_claim (hs_free (spL_nth HOK.out.1) (by decide)).hh (by decide))) (by decide) (by decide)⟩
    · as_aux_lemma =>
        go_wp2_with fail
        refine (sp_free HS.out HF0.out (by decide) 0 1).mono ?_
        rintro e w4 ⟨rfl, F1, h1, k1, n1⟩
        replace HJ := Lib.hid (And.intro (Blk.keeps HJ.out.1 k1 (HS.out.out HJ.out.1 (by decide))) HJ.out.2)
        replace HS := Lib.hid h1
        have HF1 := Lib.hid (HF0.out.free 0 1)
        clear h1 k1 n1
        go_wp2_with fail
        refine (sp_claim HS.out HF1.out (by decide) 0 6).mono ?_
        rintro e w5 ⟨rfl, F1, h1, k1, n1⟩
        replace HJ := Lib.hid (And.intro (Blk.keeps HJ.out.1 k1 (HS.out.out HJ.out.1 (by decide))) HJ.out.2)
        replace HS := Lib.hid h1
        have HF2 := Lib.hid (HF1.out.claim 0 6)
        clear h1 k1 n1
        go_wp2_with fail
        refine (sp_ready HS.out HF2.out (by decide) 0 2 4).mono ?_
        rintro e w6 ⟨rfl, F1, h1, k1, n1⟩
        replace HJ := Lib.hid (And.intro (Blk.keeps HJ.out.1 k1 (HS.out.out HJ.out.1 (by decide))) HJ.out.2)
        replace HS := Lib.hid h1
        have HF3 := Lib.hid (HF2.out.ready 0 2 4)
        clear h1 k1 n1
        go_wp2_with fail
        go_meet
        exact ⟨_, _, _, Lost.of HS.out HJ.out.1 HJ.out.2 (HF3.out.wide (by decide)) HOK.out.1 HOK.out.2.1 (((hs_free (spL_nth HOK.out.1) (by decide)).trans (hs_claim (hs_free (spL_nth HOK.out.1) (by decide)).hh (by decide))).trans (hs_ready ((hs_free (spL_nth HOK.out.1) (by decide)).trans (hs_claim (hs_free (spL_nth HOK.out.1) (by decide)).hh (by decide))).hh (by decide))) (by decide) (by decide)⟩
  case rest =>
    obtain ⟨F4, S, h, hx⟩ := hcut
    have HX := Lib.hid hx
    clear hx HS HJ
    go_wp2_with fail
    have hln : S.H.length = 8 := by have h1 := HX.out.fit.slots; rw [HX.out.cc, HOK.out.2.2] at h1; exact h1
    have hcl : S.cells.length = 64 := by rw [HX.out.cells]; simp
    have hfd : ∀ (x0 x1 x2 x3 : Value) (w : World), (Instr.field 45 (.agg #[x0, x1, x2, x3]) 2).run Tryz.prog w = .ok x3 w := fun x0 x1 x2 x3 w => by kernel_rfl
    have hv := sp_view HX.out.sp HX.out.fit
    rw [hln, hcl] at hv
    have HLN := Lib.hid (And.intro hln (And.intro hcl HX.out.fit.words))
    clear hln hcl
    refine hv.mono ?_
    rintro e w5 ⟨a1, c1, a2, c2, rfl, _, h2, _, l2, hk5⟩
    have HA := Lib.hid (And.intro h2 (And.intro l2 hk5))
    have HLW := Lib.hid (pair_keeps HL.out ((HKB.out.trans HX.out.sp.keep (by simp)).trans hk5 (by simp)))
    clear h2 l2 hk5 hv
    go_wp2_with fail
    refine (writes_any w5 A n cap l HLW.out).mono ?_
    rintro e w6 ⟨v6, rfl, ho6, hk6⟩
    obtain ⟨okw, lw⟩ := wsOf_ok l
    obtain ⟨g6, cc6, rfl, _, _⟩ := ho6.form (by omega)
    obtain ⟨ws, hws⟩ : ∃ q, wsOf l = q := ⟨_, rfl⟩
    have hmay : mayE c 0 1 5 ws = 0 := hws ▸ wsOf_may l HOK.out.2.1 (by decide) (by decide) (by decide) (by decide) (by rw [HOK.out.2.2]; decide)
    rw [hws] at ho6
    try rw [hws]
    obtain ⟨nw, hnw⟩ : ∃ q, ws.length = q := ⟨_, rfl⟩
    have hs6 := HX.out.sp.calm (HA.out.2.2.trans hk6 (by simp))
    have HN := Lib.hid (cm_new (jb := jb) hs6 HX.out.fit 0 1 1 5 (some ⟨g6, 0, none⟩) cc6 ws (SlR.of_own (own_base ho6 (fun _ _ => Nat.zero_le _))) (by rw [HX.out.cc]; exact hmay))
    have HO6 := Lib.hid (And.intro hs6 (And.intro hmay hk6))
    rw [hnw] at HN
    try rw [hnw]
    clear hs6 hmay ho6 hk6 okw lw hws HLW hnw
    go_wp2_with fail
    refine HN.out.mono ?_
    rintro e w7 ⟨cb, H, rfl, hm7, hfr7, hk7⟩
    have hty := own_tyOf HA.out.1 (k := a2) rfl
    have hlt5 := tyOf_lt hty
    have hty6 := tyOf_keeps hty HO6.out.2.2 (by simp)
    have hjlt : jb < wc.heap.size := Blk.lt HX.out.j
    have hFlt := HX.out.sp.lt
    have hszb := HX.out.sp.keep.size
    have hz6 := HO6.out.2.2.size
    have hCS : CmS wb w7 z jb cb 8 6 S c 0 (Cm.new 0 1 1 5 ws) [a2] := CmS.new HO6.out.1 (Blk.keeps HX.out.j (HA.out.2.2.trans HO6.out.2.2 (by simp)) (by simp)) HX.out.jl HX.out.fit HX.out.wu HX.out.cc HLN.out.1 (by decide) (by decide) HO6.out.2.1 hk7 hm7 hfr7 (fun q hq => by
      have hl2 := HA.out.2.1
      simp only [List.mem_cons, List.not_mem_nil, or_false] at hq
      subst hq
      refine ⟨by omega, by omega, fun hx => ?_, fun t ht => by rw [hty6] at ht; injection ht with ht; subst ht; decide⟩
      simp only [List.mem_cons] at hx
      rcases hx with rfl | hx
      · omega
      · have := hFlt _ hx; omega)
    have HCS := Lib.hid hCS
    have HR2 : Hid (OwnS w7 a2 c2 8 (slL S.H S.W)) := own_keeps HA.out.1 (HO6.out.2.2.trans hk7 (by simp)) (by simp)
    have HD := Lib.hid (show Dd S.H S.W (List.replicate 64 0) h 0 S (Cm.new 0 1 1 5 ws) from Dd.start rfl HX.out.cells HX.out.gate rfl 5 ws)
    have HH := Lib.hid (And.intro HX.out.hh (And.intro HX.out.lost HX.out.left))
    clear hm7 hfr7 hk7 hty hlt5 hty6 hjlt hFlt hszb hz6 hCS HX HA HO6 HN
    go_wp2_with fail
    go_loopw [16] (fun i wr => ∃ (k : Nat) (S' : Sp) (x : Cm), k ≤ 4 ∧ i = .int .i64 k ∧ CmS wb wr z jb cb 8 (6 + k) S' c 0 x [a2] ∧ OwnS wr a2 c2 8 (slL S.H S.W) ∧ Dd S.H S.W (List.replicate 64 0) h k S' x) (fun i _ => 4 - (intOf i).toNat)
    case atStart => exact ⟨0, _, _, by decide, rfl, HCS.out, HR2.out, HD.out⟩
    case round =>
      obtain ⟨k, S', x, hk, rfl, hc, hr, hd⟩ := hrel
      have k0 : (0 : Int) ≤ (k : Int) := by omega
      by_cases hlt : k < 4
      · have k1 : (k : Int) < 4 := by omega
        obtain ⟨s1, s2, s3, s4⟩ := Dd.step (d := 0) HH.out.1 HH.out.2.1 hlt hd
        have QD := hc.run.done
        have QS := hc.step (by omega)
        rw [s1] at QD
        rw [s2] at QS
        have HQ1 := Lib.hid QD
        have HQ2 := Lib.hid QS
        have H3 := Lib.hid (And.intro hr s3)
        have HS4 := Lib.hid s4
        clear hc hr hd s1 s2 s3 s4 QD QS HCS HR2 HD
        go_wp2_with fail
        refine HQ1.out.mono ?_
        rintro e wq ⟨rfl, rfl⟩
        go_wp2_with fail
        refine HQ2.out.mono ?_
        rintro e w8 ⟨rfl, h8, hk8⟩
        have s4 := HS4.out
        have H4 := Lib.hid (And.intro h8 (hk8.own H3.out.1 (fun q hq => by simp [Value.ownBlock] at hq; simp [hq])))
        have hd0 := Lib.hid s4
        clear h8 hk8 s4 HS4
        go_wp2_with fail
        refine ⟨⟨k + 1, _, _, by omega, by simp, ?_, H4.out.2, H3.out.2⟩, by simp [intOf]; omega⟩
        have := H4.out.1
        rw [hd0.out] at this
        exact this
      · obtain rfl : k = 4 := by omega
        have HC := Lib.hid hc
        have HR := Lib.hid hr
        have HD4 := Lib.hid hd
        clear hc hr hd hlt hk k0 HCS HR2 HD
        go_wp2_with fail
        have e1 := HD4.out.C
        have e2 : S'.gate = ⟨2, 0⟩ := HD4.out.gate
        have e3 := HD4.out.H
        have e4 := HD4.out.W
        have hv := HC.out.view
        rw [e1, e2, e3, e4, if_neg (by decide)] at hv
        clear e1 e2 e3 e4
        refine hv.mono ?_
        rintro e w9 ⟨a3, c3, a4, c4, rfl, h3, h4, _, _, hk9⟩
        have HC9 := Lib.hid (HC.out.calm hk9)
        have HR9 : Hid (OwnS w9 a2 c2 8 (slL S.H S.W)) := own_keeps HR.out hk9 (by simp)
        have hk10 : Keeps [] w9 (w9.alloc (.cells #[.slice (some ⟨a3, 0, none⟩) 64 c3, .int .i64 2, .int .i64 0, .slice (some ⟨a4, 0, none⟩) 8 c4] 45)) := by simp
        have L10 := Blk.new w9 45 #[.slice (some ⟨a3, 0, none⟩) 64 c3, .int .i64 2, .int .i64 0, .slice (some ⟨a4, 0, none⟩) 8 c4]
        have hn' := nth_set0 (left_ h) HH.out.1
        have hb := row0 (own_keeps HR9.out hk10 (by simp)) HLN.out.1 HLN.out.2.2 HH.out.1
        have hv4 := row0 (own_keeps h4 hk10 (by simp)) (by simp [HLN.out.1]) (by simp [HLN.out.2.2]) hn'
        have h3' : OwnC _ a3 c3 (List.replicate 64 0) := own_keeps h3 hk10 (by simp)
        have hc10 := HC9.out.calm hk10
        have hlh := HH.out.2.2
        clear h3 h4 hk9 hv HC HR HR9 hn' HH
        go_upto_region 28 with fail
        obtain ⟨w10, hw10⟩ : ∃ q, w9.alloc (.cells #[.slice (some ⟨a3, 0, none⟩) 64 c3, .int .i64 2, .int .i64 0, .slice (some ⟨a4, 0, none⟩) 8 c4] 45) = q := ⟨_, rfl⟩
        rw [hw10] at hk10 L10 hb hv4 h3' hc10
        try rw [hw10]
        clear hw10 hk10 HC9
        obtain ⟨zv, hzv⟩ : ∃ zv, w9.heap.size = zv := ⟨_, rfl⟩
        rw [hzv] at L10
        try rw [hzv]
        clear hzv
        have HC10 := Lib.hid hc10
        have HL10 := Lib.hid L10
        have H3 := Lib.hid h3'
        rw [hlh] at hv4
        have HV4 := Lib.hid hv4
        obtain ⟨b0, b1, b2, b3, b4, b5, b6, b7⟩ := hb
        clear hc10 L10 h3' hv4
        by_cases hm0 : m = 0
        · have d0 : (m == 0) = true := by simpa using hm0
          rw [if_pos hm0] at HV4
          clear hlh
          go_wp2_with fail
          have hk11 : Keeps [] w10 (w10.alloc (.cells #[.int .i64 1, .int .i64 0, .int .i64 0, .int .i64 0, .bool false, .int .i64 0, .int .u64 (fd.wd S.W 0 0), .int .u64 (fd.wd S.W 0 1)] 60)) := by simp
          have L11 := Lib.hid (Blk.new w10 60 #[.int .i64 1, .int .i64 0, .int .i64 0, .int .i64 0, .bool false, .int .i64 0, .int .u64 (fd.wd S.W 0 0), .int .u64 (fd.wd S.W 0 1)])
          have HC11 := Lib.hid (HC10.out.calm hk11)
          have HL11 := Lib.hid (HL10.out.keeps hk11 (by simp))
          have h311 : OwnC _ a3 c3 (List.replicate 64 0) := own_keeps H3.out hk11 (by simp)
          have H311 := Lib.hid h311
          have p0 : (w10.alloc (.cells #[.int .i64 1, .int .i64 0, .int .i64 0, .int .i64 0, .bool false, .int .i64 0, .int .u64 (fd.wd S.W 0 0), .int .u64 (fd.wd S.W 0 1)] 60)).cell? ⟨a4, 0, none⟩ = some (.int .i64 1) := keeps_cell0 hk11 (HV4.out.1)
          have p1 : (w10.alloc (.cells #[.int .i64 1, .int .i64 0, .int .i64 0, .int .i64 0, .bool false, .int .i64 0, .int .u64 (fd.wd S.W 0 0), .int .u64 (fd.wd S.W 0 1)] 60)).cell? ⟨a4, 1, none⟩ = some (.int .i64 0) := keeps_cell0 hk11 (HV4.out.2.1)
          have p2 : (w10.alloc (.cells #[.int .i64 1, .int .i64 0, .int .i64 0, .int .i64 0, .bool false, .int .i64 0, .int .u64 (fd.wd S.W 0 0), .int .u64 (fd.wd S.W 0 1)] 60)).cell? ⟨a4, 2, none⟩ = some (.int .i64 0) := keeps_cell0 hk11 (HV4.out.2.2.1)
          have p3 : (w10.alloc (.cells #[.int .i64 1, .int .i64 0, .int .i64 0, .int .i64 0, .bool false, .int .i64 0, .int .u64 (fd.wd S.W 0 0), .int .u64 (fd.wd S.W 0 1)] 60)).cell? ⟨a4, 3, none⟩ = some (.int .i64 0) := keeps_cell0 hk11 (HV4.out.2.2.2.1)
          have p4 : (w10.alloc (.cells #[.int .i64 1, .int .i64 0, .int .i64 0, .int .i64 0, .bool false, .int .i64 0, .int .u64 (fd.wd S.W 0 0), .int .u64 (fd.wd S.W 0 1)] 60)).cell? ⟨a4, 4, none⟩ = some (.bool false) := keeps_cell0 hk11 (HV4.out.2.2.2.2.1)
          have p5 : (w10.alloc (.cells #[.int .i64 1, .int .i64 0, .int .i64 0, .int .i64 0, .bool false, .int .i64 0, .int .u64 (fd.wd S.W 0 0), .int .u64 (fd.wd S.W 0 1)] 60)).cell? ⟨a4, 5, none⟩ = some (.int .i64 0) := keeps_cell0 hk11 (HV4.out.2.2.2.2.2.1)
          have p6 : (w10.alloc (.cells #[.int .i64 1, .int .i64 0, .int .i64 0, .int .i64 0, .bool false, .int .i64 0, .int .u64 (fd.wd S.W 0 0), .int .u64 (fd.wd S.W 0 1)] 60)).cell? ⟨a4, 6, none⟩ = some (.int .u64 (fd.wd S.W 0 0)) := keeps_cell0 hk11 (HV4.out.2.2.2.2.2.2.1)
          have p7 : (w10.alloc (.cells #[.int .i64 1, .int .i64 0, .int .i64 0, .int .i64 0, .bool false, .int .i64 0, .int .u64 (fd.wd S.W 0 0), .int .u64 (fd.wd S.W 0 1)] 60)).cell? ⟨a4, 7, none⟩ = some (.int .u64 (fd.wd S.W 0 1)) := keeps_cell0 hk11 (HV4.out.2.2.2.2.2.2.2)
          have r0 : (w10.alloc (.cells #[.int .i64 1, .int .i64 0, .int .i64 0, .int .i64 0, .bool false, .int .i64 0, .int .u64 (fd.wd S.W 0 0), .int .u64 (fd.wd S.W 0 1)] 60)).cell? ⟨w10.heap.size, 0, none⟩ = some (.int .i64 1) := (L11.out.cell 0).trans rfl
          have r1 : (w10.alloc (.cells #[.int .i64 1, .int .i64 0, .int .i64 0, .int .i64 0, .bool false, .int .i64 0, .int .u64 (fd.wd S.W 0 0), .int .u64 (fd.wd S.W 0 1)] 60)).cell? ⟨w10.heap.size, 1, none⟩ = some (.int .i64 0) := (L11.out.cell 1).trans rfl
          have r2 : (w10.alloc (.cells #[.int .i64 1, .int .i64 0, .int .i64 0, .int .i64 0, .bool false, .int .i64 0, .int .u64 (fd.wd S.W 0 0), .int .u64 (fd.wd S.W 0 1)] 60)).cell? ⟨w10.heap.size, 2, none⟩ = some (.int .i64 0) := (L11.out.cell 2).trans rfl
          have r3 : (w10.alloc (.cells #[.int .i64 1, .int .i64 0, .int .i64 0, .int .i64 0, .bool false, .int .i64 0, .int .u64 (fd.wd S.W 0 0), .int .u64 (fd.wd S.W 0 1)] 60)).cell? ⟨w10.heap.size, 3, none⟩ = some (.int .i64 0) := (L11.out.cell 3).trans rfl
          have r4 : (w10.alloc (.cells #[.int .i64 1, .int .i64 0, .int .i64 0, .int .i64 0, .bool false, .int .i64 0, .int .u64 (fd.wd S.W 0 0), .int .u64 (fd.wd S.W 0 1)] 60)).cell? ⟨w10.heap.size, 4, none⟩ = some (.bool false) := (L11.out.cell 4).trans rfl
          have r5 : (w10.alloc (.cells #[.int .i64 1, .int .i64 0, .int .i64 0, .int .i64 0, .bool false, .int .i64 0, .int .u64 (fd.wd S.W 0 0), .int .u64 (fd.wd S.W 0 1)] 60)).cell? ⟨w10.heap.size, 5, none⟩ = some (.int .i64 0) := (L11.out.cell 5).trans rfl
          have r6 : (w10.alloc (.cells #[.int .i64 1, .int .i64 0, .int .i64 0, .int .i64 0, .bool false, .int .i64 0, .int .u64 (fd.wd S.W 0 0), .int .u64 (fd.wd S.W 0 1)] 60)).cell? ⟨w10.heap.size, 6, none⟩ = some (.int .u64 (fd.wd S.W 0 0)) := (L11.out.cell 6).trans rfl
          have r7 : (w10.alloc (.cells #[.int .i64 1, .int .i64 0, .int .i64 0, .int .i64 0, .bool false, .int .i64 0, .int .u64 (fd.wd S.W 0 0), .int .u64 (fd.wd S.W 0 1)] 60)).cell? ⟨w10.heap.size, 7, none⟩ = some (.int .u64 (fd.wd S.W 0 1)) := (L11.out.cell 7).trans rfl
          obtain ⟨w11, hw11⟩ : ∃ q, w10.alloc (.cells #[.int .i64 1, .int .i64 0, .int .i64 0, .int .i64 0, .bool false, .int .i64 0, .int .u64 (fd.wd S.W 0 0), .int .u64 (fd.wd S.W 0 1)] 60) = q := ⟨_, rfl⟩
          rw [hw11] at HC11 HL11 H311 p0 p1 p2 p3 p4 p5 p6 p7 r0 r1 r2 r3 r4 r5 r6 r7
          try rw [hw11]
          obtain ⟨zw, hzw⟩ : ∃ q, w10.heap.size = q := ⟨_, rfl⟩
          rw [hzw] at r0 r1 r2 r3 r4 r5 r6 r7
          try rw [hzw]
          have HP := Lib.hid (And.intro p0 (And.intro p1 (And.intro p2 (And.intro p3 (And.intro p4 (And.intro p5 (And.intro p6 p7)))))))
          have HR := Lib.hid (And.intro r0 (And.intro r1 (And.intro r2 (And.intro r3 (And.intro r4 (And.intro r5 (And.intro r6 r7)))))))
          clear h311 hw11 hzw hk11 HC10 HL10 H3 HV4 p0 p1 p2 p3 p4 p5 p6 p7 r0 r1 r2 r3 r4 r5 r6 r7 b0 b1 b2 b3 b4 b5 b6 b7 L11
          go_loopw [19] (fun i wr => ∃ k : Nat, k ≤ 64 ∧ i = .int .i64 k ∧ Keeps [] w11 wr) (fun i _ => 64 - (intOf i).toNat)
          case atStart => exact ⟨0, by decide, rfl, Keeps.refl _ _⟩
          case round =>
            obtain ⟨k, hk, rfl, hkr⟩ := hrel
            have HKR := Lib.hid hkr
            have k0 : (0 : Int) ≤ (k : Int) := by omega
            clear hkr
            rename_i wr
            have v0 : wr.cell? ⟨zv, 0, none⟩ = some (.slice (some ⟨a3, 0, none⟩) 64 c3) := keeps_cell0 HKR.out ((HL11.out.cell 0).trans rfl)
            by_cases hlt : k < 64
            · have k1 : (k : Int) < 64 := by omega
              have x0 : wr.cell? ⟨a3, k, none⟩ = some (.int .i64 0) := keeps_cell0 HKR.out (ownC_cell H311.out (by rw [List.getElem?_replicate, if_pos hlt]))
              go_wp2_with fail
              exact ⟨⟨k + 1, by omega, by simp, HKR.out⟩, by simp [intOf]; omega⟩
            · obtain rfl : k = 64 := by omega
              clear hlt hk k0 H311
              have v1 : wr.cell? ⟨zv, 1, none⟩ = some (.int .i64 2) := keeps_cell0 HKR.out ((HL11.out.cell 1).trans rfl)
              have v2 : wr.cell? ⟨zv, 2, none⟩ = some (.int .i64 0) := keeps_cell0 HKR.out ((HL11.out.cell 2).trans rfl)
              have v3 : wr.cell? ⟨zv, 3, none⟩ = some (.slice (some ⟨a4, 0, none⟩) 8 c4) := keeps_cell0 HKR.out ((HL11.out.cell 3).trans rfl)
              obtain ⟨p0, p1, p2, p3, p4, p5, p6, p7⟩ := HP.out
              obtain ⟨r0, r1, r2, r3, r4, r5, r6, r7⟩ := HR.out
              replace p0 := keeps_cell0 HKR.out p0
              replace r0 := keeps_cell0 HKR.out r0
              replace p1 := keeps_cell0 HKR.out p1
              replace r1 := keeps_cell0 HKR.out r1
              replace p2 := keeps_cell0 HKR.out p2
              replace r2 := keeps_cell0 HKR.out r2
              replace p3 := keeps_cell0 HKR.out p3
              replace r3 := keeps_cell0 HKR.out r3
              replace p4 := keeps_cell0 HKR.out p4
              replace r4 := keeps_cell0 HKR.out r4
              replace p5 := keeps_cell0 HKR.out p5
              replace r5 := keeps_cell0 HKR.out r5
              replace p6 := keeps_cell0 HKR.out p6
              replace r6 := keeps_cell0 HKR.out r6
              replace p7 := keeps_cell0 HKR.out p7
              replace r7 := keeps_cell0 HKR.out r7
              have HC := Lib.hid (HC11.out.calm HKR.out)
              have QD : Hid (∀ n, Calls Tryz.prog 27 #[PT cb] (wr.drewN n) fun e w' => e = .returned (.bool true) ∧ wr.drewN n = w') := fun n => by
                have := (HC.out.calm ((Keeps.refl [] wr).drewN n)).run.done
                rw [show x.done = true from by unfold Cm.done; rw [HD4.out.st]; rfl] at this
                exact this
              have QE : Hid (∀ n, Calls Tryz.prog 29 #[PT cb] (wr.drewN n) fun e w' => e = .returned (.int .i64 7) ∧ wr.drewN n = w') := fun n => by
                have := (HC.out.calm ((Keeps.refl [] wr).drewN n)).run.end_
                rw [show x.end_ = 7 from by unfold Cm.end_; rw [HD4.out.st, HD4.out.e]; rfl] at this
                exact this
              have QW : Hid (∀ n, Calls Tryz.prog 30 #[PT cb] (wr.drewN n) fun e w' => e = .returned (.bool false) ∧ wr.drewN n = w') := fun n => by
                have := (HC.out.calm ((Keeps.refl [] wr).drewN n)).run.won
                rw [HD4.out.won] at this
                exact this
              have QN : Hid (∀ n, Calls Tryz.prog 31 #[PT cb] (wr.drewN n) fun e w' => e = .returned (.int .i64 1) ∧ wr.drewN n = w') := fun n => by
                have := (HC.out.calm ((Keeps.refl [] wr).drewN n)).run.number
                rw [show x.number = 1 from HD4.out.number] at this
                exact this
              have q1 : ∀ w, (Op.equalIn 10000 42 (.agg #[.int .i64 2, .int .i64 0]) (.agg #[.int .i64 2, .int .i64 0])).run Tryz.prog w = .ok true w := fun w => by have := RowG.eq_run w ⟨2, 0⟩ ⟨2, 0⟩; rw [decide_eq_true rfl] at this; exact this
              have q2 := fun w => slot_same w 1 0 0 0 false 0 (fd.wd S.W 0 0) (fd.wd S.W 0 1)
              have HKX := Lib.hid (HC.out.keep)
              clear HP HR HC11 HL11 HC
              go_wp2_with fail
              go_quiet ((first | (go_at_call 27; exact qs (QD.out _)) | (go_at_call 29; exact qs (QE.out _)) | (go_at_call 30; exact qs (QW.out _)) | (go_at_call 31; exact qs (QN.out _))))
              go_wp2_with fail
              go_ret
              exact ⟨rfl, ((HKB.out.trans HKX.out (by simp)).trans ((Keeps.refl [] wr).drewN _) (by simp)).below (by simp) (Nat.le_refl _)⟩
        · have d0 : (m == 0) = false := by simpa using hm0
          rw [if_neg hm0] at HV4
          clear hlh
          go_wp2_with fail
          have hk11 : Keeps [] w10 (w10.alloc (.cells #[.int .i64 h.gen, .int .i64 h.state, .int .i64 h.stamp, .int .i64 h.thread, .bool h.doomed, .int .i64 h.who, .int .u64 (fd.wd S.W 0 0), .int .u64 (fd.wd S.W 0 1)] 60)) := by simp
          have L11 := Lib.hid (Blk.new w10 60 #[.int .i64 h.gen, .int .i64 h.state, .int .i64 h.stamp, .int .i64 h.thread, .bool h.doomed, .int .i64 h.who, .int .u64 (fd.wd S.W 0 0), .int .u64 (fd.wd S.W 0 1)])
          have HC11 := Lib.hid (HC10.out.calm hk11)
          have HL11 := Lib.hid (HL10.out.keeps hk11 (by simp))
          have h311 : OwnC _ a3 c3 (List.replicate 64 0) := own_keeps H3.out hk11 (by simp)
          have H311 := Lib.hid h311
          have p0 : (w10.alloc (.cells #[.int .i64 h.gen, .int .i64 h.state, .int .i64 h.stamp, .int .i64 h.thread, .bool h.doomed, .int .i64 h.who, .int .u64 (fd.wd S.W 0 0), .int .u64 (fd.wd S.W 0 1)] 60)).cell? ⟨a4, 0, none⟩ = some (.int .i64 h.gen) := keeps_cell0 hk11 (HV4.out.1)
          have p1 : (w10.alloc (.cells #[.int .i64 h.gen, .int .i64 h.state, .int .i64 h.stamp, .int .i64 h.thread, .bool h.doomed, .int .i64 h.who, .int .u64 (fd.wd S.W 0 0), .int .u64 (fd.wd S.W 0 1)] 60)).cell? ⟨a4, 1, none⟩ = some (.int .i64 h.state) := keeps_cell0 hk11 (HV4.out.2.1)
          have p2 : (w10.alloc (.cells #[.int .i64 h.gen, .int .i64 h.state, .int .i64 h.stamp, .int .i64 h.thread, .bool h.doomed, .int .i64 h.who, .int .u64 (fd.wd S.W 0 0), .int .u64 (fd.wd S.W 0 1)] 60)).cell? ⟨a4, 2, none⟩ = some (.int .i64 h.stamp) := keeps_cell0 hk11 (HV4.out.2.2.1)
          have p3 : (w10.alloc (.cells #[.int .i64 h.gen, .int .i64 h.state, .int .i64 h.stamp, .int .i64 h.thread, .bool h.doomed, .int .i64 h.who, .int .u64 (fd.wd S.W 0 0), .int .u64 (fd.wd S.W 0 1)] 60)).cell? ⟨a4, 3, none⟩ = some (.int .i64 h.thread) := keeps_cell0 hk11 (HV4.out.2.2.2.1)
          have p4 : (w10.alloc (.cells #[.int .i64 h.gen, .int .i64 h.state, .int .i64 h.stamp, .int .i64 h.thread, .bool h.doomed, .int .i64 h.who, .int .u64 (fd.wd S.W 0 0), .int .u64 (fd.wd S.W 0 1)] 60)).cell? ⟨a4, 4, none⟩ = some (.bool h.doomed) := keeps_cell0 hk11 (HV4.out.2.2.2.2.1)
          have p5 : (w10.alloc (.cells #[.int .i64 h.gen, .int .i64 h.state, .int .i64 h.stamp, .int .i64 h.thread, .bool h.doomed, .int .i64 h.who, .int .u64 (fd.wd S.W 0 0), .int .u64 (fd.wd S.W 0 1)] 60)).cell? ⟨a4, 5, none⟩ = some (.int .i64 h.who) := keeps_cell0 hk11 (HV4.out.2.2.2.2.2.1)
          have p6 : (w10.alloc (.cells #[.int .i64 h.gen, .int .i64 h.state, .int .i64 h.stamp, .int .i64 h.thread, .bool h.doomed, .int .i64 h.who, .int .u64 (fd.wd S.W 0 0), .int .u64 (fd.wd S.W 0 1)] 60)).cell? ⟨a4, 6, none⟩ = some (.int .u64 (fd.wd S.W 0 0)) := keeps_cell0 hk11 (HV4.out.2.2.2.2.2.2.1)
          have p7 : (w10.alloc (.cells #[.int .i64 h.gen, .int .i64 h.state, .int .i64 h.stamp, .int .i64 h.thread, .bool h.doomed, .int .i64 h.who, .int .u64 (fd.wd S.W 0 0), .int .u64 (fd.wd S.W 0 1)] 60)).cell? ⟨a4, 7, none⟩ = some (.int .u64 (fd.wd S.W 0 1)) := keeps_cell0 hk11 (HV4.out.2.2.2.2.2.2.2)
          have r0 : (w10.alloc (.cells #[.int .i64 h.gen, .int .i64 h.state, .int .i64 h.stamp, .int .i64 h.thread, .bool h.doomed, .int .i64 h.who, .int .u64 (fd.wd S.W 0 0), .int .u64 (fd.wd S.W 0 1)] 60)).cell? ⟨w10.heap.size, 0, none⟩ = some (.int .i64 h.gen) := (L11.out.cell 0).trans rfl
          have r1 : (w10.alloc (.cells #[.int .i64 h.gen, .int .i64 h.state, .int .i64 h.stamp, .int .i64 h.thread, .bool h.doomed, .int .i64 h.who, .int .u64 (fd.wd S.W 0 0), .int .u64 (fd.wd S.W 0 1)] 60)).cell? ⟨w10.heap.size, 1, none⟩ = some (.int .i64 h.state) := (L11.out.cell 1).trans rfl
          have r2 : (w10.alloc (.cells #[.int .i64 h.gen, .int .i64 h.state, .int .i64 h.stamp, .int .i64 h.thread, .bool h.doomed, .int .i64 h.who, .int .u64 (fd.wd S.W 0 0), .int .u64 (fd.wd S.W 0 1)] 60)).cell? ⟨w10.heap.size, 2, none⟩ = some (.int .i64 h.stamp) := (L11.out.cell 2).trans rfl
          have r3 : (w10.alloc (.cells #[.int .i64 h.gen, .int .i64 h.state, .int .i64 h.stamp, .int .i64 h.thread, .bool h.doomed, .int .i64 h.who, .int .u64 (fd.wd S.W 0 0), .int .u64 (fd.wd S.W 0 1)] 60)).cell? ⟨w10.heap.size, 3, none⟩ = some (.int .i64 h.thread) := (L11.out.cell 3).trans rfl
          have r4 : (w10.alloc (.cells #[.int .i64 h.gen, .int .i64 h.state, .int .i64 h.stamp, .int .i64 h.thread, .bool h.doomed, .int .i64 h.who, .int .u64 (fd.wd S.W 0 0), .int .u64 (fd.wd S.W 0 1)] 60)).cell? ⟨w10.heap.size, 4, none⟩ = some (.bool h.doomed) := (L11.out.cell 4).trans rfl
          have r5 : (w10.alloc (.cells #[.int .i64 h.gen, .int .i64 h.state, .int .i64 h.stamp, .int .i64 h.thread, .bool h.doomed, .int .i64 h.who, .int .u64 (fd.wd S.W 0 0), .int .u64 (fd.wd S.W 0 1)] 60)).cell? ⟨w10.heap.size, 5, none⟩ = some (.int .i64 h.who) := (L11.out.cell 5).trans rfl
          have r6 : (w10.alloc (.cells #[.int .i64 h.gen, .int .i64 h.state, .int .i64 h.stamp, .int .i64 h.thread, .bool h.doomed, .int .i64 h.who, .int .u64 (fd.wd S.W 0 0), .int .u64 (fd.wd S.W 0 1)] 60)).cell? ⟨w10.heap.size, 6, none⟩ = some (.int .u64 (fd.wd S.W 0 0)) := (L11.out.cell 6).trans rfl
          have r7 : (w10.alloc (.cells #[.int .i64 h.gen, .int .i64 h.state, .int .i64 h.stamp, .int .i64 h.thread, .bool h.doomed, .int .i64 h.who, .int .u64 (fd.wd S.W 0 0), .int .u64 (fd.wd S.W 0 1)] 60)).cell? ⟨w10.heap.size, 7, none⟩ = some (.int .u64 (fd.wd S.W 0 1)) := (L11.out.cell 7).trans rfl
          obtain ⟨w11, hw11⟩ : ∃ q, w10.alloc (.cells #[.int .i64 h.gen, .int .i64 h.state, .int .i64 h.stamp, .int .i64 h.thread, .bool h.doomed, .int .i64 h.who, .int .u64 (fd.wd S.W 0 0), .int .u64 (fd.wd S.W 0 1)] 60) = q := ⟨_, rfl⟩
          rw [hw11] at HC11 HL11 H311 p0 p1 p2 p3 p4 p5 p6 p7 r0 r1 r2 r3 r4 r5 r6 r7
          try rw [hw11]
          obtain ⟨zw, hzw⟩ : ∃ q, w10.heap.size = q := ⟨_, rfl⟩
          rw [hzw] at r0 r1 r2 r3 r4 r5 r6 r7
          try rw [hzw]
          have HP := Lib.hid (And.intro p0 (And.intro p1 (And.intro p2 (And.intro p3 (And.intro p4 (And.intro p5 (And.intro p6 p7)))))))
          have HR := Lib.hid (And.intro r0 (And.intro r1 (And.intro r2 (And.intro r3 (And.intro r4 (And.intro r5 (And.intro r6 r7)))))))
          clear h311 hw11 hzw hk11 HC10 HL10 H3 HV4 p0 p1 p2 p3 p4 p5 p6 p7 r0 r1 r2 r3 r4 r5 r6 r7 b0 b1 b2 b3 b4 b5 b6 b7 L11
          go_loopw [19] (fun i wr => ∃ k : Nat, k ≤ 64 ∧ i = .int .i64 k ∧ Keeps [] w11 wr) (fun i _ => 64 - (intOf i).toNat)
          case atStart => exact ⟨0, by decide, rfl, Keeps.refl _ _⟩
          case round =>
            obtain ⟨k, hk, rfl, hkr⟩ := hrel
            have HKR := Lib.hid hkr
            have k0 : (0 : Int) ≤ (k : Int) := by omega
            clear hkr
            rename_i wr
            have v0 : wr.cell? ⟨zv, 0, none⟩ = some (.slice (some ⟨a3, 0, none⟩) 64 c3) := keeps_cell0 HKR.out ((HL11.out.cell 0).trans rfl)
            by_cases hlt : k < 64
            · have k1 : (k : Int) < 64 := by omega
              have x0 : wr.cell? ⟨a3, k, none⟩ = some (.int .i64 0) := keeps_cell0 HKR.out (ownC_cell H311.out (by rw [List.getElem?_replicate, if_pos hlt]))
              go_wp2_with fail
              exact ⟨⟨k + 1, by omega, by simp, HKR.out⟩, by simp [intOf]; omega⟩
            · obtain rfl : k = 64 := by omega
              clear hlt hk k0 H311
              have v1 : wr.cell? ⟨zv, 1, none⟩ = some (.int .i64 2) := keeps_cell0 HKR.out ((HL11.out.cell 1).trans rfl)
              have v2 : wr.cell? ⟨zv, 2, none⟩ = some (.int .i64 0) := keeps_cell0 HKR.out ((HL11.out.cell 2).trans rfl)
              have v3 : wr.cell? ⟨zv, 3, none⟩ = some (.slice (some ⟨a4, 0, none⟩) 8 c4) := keeps_cell0 HKR.out ((HL11.out.cell 3).trans rfl)
              obtain ⟨p0, p1, p2, p3, p4, p5, p6, p7⟩ := HP.out
              obtain ⟨r0, r1, r2, r3, r4, r5, r6, r7⟩ := HR.out
              replace p0 := keeps_cell0 HKR.out p0
              replace r0 := keeps_cell0 HKR.out r0
              replace p1 := keeps_cell0 HKR.out p1
              replace r1 := keeps_cell0 HKR.out r1
              replace p2 := keeps_cell0 HKR.out p2
              replace r2 := keeps_cell0 HKR.out r2
              replace p3 := keeps_cell0 HKR.out p3
              replace r3 := keeps_cell0 HKR.out r3
              replace p4 := keeps_cell0 HKR.out p4
              replace r4 := keeps_cell0 HKR.out r4
              replace p5 := keeps_cell0 HKR.out p5
              replace r5 := keeps_cell0 HKR.out r5
              replace p6 := keeps_cell0 HKR.out p6
              replace r6 := keeps_cell0 HKR.out r6
              replace p7 := keeps_cell0 HKR.out p7
              replace r7 := keeps_cell0 HKR.out r7
              have HC := Lib.hid (HC11.out.calm HKR.out)
              have QD : Hid (∀ n, Calls Tryz.prog 27 #[PT cb] (wr.drewN n) fun e w' => e = .returned (.bool true) ∧ wr.drewN n = w') := fun n => by
                have := (HC.out.calm ((Keeps.refl [] wr).drewN n)).run.done
                rw [show x.done = true from by unfold Cm.done; rw [HD4.out.st]; rfl] at this
                exact this
              have QE : Hid (∀ n, Calls Tryz.prog 29 #[PT cb] (wr.drewN n) fun e w' => e = .returned (.int .i64 7) ∧ wr.drewN n = w') := fun n => by
                have := (HC.out.calm ((Keeps.refl [] wr).drewN n)).run.end_
                rw [show x.end_ = 7 from by unfold Cm.end_; rw [HD4.out.st, HD4.out.e]; rfl] at this
                exact this
              have QW : Hid (∀ n, Calls Tryz.prog 30 #[PT cb] (wr.drewN n) fun e w' => e = .returned (.bool false) ∧ wr.drewN n = w') := fun n => by
                have := (HC.out.calm ((Keeps.refl [] wr).drewN n)).run.won
                rw [HD4.out.won] at this
                exact this
              have QN : Hid (∀ n, Calls Tryz.prog 31 #[PT cb] (wr.drewN n) fun e w' => e = .returned (.int .i64 1) ∧ wr.drewN n = w') := fun n => by
                have := (HC.out.calm ((Keeps.refl [] wr).drewN n)).run.number
                rw [show x.number = 1 from HD4.out.number] at this
                exact this
              have q1 : ∀ w, (Op.equalIn 10000 42 (.agg #[.int .i64 2, .int .i64 0]) (.agg #[.int .i64 2, .int .i64 0])).run Tryz.prog w = .ok true w := fun w => by have := RowG.eq_run w ⟨2, 0⟩ ⟨2, 0⟩; rw [decide_eq_true rfl] at this; exact this
              have q2 := fun w => slot_same w h.gen h.state h.stamp h.thread h.doomed h.who (fd.wd S.W 0 0) (fd.wd S.W 0 1)
              have HKX := Lib.hid (HC.out.keep)
              clear HP HR HC11 HL11 HC
              go_wp2_with fail
              go_quiet ((first | (go_at_call 27; exact qs (QD.out _)) | (go_at_call 29; exact qs (QE.out _)) | (go_at_call 30; exact qs (QW.out _)) | (go_at_call 31; exact qs (QN.out _))))
              go_wp2_with fail
              go_ret
              exact ⟨rfl, ((HKB.out.trans HKX.out (by simp)).trans ((Keeps.refl [] wr).drewN _) (by simp)).below (by simp) (Nat.le_refl _)⟩

theorem own : ownKnob Tryz.prog.godebug = none := by kernel_rfl
theorem laidOut : laidOutB Tryz.prog = true := by kernel_rfl

set_option maxRecDepth 100000 in
theorem lifted (os : Os) (started : os.Started) (H : Type) (enc : TypeId × Value → H) :
    ReturnsInHanded {} Tryz.checked os 4 .any (Rows.commitDoomedSpec.pre6 enc Tryz.prog Tryz.f4 Rows.commitDoomedRow.domain false) (Rows.commitDoomedSpec.post enc Tryz.prog Tryz.f4 false true false false) := by
  refine returnsInHanded_of_change (C := Tryz.checked) own started (by kernel_rfl) Tryz.func4
    (ChangeSpec.witness6 (enc := enc) (C := Tryz.checked) false ⟨#[], #[.int .i64 0, .int .i64 0, .slice none 0 0], []⟩ 8 (by kernel_rfl) (by kernel_rfl) (by kernel_rfl) (by kernel_rfl)) ?_
  intro W base args ds gs before hval0 hW hcnd _
  have hval : ∀ (j : Nat) t v, Tryz.f4.params[j]? = some t → args[j]? = some v → Value.okWide Tryz.prog W .any base t v := hval0
  have hW' := hW
  obtain ⟨p, q, hA0, hV, rfl, hfz, hnd⟩ := hW
  have hA : DataW.TrodAll enc Tryz.prog W 0 (fun _ => true) true Tryz.f4.params.toList args.toList ds p := hA0
  rw [Tryz.params4] at hA hval
  obtain ⟨v0, vs0, d0, ds0, p0, q0, hargs, rfl, rfl, h0, r0⟩ := trodAll_cons hA
  obtain ⟨v1, vs1, d1, ds1, p1, q1, rfl, rfl, rfl, h1, r1⟩ := trodAll_cons r0
  obtain ⟨v2, vs2, d2, ds2, p2, q2, rfl, rfl, rfl, h2, r2⟩ := trodAll_cons r1
  obtain ⟨rfl, rfl, rfl⟩ := trodAll_nil r2
  obtain rfl : args = #[v0, v1, v2] := by cases args; simp_all
  obtain ⟨rfl, rfl⟩ := trodVars_none hV
  obtain ⟨a0, rfl, rfl, rfl, w0⟩ := open_int Tryz.underlying3 (hval 0 3 v0 rfl rfl) h0
  obtain ⟨a1, rfl, rfl, rfl, w1⟩ := open_int Tryz.underlying3 (hval 1 3 v1 rfl rfl) h1
  have k2 := h2
  have lt2 : ∀ x ∈ p2, x.block < W.heap.size := by obtain ⟨m, hm⟩ := k2; exact DataW.trod_lt m _ _ _ hm
  obtain ⟨A2, n2, c2, rfl⟩ := okWide_slice Tryz.underlying27 (hval 2 27 v2 rfl rfl)
  obtain ⟨fl2, hf2⟩ := h2
  obtain ⟨l2, s2⟩ := lstPair_open hf2
  clear hA0 hval0
  refine (walk a0 a1 A2 n2 c2 l2 W w0 w1 s2).mono fun e W' ⟨he, bel⟩ => ?_
  subst he
  exact ⟨_, rfl, _, _, _, [], _, [], hW', trodAll_mk1 (shut_bool Tryz.underlying4 _), (trodAll_cons_mk (shut_int Tryz.underlying3 w0) (trodAll_cons_mk (shut_int Tryz.underlying3 w1) (trodAll_cons_mk (Below.trod laidOut (by kernel_rfl) (of_decide_eq_true (by kernel_rfl)) k2 bel lt2) trodAll_mk0))), rfl, bel.frame _, fun h => by cases h⟩

theorem over : Rows.commitDoomedRow.holds Tryz.pinned (OpenSpec.ofChange Rows.commitDoomedSpec) :=
  OpenClaim.holds_of_wide 4 Tryz.f4 rfl rfl rfl rfl rfl rfl rfl ⟨rfl, rfl, rfl, rfl, rfl⟩ rfl rfl rfl rfl rfl (by kernel_rfl) Tryz.func4 (by kernel_rfl)
    (of_decide_eq_true (by kernel_rfl)) (by unfold Func.isWrapper; first | (rw [if_pos (by decide +kernel)]; kernel_rfl) | (rw [if_neg (by decide +kernel)]; exact ⟨rfl, rfl⟩))
    (fun os started H enc _ => lifted os started H enc)

/-- The statement. -/
theorem proved : Rows.CommitDoomedSaid := over
#print axioms proved
end Go.Proofs.YtdhgiohjdhcedaaGreat.commitDoomed
