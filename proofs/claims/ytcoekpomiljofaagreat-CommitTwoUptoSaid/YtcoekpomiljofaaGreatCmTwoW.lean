/- CommitTwo's walk. -/
import Derived.Test.YtcoekpomiljofaaGreatAw13
import Derived.Test.YtcoekpomiljofaaGreatRegM
import Derived.Test.YtcoekpomiljofaaGreatCmWrs
import Derived.Test.YtcoekpomiljofaaGreatCmTwoA
import Derived.Test.YtcoekpomiljofaaGreatElFlag
import Derived.Test.YtcoekpomiljofaaGreatTailQ
import Derived.Deep.RegionHeld3
import Derived.Deep.DeepCutAuto
import Derived.Deep.QuietTactic
import Derived.BigQuiet
import Derived.WalkKit
namespace Go.Proofs.YtcoekpomiljofaaGreat.commitTwo
open Go.RowKit
set_option linter.unusedVariables false
set_option linter.unusedSimpArgs false
open al fd Pol tw
theorem pair_keeps {w w' : World} {A : Option Addr} {n cap : Nat} {l : List ElPair} (h : LstPair w A n cap l) (hk : Keeps [] w w') : LstPair w' A n cap l := by
  obtain ⟨h1, h2, h3, h4⟩ := h
  refine ⟨h1, h2, h3, fun hn => ?_⟩
  obtain ⟨b, off, hA, hb, hc⟩ := h4 hn
  exact ⟨b, off, hA, Nat.lt_of_lt_of_le hb hk.size, fun i p hp => (hc i p hp).keeps hb hk⟩
theorem nth_set0 {l : List Hd} {x : Hd} (y : Hd) (h : nth l 0 = some x) : nth (l.set (Int.toNat 0) y) 0 = some y := by
  have := nth_len h
  unfold nth
  rw [if_pos (by omega)]
  simp only [Int.toNat_zero]
  rw [List.getElem?_set_self (by omega)]
theorem spL_nth {c : Cf} (hc : c.ok) : nth (spL c).H 0 = some hdL := by
  rw [(spL_is hc.2.1.1).2.2]
  have := hc.2.1.1
  exact nth_set0 _ (nth_rep (n := c.slots.toNat) (a := Hd.zero) (by omega))
theorem row_grow {w wr W w1 : World} {wt v1 : Value} {n size : Nat} {t : TypeId} {xs ys : List Value} (how : wr.ownsRow w.heap.size t size wt n xs) (hk : Keeps [] w wr) (hkW : Keeps [] wr W) (hown : w1.ownsRow 0 t size v1 (n + 1) ys) (hg : W.grownBy w1 wt.ownBlock) (hat : v1.ownBlock = wt.ownBlock ∨ v1.ownBlock = some W.heap.size) :
    w1.ownsRow w.heap.size t size v1 (n + 1) ys ∧ Keeps [] w w1 := by
  have hW : Keeps [] w W := hk.trans hkW (by simp)
  have hz := hW.size
  refine ⟨?_, hW.grown hg (fun q hq => .inr (how.lt q hq).1)⟩
  refine own_base hown (fun q hq => ?_)
  rcases hat with e | e
  · exact (how.lt q (e ▸ hq)).1
  · rw [e] at hq; injection hq with hq; omega
theorem ownC_cell {w : World} {a c : Nat} {l : List Int} {k : Nat} {x : Int} (h : OwnC w a c l) (hx : l[k]? = some x) : w.cell? ⟨a, k, none⟩ = some (.int .i64 x) := by
  have e : ∀ l : List Int, l.flatMap RowI.cells = l.map (Value.int .i64) := fun l => by
    induction l with
    | nil => rfl
    | cons y l ih => simp [RowI.cells] at ih ⊢; exact ih
  have hlt := (List.getElem?_eq_some_iff.1 hx).1
  exact (World.ownsRow.cellAt h k (by omega)).trans (by rw [e l, List.getElem?_map, hx]; rfl)
theorem prw {w : World} {g n c : Nat} {ws : List Pr} (h : w.ownsRow 0 62 2 (.slice (some ⟨g, 0, none⟩) n c) n (prCells ws)) {j : Nat} {p : Pr} (hp : ws[j]? = some p) (hn : ws.length = n) : w.cell? ⟨g, j * 2, none⟩ = some (.int .i64 p.cell) ∧ w.cell? ⟨g, j * 2 + 1, none⟩ = some (.int .i64 p.x) := by
  subst hn
  obtain ⟨g', off, e, h0, h1⟩ := pr_cellR (SlR.of_own h) hp
  injection e with e
  injection e with e1 e2
  subst e1 e2
  rw [Nat.zero_add] at h0 h1
  exact ⟨h0, h1⟩
/-- The space then. -/
def spTw (c : Cf) : Sp := (((spL c).claim 1 2).2.ready 1 1 6).2
def hdT : Hd := ⟨1, 2, 6, 2, false, 0⟩
theorem spTw_is {c : Cf} (h : c.slots = 8) : ((spL c).claim 1 2).1 = (1, 0) ∧ (((spL c).claim 1 2).2.ready 1 1 6).1 = 0 ∧ spTw c = { ((((Sp.new c).acc 3 0 3 true).acc 3 0 3 true).acc 3 1 3 true).acc 3 1 3 true with H := [hdL, hdT, Hd.zero, Hd.zero, Hd.zero, Hd.zero, Hd.zero, Hd.zero] } := by
  have e := (spL_is (c := c) (by omega)).2.2
  have h8 : c.slots.toNat = 8 := by omega
  rw [h8] at e
  unfold spTw
  rw [e]
  exact ⟨rfl, rfl, rfl⟩
theorem spTw_fit {c : Cf} (h : c.ok) : Fit 4 (spTw c) := ((spL_fit h).claim 1 2).ready 1 1 6
theorem spTw_wu (c : Cf) : (spTw c).wu := Sp.wu_of (spL_wu c) ((Sp.ready_W _ _ _ _).1.trans (Sp.claim_W _ _ _).1)
theorem spTw_c (c : Cf) : (spTw c).c = c := ((Sp.ready_W _ _ _ _).2.trans (Sp.claim_W _ _ _).2).trans (spL_c c)
theorem rep_sixteen {c : Cf} (h : c.slots = 8) : List.replicate (c.slots.toNat * 2) (0 : Int) = List.replicate 16 0 := by rw [h]; rfl
/-- Both at the start. -/
theorem tw_start {c : Cf} (h : c.ok) (h8 : c.slots = 8) (h64 : c.cells = 64) (vs ws : List Pr) : Tw c ⟨0, 1, 5, vs⟩ ⟨1, 2, 6, ws⟩ (vs.length + 32) (ws.length + 32) (spTw c) (Cm.new 0 1 1 5 vs) (Cm.new 1 1 2 6 ws) := by
  have e := (spTw_is h8).2.2
  refine ⟨⟨spTw_c c, ?_, ?_, ?_⟩, ⟨rfl, rfl, rfl, rfl, rfl, rfl, fun _ => ?_⟩, ⟨rfl, rfl, rfl, rfl, rfl, rfl, fun _ => ?_⟩, .inl (.none ⟨rfl, rfl, rfl⟩ ⟨rfl, rfl, rfl⟩ ?_ ?_ ?_)⟩
  · rw [e]; rfl
  · rw [e]; exact rep_sixteen h8
  · rw [e]; show (List.replicate c.cells.toNat (0 : Int)).length = 64; rw [h64]; rfl
  · rw [e]; rfl
  · rw [e]; rfl
  · rw [e]; rfl
  · rw [e]; show List.replicate c.cells.toNat (0 : Int) = Zc; rw [h64]; rfl
  · rw [e]; rfl
theorem i64_one (n : Nat) : bits .and .i64 (n : Int) 1 = ((n % 2 : Nat) : Int) := by
  rw [i64_and1]
  omega
theorem pq_mk {vs ws : List Pr} (a1 : 1 ≤ vs.length) (a2 : vs.length ≤ 16) (a3 : ∀ q, q ∈ vs → 0 ≤ q.cell ∧ q.cell < 64) (b1 : 1 ≤ ws.length) (b2 : ws.length ≤ 16) (b3 : ∀ q, q ∈ ws → 0 ≤ q.cell ∧ q.cell < 64) : Pq ⟨0, 1, 5, vs⟩ ⟨1, 2, 6, ws⟩ :=
  ⟨⟨Int.le_refl 0, (by decide : (0 : Int) < 8), (by decide : (1 : Int) ≤ 1), (by decide : (1 : Int) ≤ 8), a1, a2, a3⟩, ⟨(by decide : (0 : Int) ≤ 1), (by decide : (1 : Int) < 8), (by decide : (1 : Int) ≤ 2), (by decide : (2 : Int) ≤ 8), b1, b2, b3⟩, (by decide : (0 : Int) ≠ 1), (by decide : (1 : Int) ≠ 2)⟩
def want (C : List Int) : Array Value := (C.map (Value.int .i64)).toArray
theorem want_get {C : List Int} {i : Nat} {x : Int} (h : C[i]? = some x) : (want C)[i]? = some (.int .i64 x) := by
  unfold want
  rw [List.getElem?_toArray, List.getElem?_map, h]
  rfl
theorem want_set (C : List Int) {i : Nat} (hi : i < C.length) (x : Int) : (want C).setIfInBounds i (.int .i64 x) = want (C.set i x) := by
  unfold want
  rw [List.setIfInBounds_toArray, List.map_set]
/-- What stands when a round begins. -/
def Lp (wb w : World) (z : Sb) (jb cb jb2 cb2 : Nat) (c : Cf) (p q : Wh) (gv nv cv gw nw cw n i : Nat) (o1 o2 : Bool) : Prop :=
  ∃ k S x y rx ry, k ≤ 4 + 2 * i ∧ Tc wb w z jb cb jb2 cb2 k S c x y [gv, gw] ∧ w.ownsRow 0 62 2 (.slice (some ⟨gv, 0, none⟩) nv cv) nv (prCells p.ws) ∧ w.ownsRow 0 62 2 (.slice (some ⟨gw, 0, none⟩) nw cw) nw (prCells q.ws) ∧ Tw c p q rx ry S x y ∧ Meas 1 n i S x y (rx + ry) ∧ x.done = o1 ∧ y.done = o2
set_option maxRecDepth 100000 in
set_option maxHeartbeats 16000000 in
theorem walk (bs : Int) (A : Option Addr) (n cap : Nat) (l : List ElPair) (B : Option Addr) (m mcap : Nat) (l2 : List ElPair) (O : Option Addr) (on oc : Nat) (lo : List Bool) (w : World) (_ : (Lit.int IntKind.i64 bs).wf = true) (hl : LstPair w A n cap l) (hl2 : LstPair w B m mcap l2) (hlo : LstFlag w O on oc lo) : Calls Tryz.prog 3 #[.int .i64 bs, .slice A n cap, .slice B m mcap, .slice O on oc] w fun e w' => e = .returned (.bool true) ∧ Below w.heap.size w w' := by
  have HL := Lib.hid (And.intro hl hl2)
  have HLO := Lib.hid hlo
  have hok := cfgOf_ok 0 bs 0 0
  have h64 : (cfgOf 0 bs 0 0).cells = 64 := rfl
  have h8 : (cfgOf 0 bs 0 0).slots = 8 := rfl
  have htg : (cfgOf 0 bs 0 0).tag = 1 := rfl
  have HQ := Lib.hid (fun w' => config_any w' 0 bs 0 0)
  obtain ⟨c, hc⟩ : ∃ q, cfgOf 0 bs 0 0 = q := ⟨_, rfl⟩
  rw [hc] at HQ hok h64 h8 htg
  have HOK := Lib.hid (And.intro hok (And.intro h64 (And.intro h8 htg)))
  have hon : on ≤ 1048576 := hlo.2.2.1
  clear hl hl2 hlo hc hok h64 h8 htg
  go_enter Tryz.func3, Tryz.ntmps3
  go_wp2_with fail
  refine (awake13 _).mono ?_
  rintro e w1 ⟨rfl, hk⟩
  have HK := Lib.hid hk
  clear hk
  go_wp2_with fail
  refine (HQ.out _).mono ?_
  rintro e w2 ⟨rfl, hk⟩
  replace HK := Lib.hid (HK.out.trans hk (by simp))
  clear hk HQ
  go_wp2_with fail
  refine (lives_any _ c HOK.out.1).mono ?_
  rintro e w3 ⟨z, jb, F, rfl, hs, hj, hlo⟩
  have HS := Lib.hid hs
  have HJ := Lib.hid (And.intro hj hlo)
  have QC := Lib.hid (sp_config hs)
  rw [spL_c] at QC
  clear hs hj hlo
  go_wp2_with fail
  refine QC.out.mono ?_
  rintro e w4 hq4
  obtain ⟨rfl, hk4⟩ := hq4
  clear QC
  go_wp2_with fail
  refine (judge_new w4 c HOK.out.1).mono ?_
  rintro e w5 ⟨kb, rfl, hj5, hlk, hk5⟩
  have hk35 : Keeps [] w3 w5 := hk4.trans hk5 (by simp)
  have hz3 := HS.out.keep.size
  have hz4 := hk4.size
  have hjl := Blk.lt HJ.out.1
  have HJ5 : Hid ((JAt w5 jb c 0 ∧ w2.heap.size ≤ jb) ∧ (JAt w5 kb c 0 ∧ w2.heap.size ≤ kb) ∧ jb ≠ kb) := ⟨⟨Blk.keeps HJ.out.1 hk35 (by simp), HJ.out.2⟩, ⟨hj5, by omega⟩, by omega⟩
  have HS5 := Lib.hid (HS.out.calm hk35)
  clear hj5 hlk hk5 hk4 hk35 hz3 hz4 hjl HS HJ
  obtain ⟨t1, t2, t3⟩ := spTw_is (c := c) HOK.out.2.2.1
  have QCL := Lib.hid (sp_claim HS5.out (spL_fit HOK.out.1) (by decide) 1 2)
  rw [t1] at QCL
  clear t1 t3
  go_wp2_with fail
  refine (sp_slots HS5.out).mono ?_
  rintro e wq ⟨rfl, rfl⟩
  go_wp2_with fail
  refine QCL.out.mono ?_
  rintro e w6 ⟨rfl, F6, hs6, hk6, _⟩
  have QRD := Lib.hid (sp_ready hs6 ((spL_fit HOK.out.1).claim 1 2) (by decide) 1 1 6)
  rw [t2] at QRD
  have HS6 := Lib.hid hs6
  have HJ6 : Hid ((JAt w6 jb c 0 ∧ w2.heap.size ≤ jb) ∧ (JAt w6 kb c 0 ∧ w2.heap.size ≤ kb) ∧ jb ≠ kb) := ⟨⟨Blk.keeps HJ5.out.1.1 hk6 (HS5.out.out HJ5.out.1.1 (by decide)), HJ5.out.1.2⟩, ⟨Blk.keeps HJ5.out.2.1.1 hk6 (HS5.out.out HJ5.out.2.1.1 (by decide)), HJ5.out.2.1.2⟩, HJ5.out.2.2⟩
  clear t2 hs6 hk6 QCL HS5 HJ5
  go_wp2_with fail
  refine (sp_slots HS6.out).mono ?_
  rintro e wq ⟨rfl, rfl⟩
  go_wp2_with fail
  refine QRD.out.mono ?_
  rintro e w7 ⟨rfl, F7, hs7, hk7, _⟩
  have HJ7 : Hid ((JAt w7 jb c 0 ∧ w2.heap.size ≤ jb) ∧ (JAt w7 kb c 0 ∧ w2.heap.size ≤ kb) ∧ jb ≠ kb) := ⟨⟨Blk.keeps HJ6.out.1.1 hk7 (HS6.out.out HJ6.out.1.1 (by decide)), HJ6.out.1.2⟩, ⟨Blk.keeps HJ6.out.2.1.1 hk7 (HS6.out.out HJ6.out.2.1.1 (by decide)), HJ6.out.2.1.2⟩, HJ6.out.2.2⟩
  have HS7 : Hid (SP w2 w7 z F7 (spTw c)) := hs7
  have HKW : Hid (Keeps [] w w7) := HK.out.trans hs7.keep (by simp)
  have HFL : Hid ((∀ q, q ∈ F7 → q < w7.heap.size) ∧ jb < w7.heap.size ∧ kb < w7.heap.size) := ⟨hs7.lt, Blk.lt HJ7.out.1.1, Blk.lt HJ7.out.2.1.1⟩
  clear hs7 hk7 QRD HS6 HJ6
  have HLW := Lib.hid (pair_keeps HL.out.1 HKW.out)
  go_wp2_with fail
  refine (writes_any w7 A n cap l HLW.out).mono ?_
  rintro e w8 ⟨v8, rfl, ho8, hk8⟩
  obtain ⟨okv, lv⟩ := wsOf_ok l
  obtain ⟨gv, cv, rfl, _, _⟩ := ho8.form (by omega)
  obtain ⟨vs, hvs⟩ : ∃ q, wsOf l = q := ⟨_, rfl⟩
  have hmay1 : mayE c 0 1 5 vs = 0 := hvs ▸ wsOf_may l HOK.out.2.1 (by decide) (by decide) (by decide) (by decide) (by rw [HOK.out.2.2.1]; decide)
  rw [hvs] at ho8 okv lv
  try rw [hvs]
  obtain ⟨nv, hnv⟩ : ∃ q, vs.length = q := ⟨_, rfl⟩
  rw [hnv] at ho8
  try rw [hnv]
  have HW8 := Lib.hid (And.intro ho8 (And.intro hmay1 (And.intro okv (And.intro hnv (And.intro lv hk8)))))
  have HLX := Lib.hid (pair_keeps HL.out.2 (HKW.out.trans hk8 (by simp)))
  clear ho8 hmay1 okv lv hvs hnv hk8 HLW HL
  go_wp2_with fail
  refine (writes_any w8 B m mcap l2 HLX.out).mono ?_
  rintro e w9 ⟨v9, rfl, ho9, hk9⟩
  obtain ⟨okw, lw⟩ := wsOf_ok l2
  obtain ⟨gw, cw, rfl, _, _⟩ := ho9.form (by omega)
  obtain ⟨ws, hws⟩ : ∃ q, wsOf l2 = q := ⟨_, rfl⟩
  have hmay2 : mayE c 1 2 6 ws = 0 := hws ▸ wsOf_may l2 HOK.out.2.1 (by decide) (by decide) (by decide) (by decide) (by rw [HOK.out.2.2.1]; decide)
  rw [hws] at ho9 okw lw
  try rw [hws]
  obtain ⟨nw, hnw⟩ : ∃ q, ws.length = q := ⟨_, rfl⟩
  rw [hnw] at ho9
  try rw [hnw]
  have HW9 := Lib.hid (And.intro ho9 (And.intro hmay2 (And.intro okw (And.intro hnw (And.intro lw hk9)))))
  have hk79 : Keeps [] w7 w9 := HW8.out.2.2.2.2.2.trans hk9 (by simp)
  have HS9 := Lib.hid (HS7.out.calm hk79)
  have HJ9 : Hid ((JAt w9 jb c 0 ∧ w2.heap.size ≤ jb) ∧ (JAt w9 kb c 0 ∧ w2.heap.size ≤ kb) ∧ jb ≠ kb) := ⟨⟨Blk.keeps HJ7.out.1.1 hk79 (by simp), HJ7.out.1.2⟩, ⟨Blk.keeps HJ7.out.2.1.1 hk79 (by simp), HJ7.out.2.1.2⟩, HJ7.out.2.2⟩
  have hrv := own_keeps HW8.out.1 hk9 (by simp)
  have HRV := Lib.hid hrv
  have hcc : (spTw c).c = c := spTw_c c
  have HF := Lib.hid (And.intro (spTw_fit HOK.out.1) (And.intro (spTw_wu c) hcc))
  have hmy := HW8.out.2.1
  rw [← hcc] at hmy
  have HN := Lib.hid (cm_new (jb := jb) HS9.out HF.out.1 0 1 1 5 (some ⟨gv, 0, none⟩) cv vs (SlR.of_own (HW8.out.2.2.2.1.symm ▸ own_base hrv (fun _ _ => Nat.zero_le _))) hmy)
  rw [HW8.out.2.2.2.1] at HN
  clear okw lw hws hnw hk9 ho9 hmay2 hmy hk79 hrv HLX HS7 HJ7
  go_wp2_with fail
  refine HN.out.mono ?_
  rintro e w10 ⟨cb, H1, rfl, hm10, hfr10, hk10⟩
  have hlv := HRV.out.lt gv rfl
  have hlw := HW9.out.1.lt gw rfl
  have hz27 := HS9.out.keep.size
  have hz78 := HW8.out.2.2.2.2.2.size
  have htv := own_tyOf HRV.out (k := gv) rfl
  have htw := own_tyOf HW9.out.1 (k := gw) rfl
  have hlv8 := HW8.out.1.lt gv rfl
  have hjb := HJ9.out
  have hlen8 : (spTw c).H.length = 8 := by rw [(spTw_is HOK.out.2.2.1).2.2]; rfl
  obtain ⟨hFlt, hjw, hkw⟩ := HFL.out
  have hCS : CmS w2 w10 z jb cb 8 4 (spTw c) c 0 (Cm.new 0 1 1 5 vs) [kb, gv, gw] := CmS.new HS9.out hjb.1.1 hjb.1.2 HF.out.1 HF.out.2.1 HF.out.2.2 hlen8 (by decide) (by decide) HW8.out.2.1 hk10 hm10 hfr10 (fun q hq => by
    simp only [List.mem_cons, List.not_mem_nil, or_false] at hq
    rcases hq with rfl | rfl | rfl
    · exact ⟨hjb.2.1.2, Blk.lt hjb.2.1.1, fun hx => by
        simp only [List.mem_cons] at hx
        rcases hx with e | hx
        · exact hjb.2.2 e.symm
        · exact HS9.out.out hjb.2.1.1 (by decide) hx, fun t ht => by
        have h := Blk.tyOf hjb.2.1.1
        rw [h] at ht
        injection ht with ht
        subst ht
        decide⟩
    · exact ⟨by omega, hlv.2, fun hx => by
        simp only [List.mem_cons] at hx
        rcases hx with e | hx
        · omega
        · have := hFlt _ hx; omega, fun t ht => by rw [htv] at ht; injection ht with ht; subst ht; decide⟩
    · exact ⟨by omega, hlw.2, fun hx => by
        simp only [List.mem_cons] at hx
        rcases hx with e | hx
        · omega
        · have := hFlt _ hx; omega, fun t ht => by rw [htw] at ht; injection ht with ht; subst ht; decide⟩)
  have HCS := Lib.hid hCS
  have HX : Hid (∀ q, q ∈ [gv, gw] → q ≠ kb) := fun q hq => by
    simp only [List.mem_cons, List.not_mem_nil, or_false] at hq
    rcases hq with rfl | rfl <;> omega
  clear hm10 hfr10 HN hCS hlv hlw hz27 hz78 htv htw hlv8 hFlt hjw hkw hjb hlen8
  have hcc2 := hcc
  have hmy2 := HW9.out.2.1
  rw [← hcc] at hmy2
  have HS10 := Lib.hid (HS9.out.calm hk10)
  have hrw := own_keeps HW9.out.1 hk10 (by simp)
  have HN2 := Lib.hid (cm_new (jb := kb) HS10.out HF.out.1 1 1 2 6 (some ⟨gw, 0, none⟩) cw ws (SlR.of_own (HW9.out.2.2.2.1.symm ▸ own_base hrw (fun _ _ => Nat.zero_le _))) hmy2)
  rw [HW9.out.2.2.2.1] at HN2
  have HJK : Hid (JAt w10 kb c 0) := Blk.keeps HJ9.out.2.1.1 hk10 (by simp)
  have HRV10 := Lib.hid (own_keeps HRV.out hk10 (by simp))
  have HRW10 := Lib.hid hrw
  clear hmy2 hcc2 hcc hrw HJ9 HS9 HRV hk10
  go_wp2_with fail
  refine HN2.out.mono ?_
  rintro e w11 ⟨cb2, H2, rfl, hm11, hfr11, hk11⟩
  have hTC : Tc w2 w11 z jb cb kb cb2 4 (spTw c) c (Cm.new 0 1 1 5 vs) (Cm.new 1 1 2 6 ws) [gv, gw] := Tc.new HCS.out HJK.out HX.out HW9.out.2.1 hk11 hm11 hfr11
  have hn1 : 1 ≤ nv ∧ nv ≤ 16 := by have := HW8.out.2.2.1.len; have := HW8.out.2.2.2.2.1; have := HW8.out.2.2.2.1; omega
  have hn2 : 1 ≤ nw ∧ nw ≤ 16 := by have := HW9.out.2.2.1.len; have := HW9.out.2.2.2.2.1; have := HW9.out.2.2.2.1; omega
  have HN12 := Lib.hid (And.intro hn1 hn2)
  have HLV : Hid (vs.length = nv ∧ ws.length = nw) := ⟨HW8.out.2.2.2.1, HW9.out.2.2.2.1⟩
  have HPQ : Hid (Pq ⟨0, 1, 5, vs⟩ ⟨1, 2, 6, ws⟩) := pq_mk (by have := HLV.out; omega) (by have := HLV.out; omega) HW8.out.2.2.1.rng (by have := HLV.out; omega) (by have := HLV.out; omega) HW9.out.2.2.1.rng
  have HOKW : Hid (WOk vs ∧ WOk ws) := ⟨HW8.out.2.2.1, HW9.out.2.2.1⟩
  have hLP : Lp w2 w11 z jb cb kb cb2 c ⟨0, 1, 5, vs⟩ ⟨1, 2, 6, ws⟩ gv nv cv gw nw cw on 0 false false := ⟨4, spTw c, _, _, _, _, by omega, hTC, own_base (own_keeps HRV10.out hk11 (by simp)) (fun _ _ => Nat.zero_le _), own_base (own_keeps HRW10.out hk11 (by simp)) (fun _ _ => Nat.zero_le _), tw_start HOK.out.1 HOK.out.2.2.1 HOK.out.2.1 vs ws, .inr (.inl ⟨Nat.zero_le _, by have := HLV.out; show vs.length + 32 + (ws.length + 32) ≤ 96; omega⟩), rfl, rfl⟩
  have HLP := Lib.hid hLP
  have HKW2 : Hid (Keeps [] w w2) := HK.out
  clear hm11 hfr11 hk11 hTC hn1 hn2 HN2 HCS HJK HX HRV10 HRW10 HW8 HW9 HF HKW HFL hLP HS10 HK
  obtain ⟨P, hP⟩ : ∃ q : Wh, (⟨0, 1, 5, vs⟩ : Wh) = q := ⟨_, rfl⟩
  obtain ⟨Q, hQ⟩ : ∃ q : Wh, (⟨1, 2, 6, ws⟩ : Wh) = q := ⟨_, rfl⟩
  rw [hP, hQ] at HPQ HLP
  have HTH : Hid (P.th = 1 ∧ Q.th = 2 ∧ P.ws = vs ∧ Q.ws = ws) := by rw [← hP, ← hQ]; exact ⟨rfl, rfl, rfl, rfl⟩
  clear hP hQ
  go_upto_region 14 with fail
  go_wp2_with fail
  go_loopw [24] (fun iv wr => ∃ (i : Nat) (o1 o2 : Bool), i ≤ on + 200 ∧ iv = .int .i64 i ∧ Lp w2 wr z jb cb kb cb2 c P Q gv nv cv gw nw cw on i o1 o2) (fun iv _ => on + 200 - (intOf iv).toNat)
  case atStart => exact ⟨0, false, false, Nat.zero_le _, rfl, HLP.out⟩
  case round =>
    obtain ⟨i, o1, o2, hi, rfl, hlp⟩ := hrel
    have HL0 := Lib.hid hlp
    obtain ⟨k, S, x, y, rx, ry, hk, htc, hrv, hrw, htw, hms, ho1, ho2⟩ := hlp
    have HT := Lib.hid htc
    have HRW := Lib.hid (And.intro hrv hrw)
    have HTW := Lib.hid htw
    have HMS := Lib.hid hms
    have QD1 := htc.one.done
    rw [ho1] at QD1
    have QD2 := htc.two.done
    rw [ho2] at QD2
    have HQD1 := Lib.hid QD1
    have HQD2 := Lib.hid QD2
    have HO := Lib.hid (And.intro ho1 ho2)
    clear htc hrv hrw htw hms QD1 QD2 ho1 ho2 HLP HL0
    have i0 : (0 : Int) ≤ (i : Int) := by omega
    have hwi : IntKind.i64.wrap ((i : Int) + 1) = (i : Int) + 1 := by rw [IntKind.wrap_i64]; omega
    have hwn : IntKind.i64.wrap ((on : Int) + 200) = (on : Int) + 200 := by rw [IntKind.wrap_i64]; omega
    by_cases hlt : i < on + 200
    · have i1 : (i : Int) < (on : Int) + 200 := by omega
      cases o1 with
      | false =>
        as_aux_lemma =>
        go_wp2_with fail
        refine HQD1.out.mono ?_
        rintro e wq ⟨rfl, rfl⟩
        obtain ⟨fb, hfb⟩ : ∃ b : Bool, b = if i < on then lo.getD i false else decide (i % 2 = 0) := ⟨_, rfl⟩
        have HFB := Lib.hid hfb
        have hbt := i64_one i
        clear hfb
        go_upto_region 17 with fail
        go_cut [25] (fun v wx => wr = wx ∧ v = .bool fb)
        case first =>
          by_cases hin : i < on
          · have j1 : (i : Int) < (on : Int) := by omega
            obtain ⟨b, off, pb, rfl, hpb, hcl⟩ := HLO.out.at_ hin
            have hc := hcl wr (HKW2.out.trans HT.out.keep (by simp))
            obtain rfl : pb = fb := by rw [HFB.out, if_pos hin, List.getD_eq_getElem?_getD, hpb]; rfl
            clear hcl hpb
            go_wp2_with fail
            go_meet
            exact ⟨rfl, rfl⟩
          · have j1 : ¬ (i : Int) < (on : Int) := by omega
            have hf2 := HFB.out
            rw [if_neg hin] at hf2
            by_cases hev : i % 2 = 0
            · obtain rfl : fb = true := by rw [hf2]; simp [hev]
              rw [hev] at hbt
              clear hf2
              go_wp2_with fail
              go_meet
              exact ⟨rfl, rfl⟩
            · obtain rfl : fb = false := by rw [hf2]; simp [hev]
              rw [show i % 2 = 1 from by omega] at hbt
              clear hf2
              go_wp2_with fail
              go_meet
              exact ⟨rfl, rfl⟩
        case rest =>
          obtain ⟨rfl, rfl⟩ := hcut
          have hgn := HTW.out.gate_rng
          obtain ⟨⟨gn, gow⟩, hgg⟩ : ∃ g, S.gate = g := ⟨_, rfl⟩
          rw [hgg] at hgn
          obtain ⟨F, hsp⟩ := HT.out.one.sp
          have QG := sp_gate hsp
          have QN := g_now hsp
          rw [hgg] at QN
          have HQG := Lib.hid QG
          have HQN := Lib.hid QN
          have HGG := Lib.hid hgg
          clear QG QN hsp hgg
          cases fb with
          | true =>
            have hturn : Hid (i < on ∨ i % 2 ≠ 1) := by
              have h := HFB.out
              by_cases h1 : i < on
              · exact .inl h1
              · rw [if_neg h1] at h
                have := of_decide_eq_true h.symm
                exact .inr (by omega)
            go_wp2_with fail
            refine HQG.out.mono ?_
            rintro e wq ⟨rfl, rfl⟩
            go_wp2_with fail
            refine HQN.out.mono ?_
            rintro e w12 ⟨rfl, hk12⟩
            have hka : Keeps [] w12 (w12.alloc (.cells #[.int .i64 gn, .int .i64 gow] 48)) := by simp
            have hba := Blk.new w12 48 #[.int .i64 gn, .int .i64 gow]
            go_upto_region 24 with fail
            obtain ⟨w13, hw13⟩ : ∃ q, w12.alloc (.cells #[.int .i64 gn, .int .i64 gow] 48) = q := ⟨_, rfl⟩
            try rw [hw13]
            rw [hw13] at hka hba
            have hk13 : Keeps [] wr w13 := hk12.trans hka (by simp)
            have ht13 := (HT.out.calm hk12).add hka (Nat.le_refl _) hba.tyOf (by decide)
            obtain ⟨zg, hzg⟩ : ∃ q, w12.heap.size = q := ⟨_, rfl⟩
            try rw [hzg]
            rw [hzg] at hba ht13
            have hr13 : Rws w13 P Q gv nv cv gw nw cw zg ⟨gn, gow⟩ := ⟨own_keeps HRW.out.1 hk13 (by simp), own_keeps HRW.out.2 hk13 (by simp), hba⟩
            have HQT := Lib.hid (turn_all ht13 hr13 HTW.out HMS.out 1)
            clear hka hba hk12 hk13 ht13 hr13 hw13 hzg HQG HQN HQD1 HQD2
            go_wp2_with fail
            refine HQT.out.mono ?_
            rintro e w14 ⟨rfl, ht14, hr14, htw14, hm14⟩
            have HQS := Lib.hid (step_x HPQ.out HOK.out.2.2.2 ht14 hr14 htw14 (show (S.begin 1).met.thread = P.th from HTH.out.1.symm) hm14 (by decide) hturn.out (by omega) (show (S.begin 1).gate = ⟨gn, gow⟩ from HGG.out))
            clear ht14 hr14 htw14 hm14 HQT
            go_wp2_with fail
            refine HQS.out.mono ?_
            rintro e w15 ⟨an, S', x', rx', rfl, han, ht15, hr15, hw15, hm15⟩
            rw [HTH.out.1] at han
            have b0 : w15.cell? ⟨zg, 0, none⟩ = some (.int .i64 gn) := (hr15.b.cell 0).trans rfl
            have b1 : w15.cell? ⟨zg, 1, none⟩ = some (.int .i64 gow) := (hr15.b.cell 1).trans rfl
            have HNM := Lib.hid ht15.one.number
            have HT15 := Lib.hid ht15
            have HR15 := Lib.hid hr15
            have HW15 := Lib.hid hw15
            have HM15 := Lib.hid hm15
            have htm : gn.tmod 2 = gn % 2 := Int.tmod_eq_emod_of_nonneg hgn.1
            obtain ⟨nx, hnx⟩ : ∃ q, x'.number = q := ⟨_, rfl⟩
            rw [hnx] at HNM han
            obtain ⟨gm, hgm⟩ : ∃ q, gn % 2 = q := ⟨_, rfl⟩
            rw [hgm] at htm han
            clear ht15 hr15 hw15 hm15 HQS hgm hnx HT HRW HTW HMS hturn HGG
            by_cases h1 : gm = 1
            · subst h1
              by_cases h2 : gow = 1
              · have ha : ¬ an = 2 := fun h => (han.1 h).2.1 h2
                have ha' : (an == 2) = false := by simpa using ha
                have h2' : (gow != 1) = false := by simp [h2]
                clear han
                go_wp2_with fail
                exact ⟨⟨i + 1, _, _, by omega, by simp, ⟨k + 1 + 1, S', x', y, _, _, by omega, HT15.out.sub (by simp), own_base HR15.out.v (fun _ _ => Nat.zero_le _), own_base HR15.out.v2 (fun _ _ => Nat.zero_le _), HW15.out, HM15.out, rfl, rfl⟩⟩, by simp [intOf]; omega⟩
              · have h2' : (gow != 1) = true := by simp [h2]
                by_cases h3 : nx = 0
                · obtain rfl : an = 2 := han.2 ⟨rfl, h2, h3⟩
                  subst h3
                  clear han
                  go_wp2_with fail
                  refine HNM.out.mono ?_
                  rintro e wq ⟨rfl, rfl⟩
                  go_wp2_with fail
                  exact ⟨⟨i + 1, _, _, by omega, by simp, ⟨k + 1 + 1, S', x', y, _, _, by omega, HT15.out.sub (by simp), own_base HR15.out.v (fun _ _ => Nat.zero_le _), own_base HR15.out.v2 (fun _ _ => Nat.zero_le _), HW15.out, HM15.out, rfl, rfl⟩⟩, by simp [intOf]; omega⟩
                · have ha : ¬ an = 2 := fun h => h3 (han.1 h).2.2
                  have ha' : (an == 2) = false := by simpa using ha
                  have h3' : (nx == 0) = false := by simpa using h3
                  clear han
                  go_wp2_with fail
                  refine HNM.out.mono ?_
                  rintro e wq ⟨rfl, rfl⟩
                  go_wp2_with fail
                  exact ⟨⟨i + 1, _, _, by omega, by simp, ⟨k + 1 + 1, S', x', y, _, _, by omega, HT15.out.sub (by simp), own_base HR15.out.v (fun _ _ => Nat.zero_le _), own_base HR15.out.v2 (fun _ _ => Nat.zero_le _), HW15.out, HM15.out, rfl, rfl⟩⟩, by simp [intOf]; omega⟩
            · have ha : ¬ an = 2 := fun h => h1 (han.1 h).1
              have ha' : (an == 2) = false := by simpa using ha
              have h1' : (gm == 1) = false := by simpa using h1
              clear han
              go_wp2_with fail
              exact ⟨⟨i + 1, _, _, by omega, by simp, ⟨k + 1 + 1, S', x', y, _, _, by omega, HT15.out.sub (by simp), own_base HR15.out.v (fun _ _ => Nat.zero_le _), own_base HR15.out.v2 (fun _ _ => Nat.zero_le _), HW15.out, HM15.out, rfl, rfl⟩⟩, by simp [intOf]; omega⟩
          | false =>
            have hturn : Hid (i < on ∨ i % 2 ≠ 0) := by
              have h := HFB.out
              by_cases h1 : i < on
              · exact .inl h1
              · rw [if_neg h1] at h
                have := of_decide_eq_false h.symm
                exact .inr (by omega)
            go_wp2_with fail
            refine HQG.out.mono ?_
            rintro e wq ⟨rfl, rfl⟩
            go_wp2_with fail
            refine HQN.out.mono ?_
            rintro e w12 ⟨rfl, hk12⟩
            have hka : Keeps [] w12 (w12.alloc (.cells #[.int .i64 gn, .int .i64 gow] 48)) := by simp
            have hba := Blk.new w12 48 #[.int .i64 gn, .int .i64 gow]
            go_upto_region 24 with fail
            obtain ⟨w13, hw13⟩ : ∃ q, w12.alloc (.cells #[.int .i64 gn, .int .i64 gow] 48) = q := ⟨_, rfl⟩
            try rw [hw13]
            rw [hw13] at hka hba
            have hk13 : Keeps [] wr w13 := hk12.trans hka (by simp)
            have ht13 := (HT.out.calm hk12).add hka (Nat.le_refl _) hba.tyOf (by decide)
            obtain ⟨zg, hzg⟩ : ∃ q, w12.heap.size = q := ⟨_, rfl⟩
            try rw [hzg]
            rw [hzg] at hba ht13
            have hr13 : Rws w13 P Q gv nv cv gw nw cw zg ⟨gn, gow⟩ := ⟨own_keeps HRW.out.1 hk13 (by simp), own_keeps HRW.out.2 hk13 (by simp), hba⟩
            have HQT := Lib.hid (turn_all ht13 hr13 HTW.out HMS.out 2)
            clear hka hba hk12 hk13 ht13 hr13 hw13 hzg HQG HQN HQD1 HQD2
            go_wp2_with fail
            refine HQT.out.mono ?_
            rintro e w14 ⟨rfl, ht14, hr14, htw14, hm14⟩
            have HQS := Lib.hid (step_y HPQ.out HOK.out.2.2.2 ht14 hr14 htw14 (show (S.begin 2).met.thread = Q.th from HTH.out.2.1.symm) hm14 hturn.out (by omega) (show (S.begin 2).gate = ⟨gn, gow⟩ from HGG.out))
            clear ht14 hr14 htw14 hm14 HQT
            go_wp2_with fail
            refine HQS.out.mono ?_
            rintro e w15 ⟨an, S', x', rx', rfl, han, ht15, hr15, hw15, hm15⟩
            rw [HTH.out.2.1] at han
            have b0 : w15.cell? ⟨zg, 0, none⟩ = some (.int .i64 gn) := (hr15.b.cell 0).trans rfl
            have b1 : w15.cell? ⟨zg, 1, none⟩ = some (.int .i64 gow) := (hr15.b.cell 1).trans rfl
            have HNM := Lib.hid ht15.two.number
            have HT15 := Lib.hid ht15
            have HR15 := Lib.hid hr15
            have HW15 := Lib.hid hw15
            have HM15 := Lib.hid hm15
            have htm : gn.tmod 2 = gn % 2 := Int.tmod_eq_emod_of_nonneg hgn.1
            obtain ⟨nx, hnx⟩ : ∃ q, x'.number = q := ⟨_, rfl⟩
            rw [hnx] at HNM han
            obtain ⟨gm, hgm⟩ : ∃ q, gn % 2 = q := ⟨_, rfl⟩
            rw [hgm] at htm han
            clear ht15 hr15 hw15 hm15 HQS hgm hnx HT HRW HTW HMS hturn HGG
            by_cases h1 : gm = 1
            · subst h1
              by_cases h2 : gow = 2
              · have ha : ¬ an = 2 := fun h => (han.1 h).2.1 h2
                have ha' : (an == 2) = false := by simpa using ha
                have h2' : (gow != 2) = false := by simp [h2]
                clear han
                go_wp2_with fail
                exact ⟨⟨i + 1, _, _, by omega, by simp, ⟨k + 1 + 1, S', x, x', _, _, by omega, HT15.out.sub (by simp), own_base HR15.out.v (fun _ _ => Nat.zero_le _), own_base HR15.out.v2 (fun _ _ => Nat.zero_le _), HW15.out, HM15.out, rfl, rfl⟩⟩, by simp [intOf]; omega⟩
              · have h2' : (gow != 2) = true := by simp [h2]
                by_cases h3 : nx = 0
                · obtain rfl : an = 2 := han.2 ⟨rfl, h2, h3⟩
                  subst h3
                  clear han
                  go_wp2_with fail
                  refine HNM.out.mono ?_
                  rintro e wq ⟨rfl, rfl⟩
                  go_wp2_with fail
                  exact ⟨⟨i + 1, _, _, by omega, by simp, ⟨k + 1 + 1, S', x, x', _, _, by omega, HT15.out.sub (by simp), own_base HR15.out.v (fun _ _ => Nat.zero_le _), own_base HR15.out.v2 (fun _ _ => Nat.zero_le _), HW15.out, HM15.out, rfl, rfl⟩⟩, by simp [intOf]; omega⟩
                · have ha : ¬ an = 2 := fun h => h3 (han.1 h).2.2
                  have ha' : (an == 2) = false := by simpa using ha
                  have h3' : (nx == 0) = false := by simpa using h3
                  clear han
                  go_wp2_with fail
                  refine HNM.out.mono ?_
                  rintro e wq ⟨rfl, rfl⟩
                  go_wp2_with fail
                  exact ⟨⟨i + 1, _, _, by omega, by simp, ⟨k + 1 + 1, S', x, x', _, _, by omega, HT15.out.sub (by simp), own_base HR15.out.v (fun _ _ => Nat.zero_le _), own_base HR15.out.v2 (fun _ _ => Nat.zero_le _), HW15.out, HM15.out, rfl, rfl⟩⟩, by simp [intOf]; omega⟩
            · have ha : ¬ an = 2 := fun h => h1 (han.1 h).1
              have ha' : (an == 2) = false := by simpa using ha
              have h1' : (gm == 1) = false := by simpa using h1
              clear han
              go_wp2_with fail
              exact ⟨⟨i + 1, _, _, by omega, by simp, ⟨k + 1 + 1, S', x, x', _, _, by omega, HT15.out.sub (by simp), own_base HR15.out.v (fun _ _ => Nat.zero_le _), own_base HR15.out.v2 (fun _ _ => Nat.zero_le _), HW15.out, HM15.out, rfl, rfl⟩⟩, by simp [intOf]; omega⟩
      | true =>
        cases o2 with
        | false =>
          as_aux_lemma =>
          go_wp2_with fail
          refine HQD1.out.mono ?_
          rintro e wq ⟨rfl, rfl⟩
          go_wp2_with fail
          refine HQD2.out.mono ?_
          rintro e wq ⟨rfl, rfl⟩
          obtain ⟨fb, hfb⟩ : ∃ b : Bool, b = if i < on then lo.getD i false else decide (i % 2 = 0) := ⟨_, rfl⟩
          have HFB := Lib.hid hfb
          have hbt := i64_one i
          clear hfb
          go_upto_region 17 with fail
          go_cut [25] (fun v wx => wr = wx ∧ v = .bool fb)
          case first =>
            by_cases hin : i < on
            · have j1 : (i : Int) < (on : Int) := by omega
              obtain ⟨b, off, pb, rfl, hpb, hcl⟩ := HLO.out.at_ hin
              have hc := hcl wr (HKW2.out.trans HT.out.keep (by simp))
              obtain rfl : pb = fb := by rw [HFB.out, if_pos hin, List.getD_eq_getElem?_getD, hpb]; rfl
              clear hcl hpb
              go_wp2_with fail
              go_meet
              exact ⟨rfl, rfl⟩
            · have j1 : ¬ (i : Int) < (on : Int) := by omega
              have hf2 := HFB.out
              rw [if_neg hin] at hf2
              by_cases hev : i % 2 = 0
              · obtain rfl : fb = true := by rw [hf2]; simp [hev]
                rw [hev] at hbt
                clear hf2
                go_wp2_with fail
                go_meet
                exact ⟨rfl, rfl⟩
              · obtain rfl : fb = false := by rw [hf2]; simp [hev]
                rw [show i % 2 = 1 from by omega] at hbt
                clear hf2
                go_wp2_with fail
                go_meet
                exact ⟨rfl, rfl⟩
          case rest =>
            obtain ⟨rfl, rfl⟩ := hcut
            have hgn := HTW.out.gate_rng
            obtain ⟨⟨gn, gow⟩, hgg⟩ : ∃ g, S.gate = g := ⟨_, rfl⟩
            rw [hgg] at hgn
            obtain ⟨F, hsp⟩ := HT.out.one.sp
            have QG := sp_gate hsp
            have QN := g_now hsp
            rw [hgg] at QN
            have HQG := Lib.hid QG
            have HQN := Lib.hid QN
            have HGG := Lib.hid hgg
            clear QG QN hsp hgg
            cases fb with
            | true =>
              have hturn : Hid (i < on ∨ i % 2 ≠ 1) := by
                have h := HFB.out
                by_cases h1 : i < on
                · exact .inl h1
                · rw [if_neg h1] at h
                  have := of_decide_eq_true h.symm
                  exact .inr (by omega)
              go_wp2_with fail
              refine HQG.out.mono ?_
              rintro e wq ⟨rfl, rfl⟩
              go_wp2_with fail
              refine HQN.out.mono ?_
              rintro e w12 ⟨rfl, hk12⟩
              have hka : Keeps [] w12 (w12.alloc (.cells #[.int .i64 gn, .int .i64 gow] 48)) := by simp
              have hba := Blk.new w12 48 #[.int .i64 gn, .int .i64 gow]
              go_upto_region 24 with fail
              obtain ⟨w13, hw13⟩ : ∃ q, w12.alloc (.cells #[.int .i64 gn, .int .i64 gow] 48) = q := ⟨_, rfl⟩
              try rw [hw13]
              rw [hw13] at hka hba
              have hk13 : Keeps [] wr w13 := hk12.trans hka (by simp)
              have ht13 := (HT.out.calm hk12).add hka (Nat.le_refl _) hba.tyOf (by decide)
              obtain ⟨zg, hzg⟩ : ∃ q, w12.heap.size = q := ⟨_, rfl⟩
              try rw [hzg]
              rw [hzg] at hba ht13
              have hr13 : Rws w13 P Q gv nv cv gw nw cw zg ⟨gn, gow⟩ := ⟨own_keeps HRW.out.1 hk13 (by simp), own_keeps HRW.out.2 hk13 (by simp), hba⟩
              have HQT := Lib.hid (turn_all ht13 hr13 HTW.out HMS.out 1)
              clear hka hba hk12 hk13 ht13 hr13 hw13 hzg HQG HQN HQD1 HQD2
              go_wp2_with fail
              refine HQT.out.mono ?_
              rintro e w14 ⟨rfl, ht14, hr14, htw14, hm14⟩
              have HQS := Lib.hid (step_x HPQ.out HOK.out.2.2.2 ht14 hr14 htw14 (show (S.begin 1).met.thread = P.th from HTH.out.1.symm) hm14 (by decide) hturn.out (by omega) (show (S.begin 1).gate = ⟨gn, gow⟩ from HGG.out))
              clear ht14 hr14 htw14 hm14 HQT
              go_wp2_with fail
              refine HQS.out.mono ?_
              rintro e w15 ⟨an, S', x', rx', rfl, han, ht15, hr15, hw15, hm15⟩
              rw [HTH.out.1] at han
              have b0 : w15.cell? ⟨zg, 0, none⟩ = some (.int .i64 gn) := (hr15.b.cell 0).trans rfl
              have b1 : w15.cell? ⟨zg, 1, none⟩ = some (.int .i64 gow) := (hr15.b.cell 1).trans rfl
              have HNM := Lib.hid ht15.one.number
              have HT15 := Lib.hid ht15
              have HR15 := Lib.hid hr15
              have HW15 := Lib.hid hw15
              have HM15 := Lib.hid hm15
              have htm : gn.tmod 2 = gn % 2 := Int.tmod_eq_emod_of_nonneg hgn.1
              obtain ⟨nx, hnx⟩ : ∃ q, x'.number = q := ⟨_, rfl⟩
              rw [hnx] at HNM han
              obtain ⟨gm, hgm⟩ : ∃ q, gn % 2 = q := ⟨_, rfl⟩
              rw [hgm] at htm han
              clear ht15 hr15 hw15 hm15 HQS hgm hnx HT HRW HTW HMS hturn HGG
              by_cases h1 : gm = 1
              · subst h1
                by_cases h2 : gow = 1
                · have ha : ¬ an = 2 := fun h => (han.1 h).2.1 h2
                  have ha' : (an == 2) = false := by simpa using ha
                  have h2' : (gow != 1) = false := by simp [h2]
                  clear han
                  go_wp2_with fail
                  exact ⟨⟨i + 1, _, _, by omega, by simp, ⟨k + 1 + 1, S', x', y, _, _, by omega, HT15.out.sub (by simp), own_base HR15.out.v (fun _ _ => Nat.zero_le _), own_base HR15.out.v2 (fun _ _ => Nat.zero_le _), HW15.out, HM15.out, rfl, rfl⟩⟩, by simp [intOf]; omega⟩
                · have h2' : (gow != 1) = true := by simp [h2]
                  by_cases h3 : nx = 0
                  · obtain rfl : an = 2 := han.2 ⟨rfl, h2, h3⟩
                    subst h3
                    clear han
                    go_wp2_with fail
                    refine HNM.out.mono ?_
                    rintro e wq ⟨rfl, rfl⟩
                    go_wp2_with fail
                    exact ⟨⟨i + 1, _, _, by omega, by simp, ⟨k + 1 + 1, S', x', y, _, _, by omega, HT15.out.sub (by simp), own_base HR15.out.v (fun _ _ => Nat.zero_le _), own_base HR15.out.v2 (fun _ _ => Nat.zero_le _), HW15.out, HM15.out, rfl, rfl⟩⟩, by simp [intOf]; omega⟩
                  · have ha : ¬ an = 2 := fun h => h3 (han.1 h).2.2
                    have ha' : (an == 2) = false := by simpa using ha
                    have h3' : (nx == 0) = false := by simpa using h3
                    clear han
                    go_wp2_with fail
                    refine HNM.out.mono ?_
                    rintro e wq ⟨rfl, rfl⟩
                    go_wp2_with fail
                    exact ⟨⟨i + 1, _, _, by omega, by simp, ⟨k + 1 + 1, S', x', y, _, _, by omega, HT15.out.sub (by simp), own_base HR15.out.v (fun _ _ => Nat.zero_le _), own_base HR15.out.v2 (fun _ _ => Nat.zero_le _), HW15.out, HM15.out, rfl, rfl⟩⟩, by simp [intOf]; omega⟩
              · have ha : ¬ an = 2 := fun h => h1 (han.1 h).1
                have ha' : (an == 2) = false := by simpa using ha
                have h1' : (gm == 1) = false := by simpa using h1
                clear han
                go_wp2_with fail
                exact ⟨⟨i + 1, _, _, by omega, by simp, ⟨k + 1 + 1, S', x', y, _, _, by omega, HT15.out.sub (by simp), own_base HR15.out.v (fun _ _ => Nat.zero_le _), own_base HR15.out.v2 (fun _ _ => Nat.zero_le _), HW15.out, HM15.out, rfl, rfl⟩⟩, by simp [intOf]; omega⟩
            | false =>
              have hturn : Hid (i < on ∨ i % 2 ≠ 0) := by
                have h := HFB.out
                by_cases h1 : i < on
                · exact .inl h1
                · rw [if_neg h1] at h
                  have := of_decide_eq_false h.symm
                  exact .inr (by omega)
              go_wp2_with fail
              refine HQG.out.mono ?_
              rintro e wq ⟨rfl, rfl⟩
              go_wp2_with fail
              refine HQN.out.mono ?_
              rintro e w12 ⟨rfl, hk12⟩
              have hka : Keeps [] w12 (w12.alloc (.cells #[.int .i64 gn, .int .i64 gow] 48)) := by simp
              have hba := Blk.new w12 48 #[.int .i64 gn, .int .i64 gow]
              go_upto_region 24 with fail
              obtain ⟨w13, hw13⟩ : ∃ q, w12.alloc (.cells #[.int .i64 gn, .int .i64 gow] 48) = q := ⟨_, rfl⟩
              try rw [hw13]
              rw [hw13] at hka hba
              have hk13 : Keeps [] wr w13 := hk12.trans hka (by simp)
              have ht13 := (HT.out.calm hk12).add hka (Nat.le_refl _) hba.tyOf (by decide)
              obtain ⟨zg, hzg⟩ : ∃ q, w12.heap.size = q := ⟨_, rfl⟩
              try rw [hzg]
              rw [hzg] at hba ht13
              have hr13 : Rws w13 P Q gv nv cv gw nw cw zg ⟨gn, gow⟩ := ⟨own_keeps HRW.out.1 hk13 (by simp), own_keeps HRW.out.2 hk13 (by simp), hba⟩
              have HQT := Lib.hid (turn_all ht13 hr13 HTW.out HMS.out 2)
              clear hka hba hk12 hk13 ht13 hr13 hw13 hzg HQG HQN HQD1 HQD2
              go_wp2_with fail
              refine HQT.out.mono ?_
              rintro e w14 ⟨rfl, ht14, hr14, htw14, hm14⟩
              have HQS := Lib.hid (step_y HPQ.out HOK.out.2.2.2 ht14 hr14 htw14 (show (S.begin 2).met.thread = Q.th from HTH.out.2.1.symm) hm14 hturn.out (by omega) (show (S.begin 2).gate = ⟨gn, gow⟩ from HGG.out))
              clear ht14 hr14 htw14 hm14 HQT
              go_wp2_with fail
              refine HQS.out.mono ?_
              rintro e w15 ⟨an, S', x', rx', rfl, han, ht15, hr15, hw15, hm15⟩
              rw [HTH.out.2.1] at han
              have b0 : w15.cell? ⟨zg, 0, none⟩ = some (.int .i64 gn) := (hr15.b.cell 0).trans rfl
              have b1 : w15.cell? ⟨zg, 1, none⟩ = some (.int .i64 gow) := (hr15.b.cell 1).trans rfl
              have HNM := Lib.hid ht15.two.number
              have HT15 := Lib.hid ht15
              have HR15 := Lib.hid hr15
              have HW15 := Lib.hid hw15
              have HM15 := Lib.hid hm15
              have htm : gn.tmod 2 = gn % 2 := Int.tmod_eq_emod_of_nonneg hgn.1
              obtain ⟨nx, hnx⟩ : ∃ q, x'.number = q := ⟨_, rfl⟩
              rw [hnx] at HNM han
              obtain ⟨gm, hgm⟩ : ∃ q, gn % 2 = q := ⟨_, rfl⟩
              rw [hgm] at htm han
              clear ht15 hr15 hw15 hm15 HQS hgm hnx HT HRW HTW HMS hturn HGG
              by_cases h1 : gm = 1
              · subst h1
                by_cases h2 : gow = 2
                · have ha : ¬ an = 2 := fun h => (han.1 h).2.1 h2
                  have ha' : (an == 2) = false := by simpa using ha
                  have h2' : (gow != 2) = false := by simp [h2]
                  clear han
                  go_wp2_with fail
                  exact ⟨⟨i + 1, _, _, by omega, by simp, ⟨k + 1 + 1, S', x, x', _, _, by omega, HT15.out.sub (by simp), own_base HR15.out.v (fun _ _ => Nat.zero_le _), own_base HR15.out.v2 (fun _ _ => Nat.zero_le _), HW15.out, HM15.out, rfl, rfl⟩⟩, by simp [intOf]; omega⟩
                · have h2' : (gow != 2) = true := by simp [h2]
                  by_cases h3 : nx = 0
                  · obtain rfl : an = 2 := han.2 ⟨rfl, h2, h3⟩
                    subst h3
                    clear han
                    go_wp2_with fail
                    refine HNM.out.mono ?_
                    rintro e wq ⟨rfl, rfl⟩
                    go_wp2_with fail
                    exact ⟨⟨i + 1, _, _, by omega, by simp, ⟨k + 1 + 1, S', x, x', _, _, by omega, HT15.out.sub (by simp), own_base HR15.out.v (fun _ _ => Nat.zero_le _), own_base HR15.out.v2 (fun _ _ => Nat.zero_le _), HW15.out, HM15.out, rfl, rfl⟩⟩, by simp [intOf]; omega⟩
                  · have ha : ¬ an = 2 := fun h => h3 (han.1 h).2.2
                    have ha' : (an == 2) = false := by simpa using ha
                    have h3' : (nx == 0) = false := by simpa using h3
                    clear han
                    go_wp2_with fail
                    refine HNM.out.mono ?_
                    rintro e wq ⟨rfl, rfl⟩
                    go_wp2_with fail
                    exact ⟨⟨i + 1, _, _, by omega, by simp, ⟨k + 1 + 1, S', x, x', _, _, by omega, HT15.out.sub (by simp), own_base HR15.out.v (fun _ _ => Nat.zero_le _), own_base HR15.out.v2 (fun _ _ => Nat.zero_le _), HW15.out, HM15.out, rfl, rfl⟩⟩, by simp [intOf]; omega⟩
              · have ha : ¬ an = 2 := fun h => h1 (han.1 h).1
                have ha' : (an == 2) = false := by simpa using ha
                have h1' : (gm == 1) = false := by simpa using h1
                clear han
                go_wp2_with fail
                exact ⟨⟨i + 1, _, _, by omega, by simp, ⟨k + 1 + 1, S', x, x', _, _, by omega, HT15.out.sub (by simp), own_base HR15.out.v (fun _ _ => Nat.zero_le _), own_base HR15.out.v2 (fun _ _ => Nat.zero_le _), HW15.out, HM15.out, rfl, rfl⟩⟩, by simp [intOf]; omega⟩
        | true =>
          as_aux_lemma =>
          have hov : x.st = .over ∧ y.st = .over := ⟨of_decide_eq_true HO.out.1, of_decide_eq_true HO.out.2⟩
          go_wp2_with fail
          refine HQD1.out.mono ?_
          rintro e wq ⟨rfl, rfl⟩
          go_wp2_with fail
          refine HQD2.out.mono ?_
          rintro e wq ⟨rfl, rfl⟩
          obtain ⟨hg4, hex, hey, hnum⟩ := HTW.out.ended HPQ.out hov.1 hov.2
          have QD1 := HT.out.one.done
          rw [show x.done = true from decide_eq_true hov.1] at QD1
          have QD2 := HT.out.two.done
          rw [show y.done = true from decide_eq_true hov.2] at QD2
          have QE1 := HT.out.one.end_
          rw [show x.end_ = 0 from by unfold Cm.end_; rw [if_pos hov.1, hex]] at QE1
          have QE2 := HT.out.two.end_
          rw [show y.end_ = 0 from by unfold Cm.end_; rw [if_pos hov.2, hey]] at QE2
          have QV := HT.out.view
          rw [hg4, HTW.out.z.C] at QV
          have HQ1 := Lib.hid QD1
          have HQ2 := Lib.hid QD2
          have HQ3 := Lib.hid QE1
          have HQ4 := Lib.hid QE2
          have HQ5 := Lib.hid QV
          have HNU := Lib.hid hnum
          clear HQD1 HQD2 HMS HO hov hg4 hex hey hnum QD1 QD2 QE1 QE2 QV
          have hfd1 : ∀ (x0 x1 x2 x3 : Value) (w : World), (Instr.field 58 (.agg #[x0, x1, x2, x3]) 1).run Tryz.prog w = .ok (.agg #[x1, x2]) w := fun x0 x1 x2 x3 w => by kernel_rfl
          have hfd0 : ∀ (x0 x1 x2 x3 : Value) (w : World), (Instr.field 58 (.agg #[x0, x1, x2, x3]) 0).run Tryz.prog w = .ok x0 w := fun x0 x1 x2 x3 w => by kernel_rfl
          have q1 : ∀ w, (Op.equalIn 10000 48 (.agg #[.int .i64 4, .int .i64 0]) (.agg #[.int .i64 4, .int .i64 0])).run Tryz.prog w = .ok true w := fun w => by have := RowG.eq_run w ⟨4, 0⟩ ⟨4, 0⟩; rw [decide_eq_true rfl] at this; exact this
          go_wp2_with fail
          refine HQ1.out.mono ?_
          rintro e wq ⟨rfl, rfl⟩
          go_wp2_with fail
          refine HQ2.out.mono ?_
          rintro e wq ⟨rfl, rfl⟩
          go_wp2_with fail
          refine HQ3.out.mono ?_
          rintro e wq ⟨rfl, rfl⟩
          go_wp2_with fail
          refine HQ4.out.mono ?_
          rintro e wq ⟨rfl, rfl⟩
          go_wp2_with fail
          refine HQ5.out.mono ?_
          rintro e w20 ⟨a1, c1, a2, c2, rfl, _, _, _, _, hk20⟩
          have HT20 := Lib.hid (HT.out.calm hk20)
          have HR20 := Lib.hid (And.intro (own_keeps HRW.out.1 hk20 (by simp)) (own_keeps HRW.out.2 hk20 (by simp)))
          clear HQ1 HQ2 HQ3 HQ4 HQ5 hk20 HT HRW
          go_upto_region 31 with fail
          clear q1 hfd1
          have hka : Keeps [] w20 (w20.alloc (.cells #[.int .i64 0, .int .i64 0, .int .i64 0, .int .i64 0, .int .i64 0, .int .i64 0, .int .i64 0, .int .i64 0, .int .i64 0, .int .i64 0, .int .i64 0, .int .i64 0, .int .i64 0, .int .i64 0, .int .i64 0, .int .i64 0, .int .i64 0, .int .i64 0, .int .i64 0, .int .i64 0, .int .i64 0, .int .i64 0, .int .i64 0, .int .i64 0, .int .i64 0, .int .i64 0, .int .i64 0, .int .i64 0, .int .i64 0, .int .i64 0, .int .i64 0, .int .i64 0, .int .i64 0, .int .i64 0, .int .i64 0, .int .i64 0, .int .i64 0, .int .i64 0, .int .i64 0, .int .i64 0, .int .i64 0, .int .i64 0, .int .i64 0, .int .i64 0, .int .i64 0, .int .i64 0, .int .i64 0, .int .i64 0, .int .i64 0, .int .i64 0, .int .i64 0, .int .i64 0, .int .i64 0, .int .i64 0, .int .i64 0, .int .i64 0, .int .i64 0, .int .i64 0, .int .i64 0, .int .i64 0, .int .i64 0, .int .i64 0, .int .i64 0, .int .i64 0] 60)) := by simp
          have hba : Blk (w20.alloc (.cells #[.int .i64 0, .int .i64 0, .int .i64 0, .int .i64 0, .int .i64 0, .int .i64 0, .int .i64 0, .int .i64 0, .int .i64 0, .int .i64 0, .int .i64 0, .int .i64 0, .int .i64 0, .int .i64 0, .int .i64 0, .int .i64 0, .int .i64 0, .int .i64 0, .int .i64 0, .int .i64 0, .int .i64 0, .int .i64 0, .int .i64 0, .int .i64 0, .int .i64 0, .int .i64 0, .int .i64 0, .int .i64 0, .int .i64 0, .int .i64 0, .int .i64 0, .int .i64 0, .int .i64 0, .int .i64 0, .int .i64 0, .int .i64 0, .int .i64 0, .int .i64 0, .int .i64 0, .int .i64 0, .int .i64 0, .int .i64 0, .int .i64 0, .int .i64 0, .int .i64 0, .int .i64 0, .int .i64 0, .int .i64 0, .int .i64 0, .int .i64 0, .int .i64 0, .int .i64 0, .int .i64 0, .int .i64 0, .int .i64 0, .int .i64 0, .int .i64 0, .int .i64 0, .int .i64 0, .int .i64 0, .int .i64 0, .int .i64 0, .int .i64 0, .int .i64 0] 60)) w20.heap.size 60 (want Zc) := Blk.new _ _ _
          obtain ⟨w21, hw21⟩ : ∃ q, w20.alloc (.cells #[.int .i64 0, .int .i64 0, .int .i64 0, .int .i64 0, .int .i64 0, .int .i64 0, .int .i64 0, .int .i64 0, .int .i64 0, .int .i64 0, .int .i64 0, .int .i64 0, .int .i64 0, .int .i64 0, .int .i64 0, .int .i64 0, .int .i64 0, .int .i64 0, .int .i64 0, .int .i64 0, .int .i64 0, .int .i64 0, .int .i64 0, .int .i64 0, .int .i64 0, .int .i64 0, .int .i64 0, .int .i64 0, .int .i64 0, .int .i64 0, .int .i64 0, .int .i64 0, .int .i64 0, .int .i64 0, .int .i64 0, .int .i64 0, .int .i64 0, .int .i64 0, .int .i64 0, .int .i64 0, .int .i64 0, .int .i64 0, .int .i64 0, .int .i64 0, .int .i64 0, .int .i64 0, .int .i64 0, .int .i64 0, .int .i64 0, .int .i64 0, .int .i64 0, .int .i64 0, .int .i64 0, .int .i64 0, .int .i64 0, .int .i64 0, .int .i64 0, .int .i64 0, .int .i64 0, .int .i64 0, .int .i64 0, .int .i64 0, .int .i64 0, .int .i64 0] 60) = q := ⟨_, rfl⟩
          try rw [hw21]
          rw [hw21] at hka hba
          obtain ⟨wa, hwa⟩ : ∃ q, w20.heap.size = q := ⟨_, rfl⟩
          try rw [hwa]
          rw [hwa] at hba
          have HBA := Lib.hid (And.intro hba (And.intro hka (Nat.le_of_eq hwa)))
          have QN1 := (HT20.out.calm hka).one.number
          have QN2 := (HT20.out.calm hka).two.number
          clear hka hba hw21 hwa
          rcases HNU.out with ⟨n1, n2, hC, hL⟩ | ⟨n1, n2, hC, hL⟩
          · as_aux_lemma =>
              rw [n1] at QN1
              rw [n2] at QN2
              have HQ1 := Lib.hid QN1
              have HQ2 := Lib.hid QN2
              have hC9 : Hid (S.cells = puts (puts Zc vs) ws) := by unfold Hid; rw [hC, HTH.out.2.2.1, HTH.out.2.2.2]
              have HL9 : Hid (sth S = List.replicate vs.length 1 ++ List.replicate ws.length 2) := by unfold Hid; rw [hL, HTH.out.2.2.1, HTH.out.2.2.2, HTH.out.1, HTH.out.2.1]
              have HR21 : Hid (w20.ownsRow 0 62 2 (.slice (some ⟨gv, 0, none⟩) nv cv) nv (prCells vs) ∧ w20.ownsRow 0 62 2 (.slice (some ⟨gw, 0, none⟩) nw cw) nw (prCells ws)) := by
                have h := HR20.out
                rw [HTH.out.2.2.1, HTH.out.2.2.2] at h
                exact h
              clear QN1 QN2 n1 n2 hC hL HR20 HNU
              go_wp2_with fail
              refine HQ1.out.mono ?_
              rintro e wq ⟨rfl, rfl⟩
              go_wp2_with fail
              refine HQ2.out.mono ?_
              rintro e wq ⟨rfl, rfl⟩
              clear HQ1 HQ2
              go_wp2_with fail
              go_loopw [33] (fun iv wx => ∃ j : Nat, j ≤ nv ∧ iv = .int .i64 j ∧ Blk wx wa 60 (want (puts (Zc) (vs.take j))) ∧ Keeps [] w20 wx) (fun iv _ => nv - (intOf iv).toNat)
              case atStart => exact ⟨0, Nat.zero_le _, rfl, HBA.out.1, HBA.out.2.1⟩
              case round =>
                obtain ⟨j, hj, rfl, hb, hkr⟩ := hrel
                have HB := Lib.hid (And.intro hb hkr)
                clear hb hkr
                have j0 : (0 : Int) ≤ (j : Int) := by omega
                have hm16 : nv ≤ 16 := by have := HN12.out; omega
                have hwj : IntKind.i64.wrap ((j : Int) + 1) = (j : Int) + 1 := by rw [IntKind.wrap_i64]; omega
                by_cases hlt : j < nv
                · as_aux_lemma =>
                  have j1 : (j : Int) < (nv : Int) := by omega
                  obtain ⟨p, hp⟩ : ∃ p, vs[j]? = some p := ⟨_, List.getElem?_eq_getElem (by have := HLV.out.1; omega)⟩
                  have hrg := HOKW.out.1.rng p (List.mem_of_getElem? hp)
                  obtain ⟨pc, hpc⟩ : ∃ pc : Nat, p.cell = pc := ⟨p.cell.toNat, by omega⟩
                  obtain ⟨d0, d1⟩ := prw (own_base (own_keeps HR21.out.1 HB.out.2 (by simp)) (fun _ _ => Nat.zero_le _)) hp HLV.out.1
                  rw [hpc] at d0 hrg
                  have p0 : (0 : Int) ≤ (pc : Int) := hrg.1
                  have p1 : (pc : Int) < 64 := hrg.2
                  have hsn := puts_snoc hp (Zc)
                  rw [hpc, Int.toNat_natCast] at hsn
                  have hlen : (puts (Zc) (vs.take j)).length = 64 := by simp only [puts_len]; rfl
                  obtain ⟨u, hu⟩ : ∃ u, (puts (Zc) (vs.take j))[pc]? = some u := ⟨_, List.getElem?_eq_getElem (by omega)⟩
                  have hc := (HB.out.1.cell pc).trans (want_get hu)
                  have hfz := HB.out.1.frozen pc
                  have FIN : Hid (∀ N, Blk ((wr.drewN N).setCell ⟨wa, pc, none⟩ (.int .i64 p.x)) wa 60 (want (puts (Zc) (vs.take (j + 1)))) ∧ Keeps [] w20 ((wr.drewN N).setCell ⟨wa, pc, none⟩ (.int .i64 p.x))) := fun N => by
                    have hkd : Keeps [] wr (wr.drewN N) := (Keeps.refl [] _).drewN _
                    rw [hsn, ← want_set _ (by rw [hlen]; omega) p.x]
                    exact ⟨(HB.out.1.keeps hkd (by simp)).set_ pc _, (HB.out.2.trans hkd (by simp)).setCell (.inr HBA.out.2.2) _⟩
                  clear hp hrg hpc hsn hlen hu
                  go_wp2_with fail
                  go_region
                  all_goals
                    go_wp2_with fail
                    exact ⟨⟨j + 1, by omega, by simp, FIN.out _⟩, by simp [intOf]; omega⟩
                · obtain rfl : nv = j := by omega
                  have HB33 : Hid (Blk wr wa 60 (want (puts (Zc) vs)) ∧ Keeps [] w20 wr) := by
                    have := HB.out
                    rw [List.take_of_length_le (by rw [HLV.out.1]; exact Nat.le_refl _)] at this
                    exact this
                  clear HB hlt hj j0 hwj hm16
                  go_wp2_with fail
                  go_loopw [34] (fun iv wx => ∃ j : Nat, j ≤ nw ∧ iv = .int .i64 j ∧ Blk wx wa 60 (want (puts (puts Zc vs) (ws.take j))) ∧ Keeps [] w20 wx) (fun iv _ => nw - (intOf iv).toNat)
                  case atStart => exact ⟨0, Nat.zero_le _, rfl, HB33.out⟩
                  case round =>
                    obtain ⟨j, hj, rfl, hb, hkr⟩ := hrel
                    have HB := Lib.hid (And.intro hb hkr)
                    clear hb hkr
                    have j0 : (0 : Int) ≤ (j : Int) := by omega
                    have hm16 : nw ≤ 16 := by have := HN12.out; omega
                    have hwj : IntKind.i64.wrap ((j : Int) + 1) = (j : Int) + 1 := by rw [IntKind.wrap_i64]; omega
                    by_cases hlt : j < nw
                    · as_aux_lemma =>
                      have j1 : (j : Int) < (nw : Int) := by omega
                      obtain ⟨p, hp⟩ : ∃ p, ws[j]? = some p := ⟨_, List.getElem?_eq_getElem (by have := HLV.out.2; omega)⟩
                      have hrg := HOKW.out.2.rng p (List.mem_of_getElem? hp)
                      obtain ⟨pc, hpc⟩ : ∃ pc : Nat, p.cell = pc := ⟨p.cell.toNat, by omega⟩
                      obtain ⟨d0, d1⟩ := prw (own_base (own_keeps HR21.out.2 HB.out.2 (by simp)) (fun _ _ => Nat.zero_le _)) hp HLV.out.2
                      rw [hpc] at d0 hrg
                      have p0 : (0 : Int) ≤ (pc : Int) := hrg.1
                      have p1 : (pc : Int) < 64 := hrg.2
                      have hsn := puts_snoc hp (puts Zc vs)
                      rw [hpc, Int.toNat_natCast] at hsn
                      have hlen : (puts (puts Zc vs) (ws.take j)).length = 64 := by simp only [puts_len]; rfl
                      obtain ⟨u, hu⟩ : ∃ u, (puts (puts Zc vs) (ws.take j))[pc]? = some u := ⟨_, List.getElem?_eq_getElem (by omega)⟩
                      have hc := (HB.out.1.cell pc).trans (want_get hu)
                      have hfz := HB.out.1.frozen pc
                      have FIN : Hid (∀ N, Blk ((wr.drewN N).setCell ⟨wa, pc, none⟩ (.int .i64 p.x)) wa 60 (want (puts (puts Zc vs) (ws.take (j + 1)))) ∧ Keeps [] w20 ((wr.drewN N).setCell ⟨wa, pc, none⟩ (.int .i64 p.x))) := fun N => by
                        have hkd : Keeps [] wr (wr.drewN N) := (Keeps.refl [] _).drewN _
                        rw [hsn, ← want_set _ (by rw [hlen]; omega) p.x]
                        exact ⟨(HB.out.1.keeps hkd (by simp)).set_ pc _, (HB.out.2.trans hkd (by simp)).setCell (.inr HBA.out.2.2) _⟩
                      clear hp hrg hpc hsn hlen hu
                      go_wp2_with fail
                      go_region
                      all_goals
                        go_wp2_with fail
                        exact ⟨⟨j + 1, by omega, by simp, FIN.out _⟩, by simp [intOf]; omega⟩
                    · obtain rfl : nw = j := by omega
                      have HB34 : Hid (Blk wr wa 60 (want (puts (puts Zc vs) ws)) ∧ Keeps [] w20 wr) := by
                        have := HB.out
                        rw [List.take_of_length_le (by rw [HLV.out.2]; exact Nat.le_refl _)] at this
                        exact this
                      clear HB hlt hj j0 hwj hm16
                      have hv := (HT20.out.calm HB34.out.2).view
                      rw [HTW.out.z.C, hC9.out] at hv
                      have HV := Lib.hid hv
                      clear hv
                      go_wp2_with fail
                      refine HV.out.mono ?_
                      rintro e w30 ⟨a3, c3, a4, c4, rfl, h3, _, _, _, hk30⟩
                      have HCL : Hid (OwnC w30 a3 c3 (puts (puts Zc vs) ws) ∧ Blk w30 wa 60 (want (puts (puts Zc vs) ws)) ∧ Keeps [] w20 w30) := ⟨h3, HB34.out.1.keeps hk30 (by simp), HB34.out.2.trans hk30 (by simp)⟩
                      clear h3 hk30 HB34 HV
                      go_wp2_with fail
                      go_loopw [36] (fun iv wx => ∃ j : Nat, j ≤ 64 ∧ iv = .int .i64 j ∧ Keeps [] w30 wx) (fun iv _ => 64 - (intOf iv).toNat)
                      case atStart => exact ⟨0, Nat.zero_le _, rfl, Keeps.refl _ _⟩
                      case round =>
                        obtain ⟨j, hj, rfl, hkr⟩ := hrel
                        have HKR := Lib.hid hkr
                        clear hkr
                        have j0 : (0 : Int) ≤ (j : Int) := by omega
                        have hwj : IntKind.i64.wrap ((j : Int) + 1) = (j : Int) + 1 := by rw [IntKind.wrap_i64]; omega
                        by_cases hlt : j < 64
                        · as_aux_lemma =>
                          have j1 : (j : Int) < 64 := by omega
                          have hlen : (puts (puts Zc vs) ws).length = 64 := by simp only [puts_len]; rfl
                          obtain ⟨u, hu⟩ : ∃ u, (puts (puts Zc vs) ws)[j]? = some u := ⟨_, List.getElem?_eq_getElem (by omega)⟩
                          have d0 := keeps_cell0 HKR.out (ownC_cell HCL.out.1 hu)
                          have d1 := keeps_cell0 HKR.out ((HCL.out.2.1.cell j).trans (want_get hu))
                          clear hu hlen
                          go_wp2_with fail
                          go_quiet (fail)
                          go_wp2_with fail
                          exact ⟨⟨j + 1, by omega, by simp, HKR.out.drewN _⟩, by simp [intOf]; omega⟩
                        · obtain rfl : j = 64 := by omega
                          obtain ⟨F9, hs9⟩ := (HT20.out.calm (HCL.out.2.2.trans HKR.out (by simp))).one.sp
                          have hlg : S.met.log.length ≤ k := HT20.out.fit.log
                          have QA := apart_yes hs9 (by omega) (by rw [HL9.out]; exact good_all (by decide) (by decide) (by decide) (by decide) (by decide) _ _ (by have := HN12.out; have := HLV.out; omega))
                          have HQA := Lib.hid QA
                          have HKZ := Lib.hid (((HKW2.out.trans HT20.out.keep (by simp)).trans HCL.out.2.2 (by simp)).trans HKR.out (by simp))
                          clear QA hs9 hlg HCL HKR hlt hj
                          go_wp2_with fail
                          refine HQA.out.mono ?_
                          rintro e w31 ⟨rfl, hk31⟩
                          go_wp2_with fail
                          go_ret
                          exact ⟨rfl, (HKZ.out.trans hk31 (by simp)).below (by simp) (Nat.le_refl _)⟩
          · as_aux_lemma =>
              rw [n1] at QN1
              rw [n2] at QN2
              have HQ1 := Lib.hid QN1
              have HQ2 := Lib.hid QN2
              have hC9 : Hid (S.cells = puts (puts Zc ws) vs) := by unfold Hid; rw [hC, HTH.out.2.2.1, HTH.out.2.2.2]
              have HL9 : Hid (sth S = List.replicate ws.length 2 ++ List.replicate vs.length 1) := by unfold Hid; rw [hL, HTH.out.2.2.1, HTH.out.2.2.2, HTH.out.1, HTH.out.2.1]
              have HR21 : Hid (w20.ownsRow 0 62 2 (.slice (some ⟨gv, 0, none⟩) nv cv) nv (prCells vs) ∧ w20.ownsRow 0 62 2 (.slice (some ⟨gw, 0, none⟩) nw cw) nw (prCells ws)) := by
                have h := HR20.out
                rw [HTH.out.2.2.1, HTH.out.2.2.2] at h
                exact h
              clear QN1 QN2 n1 n2 hC hL HR20 HNU
              go_wp2_with fail
              refine HQ1.out.mono ?_
              rintro e wq ⟨rfl, rfl⟩
              go_wp2_with fail
              refine HQ2.out.mono ?_
              rintro e wq ⟨rfl, rfl⟩
              clear HQ1 HQ2
              go_wp2_with fail
              go_loopw [33] (fun iv wx => ∃ j : Nat, j ≤ nw ∧ iv = .int .i64 j ∧ Blk wx wa 60 (want (puts (Zc) (ws.take j))) ∧ Keeps [] w20 wx) (fun iv _ => nw - (intOf iv).toNat)
              case atStart => exact ⟨0, Nat.zero_le _, rfl, HBA.out.1, HBA.out.2.1⟩
              case round =>
                obtain ⟨j, hj, rfl, hb, hkr⟩ := hrel
                have HB := Lib.hid (And.intro hb hkr)
                clear hb hkr
                have j0 : (0 : Int) ≤ (j : Int) := by omega
                have hm16 : nw ≤ 16 := by have := HN12.out; omega
                have hwj : IntKind.i64.wrap ((j : Int) + 1) = (j : Int) + 1 := by rw [IntKind.wrap_i64]; omega
                by_cases hlt : j < nw
                · as_aux_lemma =>
                  have j1 : (j : Int) < (nw : Int) := by omega
                  obtain ⟨p, hp⟩ : ∃ p, ws[j]? = some p := ⟨_, List.getElem?_eq_getElem (by have := HLV.out.2; omega)⟩
                  have hrg := HOKW.out.2.rng p (List.mem_of_getElem? hp)
                  obtain ⟨pc, hpc⟩ : ∃ pc : Nat, p.cell = pc := ⟨p.cell.toNat, by omega⟩
                  obtain ⟨d0, d1⟩ := prw (own_base (own_keeps HR21.out.2 HB.out.2 (by simp)) (fun _ _ => Nat.zero_le _)) hp HLV.out.2
                  rw [hpc] at d0 hrg
                  have p0 : (0 : Int) ≤ (pc : Int) := hrg.1
                  have p1 : (pc : Int) < 64 := hrg.2
                  have hsn := puts_snoc hp (Zc)
                  rw [hpc, Int.toNat_natCast] at hsn
                  have hlen : (puts (Zc) (ws.take j)).length = 64 := by simp only [puts_len]; rfl
                  obtain ⟨u, hu⟩ : ∃ u, (puts (Zc) (ws.take j))[pc]? = some u := ⟨_, List.getElem?_eq_getElem (by omega)⟩
                  have hc := (HB.out.1.cell pc).trans (want_get hu)
                  have hfz := HB.out.1.frozen pc
                  have FIN : Hid (∀ N, Blk ((wr.drewN N).setCell ⟨wa, pc, none⟩ (.int .i64 p.x)) wa 60 (want (puts (Zc) (ws.take (j + 1)))) ∧ Keeps [] w20 ((wr.drewN N).setCell ⟨wa, pc, none⟩ (.int .i64 p.x))) := fun N => by
                    have hkd : Keeps [] wr (wr.drewN N) := (Keeps.refl [] _).drewN _
                    rw [hsn, ← want_set _ (by rw [hlen]; omega) p.x]
                    exact ⟨(HB.out.1.keeps hkd (by simp)).set_ pc _, (HB.out.2.trans hkd (by simp)).setCell (.inr HBA.out.2.2) _⟩
                  clear hp hrg hpc hsn hlen hu
                  go_wp2_with fail
                  go_region
                  all_goals
                    go_wp2_with fail
                    exact ⟨⟨j + 1, by omega, by simp, FIN.out _⟩, by simp [intOf]; omega⟩
                · obtain rfl : nw = j := by omega
                  have HB33 : Hid (Blk wr wa 60 (want (puts (Zc) ws)) ∧ Keeps [] w20 wr) := by
                    have := HB.out
                    rw [List.take_of_length_le (by rw [HLV.out.2]; exact Nat.le_refl _)] at this
                    exact this
                  clear HB hlt hj j0 hwj hm16
                  go_wp2_with fail
                  go_loopw [34] (fun iv wx => ∃ j : Nat, j ≤ nv ∧ iv = .int .i64 j ∧ Blk wx wa 60 (want (puts (puts Zc ws) (vs.take j))) ∧ Keeps [] w20 wx) (fun iv _ => nv - (intOf iv).toNat)
                  case atStart => exact ⟨0, Nat.zero_le _, rfl, HB33.out⟩
                  case round =>
                    obtain ⟨j, hj, rfl, hb, hkr⟩ := hrel
                    have HB := Lib.hid (And.intro hb hkr)
                    clear hb hkr
                    have j0 : (0 : Int) ≤ (j : Int) := by omega
                    have hm16 : nv ≤ 16 := by have := HN12.out; omega
                    have hwj : IntKind.i64.wrap ((j : Int) + 1) = (j : Int) + 1 := by rw [IntKind.wrap_i64]; omega
                    by_cases hlt : j < nv
                    · as_aux_lemma =>
                      have j1 : (j : Int) < (nv : Int) := by omega
                      obtain ⟨p, hp⟩ : ∃ p, vs[j]? = some p := ⟨_, List.getElem?_eq_getElem (by have := HLV.out.1; omega)⟩
                      have hrg := HOKW.out.1.rng p (List.mem_of_getElem? hp)
                      obtain ⟨pc, hpc⟩ : ∃ pc : Nat, p.cell = pc := ⟨p.cell.toNat, by omega⟩
                      obtain ⟨d0, d1⟩ := prw (own_base (own_keeps HR21.out.1 HB.out.2 (by simp)) (fun _ _ => Nat.zero_le _)) hp HLV.out.1
                      rw [hpc] at d0 hrg
                      have p0 : (0 : Int) ≤ (pc : Int) := hrg.1
                      have p1 : (pc : Int) < 64 := hrg.2
                      have hsn := puts_snoc hp (puts Zc ws)
                      rw [hpc, Int.toNat_natCast] at hsn
                      have hlen : (puts (puts Zc ws) (vs.take j)).length = 64 := by simp only [puts_len]; rfl
                      obtain ⟨u, hu⟩ : ∃ u, (puts (puts Zc ws) (vs.take j))[pc]? = some u := ⟨_, List.getElem?_eq_getElem (by omega)⟩
                      have hc := (HB.out.1.cell pc).trans (want_get hu)
                      have hfz := HB.out.1.frozen pc
                      have FIN : Hid (∀ N, Blk ((wr.drewN N).setCell ⟨wa, pc, none⟩ (.int .i64 p.x)) wa 60 (want (puts (puts Zc ws) (vs.take (j + 1)))) ∧ Keeps [] w20 ((wr.drewN N).setCell ⟨wa, pc, none⟩ (.int .i64 p.x))) := fun N => by
                        have hkd : Keeps [] wr (wr.drewN N) := (Keeps.refl [] _).drewN _
                        rw [hsn, ← want_set _ (by rw [hlen]; omega) p.x]
                        exact ⟨(HB.out.1.keeps hkd (by simp)).set_ pc _, (HB.out.2.trans hkd (by simp)).setCell (.inr HBA.out.2.2) _⟩
                      clear hp hrg hpc hsn hlen hu
                      go_wp2_with fail
                      go_region
                      all_goals
                        go_wp2_with fail
                        exact ⟨⟨j + 1, by omega, by simp, FIN.out _⟩, by simp [intOf]; omega⟩
                    · obtain rfl : nv = j := by omega
                      have HB34 : Hid (Blk wr wa 60 (want (puts (puts Zc ws) vs)) ∧ Keeps [] w20 wr) := by
                        have := HB.out
                        rw [List.take_of_length_le (by rw [HLV.out.1]; exact Nat.le_refl _)] at this
                        exact this
                      clear HB hlt hj j0 hwj hm16
                      have hv := (HT20.out.calm HB34.out.2).view
                      rw [HTW.out.z.C, hC9.out] at hv
                      have HV := Lib.hid hv
                      clear hv
                      go_wp2_with fail
                      refine HV.out.mono ?_
                      rintro e w30 ⟨a3, c3, a4, c4, rfl, h3, _, _, _, hk30⟩
                      have HCL : Hid (OwnC w30 a3 c3 (puts (puts Zc ws) vs) ∧ Blk w30 wa 60 (want (puts (puts Zc ws) vs)) ∧ Keeps [] w20 w30) := ⟨h3, HB34.out.1.keeps hk30 (by simp), HB34.out.2.trans hk30 (by simp)⟩
                      clear h3 hk30 HB34 HV
                      go_wp2_with fail
                      go_loopw [36] (fun iv wx => ∃ j : Nat, j ≤ 64 ∧ iv = .int .i64 j ∧ Keeps [] w30 wx) (fun iv _ => 64 - (intOf iv).toNat)
                      case atStart => exact ⟨0, Nat.zero_le _, rfl, Keeps.refl _ _⟩
                      case round =>
                        obtain ⟨j, hj, rfl, hkr⟩ := hrel
                        have HKR := Lib.hid hkr
                        clear hkr
                        have j0 : (0 : Int) ≤ (j : Int) := by omega
                        have hwj : IntKind.i64.wrap ((j : Int) + 1) = (j : Int) + 1 := by rw [IntKind.wrap_i64]; omega
                        by_cases hlt : j < 64
                        · as_aux_lemma =>
                          have j1 : (j : Int) < 64 := by omega
                          have hlen : (puts (puts Zc ws) vs).length = 64 := by simp only [puts_len]; rfl
                          obtain ⟨u, hu⟩ : ∃ u, (puts (puts Zc ws) vs)[j]? = some u := ⟨_, List.getElem?_eq_getElem (by omega)⟩
                          have d0 := keeps_cell0 HKR.out (ownC_cell HCL.out.1 hu)
                          have d1 := keeps_cell0 HKR.out ((HCL.out.2.1.cell j).trans (want_get hu))
                          clear hu hlen
                          go_wp2_with fail
                          go_quiet (fail)
                          go_wp2_with fail
                          exact ⟨⟨j + 1, by omega, by simp, HKR.out.drewN _⟩, by simp [intOf]; omega⟩
                        · obtain rfl : j = 64 := by omega
                          obtain ⟨F9, hs9⟩ := (HT20.out.calm (HCL.out.2.2.trans HKR.out (by simp))).one.sp
                          have hlg : S.met.log.length ≤ k := HT20.out.fit.log
                          have QA := apart_yes hs9 (by omega) (by rw [HL9.out]; exact good_all (by decide) (by decide) (by decide) (by decide) (by decide) _ _ (by have := HN12.out; have := HLV.out; omega))
                          have HQA := Lib.hid QA
                          have HKZ := Lib.hid (((HKW2.out.trans HT20.out.keep (by simp)).trans HCL.out.2.2 (by simp)).trans HKR.out (by simp))
                          clear QA hs9 hlg HCL HKR hlt hj
                          go_wp2_with fail
                          refine HQA.out.mono ?_
                          rintro e w31 ⟨rfl, hk31⟩
                          go_wp2_with fail
                          go_ret
                          exact ⟨rfl, (HKZ.out.trans hk31 (by simp)).below (by simp) (Nat.le_refl _)⟩
    · as_aux_lemma =>
        have i1 : ¬ (i : Int) < (on : Int) + 200 := by omega
        have hov : x.st = .over ∧ y.st = .over := by
          have := HMS.out.done (by omega)
          exact ⟨(HTW.out.over_x HPQ.out).1 (by omega), (HTW.out.swap.over_x HPQ.out.swap).1 (by omega)⟩
        obtain ⟨hg4, hex, hey, hnum⟩ := HTW.out.ended HPQ.out hov.1 hov.2
        have QD1 := HT.out.one.done
        rw [show x.done = true from decide_eq_true hov.1] at QD1
        have QD2 := HT.out.two.done
        rw [show y.done = true from decide_eq_true hov.2] at QD2
        have QE1 := HT.out.one.end_
        rw [show x.end_ = 0 from by unfold Cm.end_; rw [if_pos hov.1, hex]] at QE1
        have QE2 := HT.out.two.end_
        rw [show y.end_ = 0 from by unfold Cm.end_; rw [if_pos hov.2, hey]] at QE2
        have QV := HT.out.view
        rw [hg4, HTW.out.z.C] at QV
        have HQ1 := Lib.hid QD1
        have HQ2 := Lib.hid QD2
        have HQ3 := Lib.hid QE1
        have HQ4 := Lib.hid QE2
        have HQ5 := Lib.hid QV
        have HNU := Lib.hid hnum
        clear HQD1 HQD2 HMS HO hov hg4 hex hey hnum QD1 QD2 QE1 QE2 QV
        have hfd1 : ∀ (x0 x1 x2 x3 : Value) (w : World), (Instr.field 58 (.agg #[x0, x1, x2, x3]) 1).run Tryz.prog w = .ok (.agg #[x1, x2]) w := fun x0 x1 x2 x3 w => by kernel_rfl
        have hfd0 : ∀ (x0 x1 x2 x3 : Value) (w : World), (Instr.field 58 (.agg #[x0, x1, x2, x3]) 0).run Tryz.prog w = .ok x0 w := fun x0 x1 x2 x3 w => by kernel_rfl
        have q1 : ∀ w, (Op.equalIn 10000 48 (.agg #[.int .i64 4, .int .i64 0]) (.agg #[.int .i64 4, .int .i64 0])).run Tryz.prog w = .ok true w := fun w => by have := RowG.eq_run w ⟨4, 0⟩ ⟨4, 0⟩; rw [decide_eq_true rfl] at this; exact this
        go_wp2_with fail
        refine HQ1.out.mono ?_
        rintro e wq ⟨rfl, rfl⟩
        go_wp2_with fail
        refine HQ2.out.mono ?_
        rintro e wq ⟨rfl, rfl⟩
        go_wp2_with fail
        refine HQ3.out.mono ?_
        rintro e wq ⟨rfl, rfl⟩
        go_wp2_with fail
        refine HQ4.out.mono ?_
        rintro e wq ⟨rfl, rfl⟩
        go_wp2_with fail
        refine HQ5.out.mono ?_
        rintro e w20 ⟨a1, c1, a2, c2, rfl, _, _, _, _, hk20⟩
        have HT20 := Lib.hid (HT.out.calm hk20)
        have HR20 := Lib.hid (And.intro (own_keeps HRW.out.1 hk20 (by simp)) (own_keeps HRW.out.2 hk20 (by simp)))
        clear HQ1 HQ2 HQ3 HQ4 HQ5 hk20 HT HRW
        go_upto_region 31 with fail
        clear q1 hfd1
        have hka : Keeps [] w20 (w20.alloc (.cells #[.int .i64 0, .int .i64 0, .int .i64 0, .int .i64 0, .int .i64 0, .int .i64 0, .int .i64 0, .int .i64 0, .int .i64 0, .int .i64 0, .int .i64 0, .int .i64 0, .int .i64 0, .int .i64 0, .int .i64 0, .int .i64 0, .int .i64 0, .int .i64 0, .int .i64 0, .int .i64 0, .int .i64 0, .int .i64 0, .int .i64 0, .int .i64 0, .int .i64 0, .int .i64 0, .int .i64 0, .int .i64 0, .int .i64 0, .int .i64 0, .int .i64 0, .int .i64 0, .int .i64 0, .int .i64 0, .int .i64 0, .int .i64 0, .int .i64 0, .int .i64 0, .int .i64 0, .int .i64 0, .int .i64 0, .int .i64 0, .int .i64 0, .int .i64 0, .int .i64 0, .int .i64 0, .int .i64 0, .int .i64 0, .int .i64 0, .int .i64 0, .int .i64 0, .int .i64 0, .int .i64 0, .int .i64 0, .int .i64 0, .int .i64 0, .int .i64 0, .int .i64 0, .int .i64 0, .int .i64 0, .int .i64 0, .int .i64 0, .int .i64 0, .int .i64 0] 60)) := by simp
        have hba : Blk (w20.alloc (.cells #[.int .i64 0, .int .i64 0, .int .i64 0, .int .i64 0, .int .i64 0, .int .i64 0, .int .i64 0, .int .i64 0, .int .i64 0, .int .i64 0, .int .i64 0, .int .i64 0, .int .i64 0, .int .i64 0, .int .i64 0, .int .i64 0, .int .i64 0, .int .i64 0, .int .i64 0, .int .i64 0, .int .i64 0, .int .i64 0, .int .i64 0, .int .i64 0, .int .i64 0, .int .i64 0, .int .i64 0, .int .i64 0, .int .i64 0, .int .i64 0, .int .i64 0, .int .i64 0, .int .i64 0, .int .i64 0, .int .i64 0, .int .i64 0, .int .i64 0, .int .i64 0, .int .i64 0, .int .i64 0, .int .i64 0, .int .i64 0, .int .i64 0, .int .i64 0, .int .i64 0, .int .i64 0, .int .i64 0, .int .i64 0, .int .i64 0, .int .i64 0, .int .i64 0, .int .i64 0, .int .i64 0, .int .i64 0, .int .i64 0, .int .i64 0, .int .i64 0, .int .i64 0, .int .i64 0, .int .i64 0, .int .i64 0, .int .i64 0, .int .i64 0, .int .i64 0] 60)) w20.heap.size 60 (want Zc) := Blk.new _ _ _
        obtain ⟨w21, hw21⟩ : ∃ q, w20.alloc (.cells #[.int .i64 0, .int .i64 0, .int .i64 0, .int .i64 0, .int .i64 0, .int .i64 0, .int .i64 0, .int .i64 0, .int .i64 0, .int .i64 0, .int .i64 0, .int .i64 0, .int .i64 0, .int .i64 0, .int .i64 0, .int .i64 0, .int .i64 0, .int .i64 0, .int .i64 0, .int .i64 0, .int .i64 0, .int .i64 0, .int .i64 0, .int .i64 0, .int .i64 0, .int .i64 0, .int .i64 0, .int .i64 0, .int .i64 0, .int .i64 0, .int .i64 0, .int .i64 0, .int .i64 0, .int .i64 0, .int .i64 0, .int .i64 0, .int .i64 0, .int .i64 0, .int .i64 0, .int .i64 0, .int .i64 0, .int .i64 0, .int .i64 0, .int .i64 0, .int .i64 0, .int .i64 0, .int .i64 0, .int .i64 0, .int .i64 0, .int .i64 0, .int .i64 0, .int .i64 0, .int .i64 0, .int .i64 0, .int .i64 0, .int .i64 0, .int .i64 0, .int .i64 0, .int .i64 0, .int .i64 0, .int .i64 0, .int .i64 0, .int .i64 0, .int .i64 0] 60) = q := ⟨_, rfl⟩
        try rw [hw21]
        rw [hw21] at hka hba
        obtain ⟨wa, hwa⟩ : ∃ q, w20.heap.size = q := ⟨_, rfl⟩
        try rw [hwa]
        rw [hwa] at hba
        have HBA := Lib.hid (And.intro hba (And.intro hka (Nat.le_of_eq hwa)))
        have QN1 := (HT20.out.calm hka).one.number
        have QN2 := (HT20.out.calm hka).two.number
        clear hka hba hw21 hwa
        rcases HNU.out with ⟨n1, n2, hC, hL⟩ | ⟨n1, n2, hC, hL⟩
        · as_aux_lemma =>
            rw [n1] at QN1
            rw [n2] at QN2
            have HQ1 := Lib.hid QN1
            have HQ2 := Lib.hid QN2
            have hC9 : Hid (S.cells = puts (puts Zc vs) ws) := by unfold Hid; rw [hC, HTH.out.2.2.1, HTH.out.2.2.2]
            have HL9 : Hid (sth S = List.replicate vs.length 1 ++ List.replicate ws.length 2) := by unfold Hid; rw [hL, HTH.out.2.2.1, HTH.out.2.2.2, HTH.out.1, HTH.out.2.1]
            have HR21 : Hid (w20.ownsRow 0 62 2 (.slice (some ⟨gv, 0, none⟩) nv cv) nv (prCells vs) ∧ w20.ownsRow 0 62 2 (.slice (some ⟨gw, 0, none⟩) nw cw) nw (prCells ws)) := by
              have h := HR20.out
              rw [HTH.out.2.2.1, HTH.out.2.2.2] at h
              exact h
            clear QN1 QN2 n1 n2 hC hL HR20 HNU
            go_wp2_with fail
            refine HQ1.out.mono ?_
            rintro e wq ⟨rfl, rfl⟩
            go_wp2_with fail
            refine HQ2.out.mono ?_
            rintro e wq ⟨rfl, rfl⟩
            clear HQ1 HQ2
            go_wp2_with fail
            go_loopw [33] (fun iv wx => ∃ j : Nat, j ≤ nv ∧ iv = .int .i64 j ∧ Blk wx wa 60 (want (puts (Zc) (vs.take j))) ∧ Keeps [] w20 wx) (fun iv _ => nv - (intOf iv).toNat)
            case atStart => exact ⟨0, Nat.zero_le _, rfl, HBA.out.1, HBA.out.2.1⟩
            case round =>
              obtain ⟨j, hj, rfl, hb, hkr⟩ := hrel
              have HB := Lib.hid (And.intro hb hkr)
              clear hb hkr
              have j0 : (0 : Int) ≤ (j : Int) := by omega
              have hm16 : nv ≤ 16 := by have := HN12.out; omega
              have hwj : IntKind.i64.wrap ((j : Int) + 1) = (j : Int) + 1 := by rw [IntKind.wrap_i64]; omega
              by_cases hlt : j < nv
              · as_aux_lemma =>
                have j1 : (j : Int) < (nv : Int) := by omega
                obtain ⟨p, hp⟩ : ∃ p, vs[j]? = some p := ⟨_, List.getElem?_eq_getElem (by have := HLV.out.1; omega)⟩
                have hrg := HOKW.out.1.rng p (List.mem_of_getElem? hp)
                obtain ⟨pc, hpc⟩ : ∃ pc : Nat, p.cell = pc := ⟨p.cell.toNat, by omega⟩
                obtain ⟨d0, d1⟩ := prw (own_base (own_keeps HR21.out.1 HB.out.2 (by simp)) (fun _ _ => Nat.zero_le _)) hp HLV.out.1
                rw [hpc] at d0 hrg
                have p0 : (0 : Int) ≤ (pc : Int) := hrg.1
                have p1 : (pc : Int) < 64 := hrg.2
                have hsn := puts_snoc hp (Zc)
                rw [hpc, Int.toNat_natCast] at hsn
                have hlen : (puts (Zc) (vs.take j)).length = 64 := by simp only [puts_len]; rfl
                obtain ⟨u, hu⟩ : ∃ u, (puts (Zc) (vs.take j))[pc]? = some u := ⟨_, List.getElem?_eq_getElem (by omega)⟩
                have hc := (HB.out.1.cell pc).trans (want_get hu)
                have hfz := HB.out.1.frozen pc
                have FIN : Hid (∀ N, Blk ((wr.drewN N).setCell ⟨wa, pc, none⟩ (.int .i64 p.x)) wa 60 (want (puts (Zc) (vs.take (j + 1)))) ∧ Keeps [] w20 ((wr.drewN N).setCell ⟨wa, pc, none⟩ (.int .i64 p.x))) := fun N => by
                  have hkd : Keeps [] wr (wr.drewN N) := (Keeps.refl [] _).drewN _
                  rw [hsn, ← want_set _ (by rw [hlen]; omega) p.x]
                  exact ⟨(HB.out.1.keeps hkd (by simp)).set_ pc _, (HB.out.2.trans hkd (by simp)).setCell (.inr HBA.out.2.2) _⟩
                clear hp hrg hpc hsn hlen hu
                go_wp2_with fail
                go_region
                all_goals
                  go_wp2_with fail
                  exact ⟨⟨j + 1, by omega, by simp, FIN.out _⟩, by simp [intOf]; omega⟩
              · obtain rfl : nv = j := by omega
                have HB33 : Hid (Blk wr wa 60 (want (puts (Zc) vs)) ∧ Keeps [] w20 wr) := by
                  have := HB.out
                  rw [List.take_of_length_le (by rw [HLV.out.1]; exact Nat.le_refl _)] at this
                  exact this
                clear HB hlt hj j0 hwj hm16
                go_wp2_with fail
                go_loopw [34] (fun iv wx => ∃ j : Nat, j ≤ nw ∧ iv = .int .i64 j ∧ Blk wx wa 60 (want (puts (puts Zc vs) (ws.take j))) ∧ Keeps [] w20 wx) (fun iv _ => nw - (intOf iv).toNat)
                case atStart => exact ⟨0, Nat.zero_le _, rfl, HB33.out⟩
                case round =>
                  obtain ⟨j, hj, rfl, hb, hkr⟩ := hrel
                  have HB := Lib.hid (And.intro hb hkr)
                  clear hb hkr
                  have j0 : (0 : Int) ≤ (j : Int) := by omega
                  have hm16 : nw ≤ 16 := by have := HN12.out; omega
                  have hwj : IntKind.i64.wrap ((j : Int) + 1) = (j : Int) + 1 := by rw [IntKind.wrap_i64]; omega
                  by_cases hlt : j < nw
                  · as_aux_lemma =>
                    have j1 : (j : Int) < (nw : Int) := by omega
                    obtain ⟨p, hp⟩ : ∃ p, ws[j]? = some p := ⟨_, List.getElem?_eq_getElem (by have := HLV.out.2; omega)⟩
                    have hrg := HOKW.out.2.rng p (List.mem_of_getElem? hp)
                    obtain ⟨pc, hpc⟩ : ∃ pc : Nat, p.cell = pc := ⟨p.cell.toNat, by omega⟩
                    obtain ⟨d0, d1⟩ := prw (own_base (own_keeps HR21.out.2 HB.out.2 (by simp)) (fun _ _ => Nat.zero_le _)) hp HLV.out.2
                    rw [hpc] at d0 hrg
                    have p0 : (0 : Int) ≤ (pc : Int) := hrg.1
                    have p1 : (pc : Int) < 64 := hrg.2
                    have hsn := puts_snoc hp (puts Zc vs)
                    rw [hpc, Int.toNat_natCast] at hsn
                    have hlen : (puts (puts Zc vs) (ws.take j)).length = 64 := by simp only [puts_len]; rfl
                    obtain ⟨u, hu⟩ : ∃ u, (puts (puts Zc vs) (ws.take j))[pc]? = some u := ⟨_, List.getElem?_eq_getElem (by omega)⟩
                    have hc := (HB.out.1.cell pc).trans (want_get hu)
                    have hfz := HB.out.1.frozen pc
                    have FIN : Hid (∀ N, Blk ((wr.drewN N).setCell ⟨wa, pc, none⟩ (.int .i64 p.x)) wa 60 (want (puts (puts Zc vs) (ws.take (j + 1)))) ∧ Keeps [] w20 ((wr.drewN N).setCell ⟨wa, pc, none⟩ (.int .i64 p.x))) := fun N => by
                      have hkd : Keeps [] wr (wr.drewN N) := (Keeps.refl [] _).drewN _
                      rw [hsn, ← want_set _ (by rw [hlen]; omega) p.x]
                      exact ⟨(HB.out.1.keeps hkd (by simp)).set_ pc _, (HB.out.2.trans hkd (by simp)).setCell (.inr HBA.out.2.2) _⟩
                    clear hp hrg hpc hsn hlen hu
                    go_wp2_with fail
                    go_region
                    all_goals
                      go_wp2_with fail
                      exact ⟨⟨j + 1, by omega, by simp, FIN.out _⟩, by simp [intOf]; omega⟩
                  · obtain rfl : nw = j := by omega
                    have HB34 : Hid (Blk wr wa 60 (want (puts (puts Zc vs) ws)) ∧ Keeps [] w20 wr) := by
                      have := HB.out
                      rw [List.take_of_length_le (by rw [HLV.out.2]; exact Nat.le_refl _)] at this
                      exact this
                    clear HB hlt hj j0 hwj hm16
                    have hv := (HT20.out.calm HB34.out.2).view
                    rw [HTW.out.z.C, hC9.out] at hv
                    have HV := Lib.hid hv
                    clear hv
                    go_wp2_with fail
                    refine HV.out.mono ?_
                    rintro e w30 ⟨a3, c3, a4, c4, rfl, h3, _, _, _, hk30⟩
                    have HCL : Hid (OwnC w30 a3 c3 (puts (puts Zc vs) ws) ∧ Blk w30 wa 60 (want (puts (puts Zc vs) ws)) ∧ Keeps [] w20 w30) := ⟨h3, HB34.out.1.keeps hk30 (by simp), HB34.out.2.trans hk30 (by simp)⟩
                    clear h3 hk30 HB34 HV
                    go_wp2_with fail
                    go_loopw [36] (fun iv wx => ∃ j : Nat, j ≤ 64 ∧ iv = .int .i64 j ∧ Keeps [] w30 wx) (fun iv _ => 64 - (intOf iv).toNat)
                    case atStart => exact ⟨0, Nat.zero_le _, rfl, Keeps.refl _ _⟩
                    case round =>
                      obtain ⟨j, hj, rfl, hkr⟩ := hrel
                      have HKR := Lib.hid hkr
                      clear hkr
                      have j0 : (0 : Int) ≤ (j : Int) := by omega
                      have hwj : IntKind.i64.wrap ((j : Int) + 1) = (j : Int) + 1 := by rw [IntKind.wrap_i64]; omega
                      by_cases hlt : j < 64
                      · as_aux_lemma =>
                        have j1 : (j : Int) < 64 := by omega
                        have hlen : (puts (puts Zc vs) ws).length = 64 := by simp only [puts_len]; rfl
                        obtain ⟨u, hu⟩ : ∃ u, (puts (puts Zc vs) ws)[j]? = some u := ⟨_, List.getElem?_eq_getElem (by omega)⟩
                        have d0 := keeps_cell0 HKR.out (ownC_cell HCL.out.1 hu)
                        have d1 := keeps_cell0 HKR.out ((HCL.out.2.1.cell j).trans (want_get hu))
                        clear hu hlen
                        go_wp2_with fail
                        go_quiet (fail)
                        go_wp2_with fail
                        exact ⟨⟨j + 1, by omega, by simp, HKR.out.drewN _⟩, by simp [intOf]; omega⟩
                      · obtain rfl : j = 64 := by omega
                        obtain ⟨F9, hs9⟩ := (HT20.out.calm (HCL.out.2.2.trans HKR.out (by simp))).one.sp
                        have hlg : S.met.log.length ≤ k := HT20.out.fit.log
                        have QA := apart_yes hs9 (by omega) (by rw [HL9.out]; exact good_all (by decide) (by decide) (by decide) (by decide) (by decide) _ _ (by have := HN12.out; have := HLV.out; omega))
                        have HQA := Lib.hid QA
                        have HKZ := Lib.hid (((HKW2.out.trans HT20.out.keep (by simp)).trans HCL.out.2.2 (by simp)).trans HKR.out (by simp))
                        clear QA hs9 hlg HCL HKR hlt hj
                        go_wp2_with fail
                        refine HQA.out.mono ?_
                        rintro e w31 ⟨rfl, hk31⟩
                        go_wp2_with fail
                        go_ret
                        exact ⟨rfl, (HKZ.out.trans hk31 (by simp)).below (by simp) (Nat.le_refl _)⟩
        · as_aux_lemma =>
            rw [n1] at QN1
            rw [n2] at QN2
            have HQ1 := Lib.hid QN1
            have HQ2 := Lib.hid QN2
            have hC9 : Hid (S.cells = puts (puts Zc ws) vs) := by unfold Hid; rw [hC, HTH.out.2.2.1, HTH.out.2.2.2]
            have HL9 : Hid (sth S = List.replicate ws.length 2 ++ List.replicate vs.length 1) := by unfold Hid; rw [hL, HTH.out.2.2.1, HTH.out.2.2.2, HTH.out.1, HTH.out.2.1]
            have HR21 : Hid (w20.ownsRow 0 62 2 (.slice (some ⟨gv, 0, none⟩) nv cv) nv (prCells vs) ∧ w20.ownsRow 0 62 2 (.slice (some ⟨gw, 0, none⟩) nw cw) nw (prCells ws)) := by
              have h := HR20.out
              rw [HTH.out.2.2.1, HTH.out.2.2.2] at h
              exact h
            clear QN1 QN2 n1 n2 hC hL HR20 HNU
            go_wp2_with fail
            refine HQ1.out.mono ?_
            rintro e wq ⟨rfl, rfl⟩
            go_wp2_with fail
            refine HQ2.out.mono ?_
            rintro e wq ⟨rfl, rfl⟩
            clear HQ1 HQ2
            go_wp2_with fail
            go_loopw [33] (fun iv wx => ∃ j : Nat, j ≤ nw ∧ iv = .int .i64 j ∧ Blk wx wa 60 (want (puts (Zc) (ws.take j))) ∧ Keeps [] w20 wx) (fun iv _ => nw - (intOf iv).toNat)
            case atStart => exact ⟨0, Nat.zero_le _, rfl, HBA.out.1, HBA.out.2.1⟩
            case round =>
              obtain ⟨j, hj, rfl, hb, hkr⟩ := hrel
              have HB := Lib.hid (And.intro hb hkr)
              clear hb hkr
              have j0 : (0 : Int) ≤ (j : Int) := by omega
              have hm16 : nw ≤ 16 := by have := HN12.out; omega
              have hwj : IntKind.i64.wrap ((j : Int) + 1) = (j : Int) + 1 := by rw [IntKind.wrap_i64]; omega
              by_cases hlt : j < nw
              · as_aux_lemma =>
                have j1 : (j : Int) < (nw : Int) := by omega
                obtain ⟨p, hp⟩ : ∃ p, ws[j]? = some p := ⟨_, List.getElem?_eq_getElem (by have := HLV.out.2; omega)⟩
                have hrg := HOKW.out.2.rng p (List.mem_of_getElem? hp)
                obtain ⟨pc, hpc⟩ : ∃ pc : Nat, p.cell = pc := ⟨p.cell.toNat, by omega⟩
                obtain ⟨d0, d1⟩ := prw (own_base (own_keeps HR21.out.2 HB.out.2 (by simp)) (fun _ _ => Nat.zero_le _)) hp HLV.out.2
                rw [hpc] at d0 hrg
                have p0 : (0 : Int) ≤ (pc : Int) := hrg.1
                have p1 : (pc : Int) < 64 := hrg.2
                have hsn := puts_snoc hp (Zc)
                rw [hpc, Int.toNat_natCast] at hsn
                have hlen : (puts (Zc) (ws.take j)).length = 64 := by simp only [puts_len]; rfl
                obtain ⟨u, hu⟩ : ∃ u, (puts (Zc) (ws.take j))[pc]? = some u := ⟨_, List.getElem?_eq_getElem (by omega)⟩
                have hc := (HB.out.1.cell pc).trans (want_get hu)
                have hfz := HB.out.1.frozen pc
                have FIN : Hid (∀ N, Blk ((wr.drewN N).setCell ⟨wa, pc, none⟩ (.int .i64 p.x)) wa 60 (want (puts (Zc) (ws.take (j + 1)))) ∧ Keeps [] w20 ((wr.drewN N).setCell ⟨wa, pc, none⟩ (.int .i64 p.x))) := fun N => by
                  have hkd : Keeps [] wr (wr.drewN N) := (Keeps.refl [] _).drewN _
                  rw [hsn, ← want_set _ (by rw [hlen]; omega) p.x]
                  exact ⟨(HB.out.1.keeps hkd (by simp)).set_ pc _, (HB.out.2.trans hkd (by simp)).setCell (.inr HBA.out.2.2) _⟩
                clear hp hrg hpc hsn hlen hu
                go_wp2_with fail
                go_region
                all_goals
                  go_wp2_with fail
                  exact ⟨⟨j + 1, by omega, by simp, FIN.out _⟩, by simp [intOf]; omega⟩
              · obtain rfl : nw = j := by omega
                have HB33 : Hid (Blk wr wa 60 (want (puts (Zc) ws)) ∧ Keeps [] w20 wr) := by
                  have := HB.out
                  rw [List.take_of_length_le (by rw [HLV.out.2]; exact Nat.le_refl _)] at this
                  exact this
                clear HB hlt hj j0 hwj hm16
                go_wp2_with fail
                go_loopw [34] (fun iv wx => ∃ j : Nat, j ≤ nv ∧ iv = .int .i64 j ∧ Blk wx wa 60 (want (puts (puts Zc ws) (vs.take j))) ∧ Keeps [] w20 wx) (fun iv _ => nv - (intOf iv).toNat)
                case atStart => exact ⟨0, Nat.zero_le _, rfl, HB33.out⟩
                case round =>
                  obtain ⟨j, hj, rfl, hb, hkr⟩ := hrel
                  have HB := Lib.hid (And.intro hb hkr)
                  clear hb hkr
                  have j0 : (0 : Int) ≤ (j : Int) := by omega
                  have hm16 : nv ≤ 16 := by have := HN12.out; omega
                  have hwj : IntKind.i64.wrap ((j : Int) + 1) = (j : Int) + 1 := by rw [IntKind.wrap_i64]; omega
                  by_cases hlt : j < nv
                  · as_aux_lemma =>
                    have j1 : (j : Int) < (nv : Int) := by omega
                    obtain ⟨p, hp⟩ : ∃ p, vs[j]? = some p := ⟨_, List.getElem?_eq_getElem (by have := HLV.out.1; omega)⟩
                    have hrg := HOKW.out.1.rng p (List.mem_of_getElem? hp)
                    obtain ⟨pc, hpc⟩ : ∃ pc : Nat, p.cell = pc := ⟨p.cell.toNat, by omega⟩
                    obtain ⟨d0, d1⟩ := prw (own_base (own_keeps HR21.out.1 HB.out.2 (by simp)) (fun _ _ => Nat.zero_le _)) hp HLV.out.1
                    rw [hpc] at d0 hrg
                    have p0 : (0 : Int) ≤ (pc : Int) := hrg.1
                    have p1 : (pc : Int) < 64 := hrg.2
                    have hsn := puts_snoc hp (puts Zc ws)
                    rw [hpc, Int.toNat_natCast] at hsn
                    have hlen : (puts (puts Zc ws) (vs.take j)).length = 64 := by simp only [puts_len]; rfl
                    obtain ⟨u, hu⟩ : ∃ u, (puts (puts Zc ws) (vs.take j))[pc]? = some u := ⟨_, List.getElem?_eq_getElem (by omega)⟩
                    have hc := (HB.out.1.cell pc).trans (want_get hu)
                    have hfz := HB.out.1.frozen pc
                    have FIN : Hid (∀ N, Blk ((wr.drewN N).setCell ⟨wa, pc, none⟩ (.int .i64 p.x)) wa 60 (want (puts (puts Zc ws) (vs.take (j + 1)))) ∧ Keeps [] w20 ((wr.drewN N).setCell ⟨wa, pc, none⟩ (.int .i64 p.x))) := fun N => by
                      have hkd : Keeps [] wr (wr.drewN N) := (Keeps.refl [] _).drewN _
                      rw [hsn, ← want_set _ (by rw [hlen]; omega) p.x]
                      exact ⟨(HB.out.1.keeps hkd (by simp)).set_ pc _, (HB.out.2.trans hkd (by simp)).setCell (.inr HBA.out.2.2) _⟩
                    clear hp hrg hpc hsn hlen hu
                    go_wp2_with fail
                    go_region
                    all_goals
                      go_wp2_with fail
                      exact ⟨⟨j + 1, by omega, by simp, FIN.out _⟩, by simp [intOf]; omega⟩
                  · obtain rfl : nv = j := by omega
                    have HB34 : Hid (Blk wr wa 60 (want (puts (puts Zc ws) vs)) ∧ Keeps [] w20 wr) := by
                      have := HB.out
                      rw [List.take_of_length_le (by rw [HLV.out.1]; exact Nat.le_refl _)] at this
                      exact this
                    clear HB hlt hj j0 hwj hm16
                    have hv := (HT20.out.calm HB34.out.2).view
                    rw [HTW.out.z.C, hC9.out] at hv
                    have HV := Lib.hid hv
                    clear hv
                    go_wp2_with fail
                    refine HV.out.mono ?_
                    rintro e w30 ⟨a3, c3, a4, c4, rfl, h3, _, _, _, hk30⟩
                    have HCL : Hid (OwnC w30 a3 c3 (puts (puts Zc ws) vs) ∧ Blk w30 wa 60 (want (puts (puts Zc ws) vs)) ∧ Keeps [] w20 w30) := ⟨h3, HB34.out.1.keeps hk30 (by simp), HB34.out.2.trans hk30 (by simp)⟩
                    clear h3 hk30 HB34 HV
                    go_wp2_with fail
                    go_loopw [36] (fun iv wx => ∃ j : Nat, j ≤ 64 ∧ iv = .int .i64 j ∧ Keeps [] w30 wx) (fun iv _ => 64 - (intOf iv).toNat)
                    case atStart => exact ⟨0, Nat.zero_le _, rfl, Keeps.refl _ _⟩
                    case round =>
                      obtain ⟨j, hj, rfl, hkr⟩ := hrel
                      have HKR := Lib.hid hkr
                      clear hkr
                      have j0 : (0 : Int) ≤ (j : Int) := by omega
                      have hwj : IntKind.i64.wrap ((j : Int) + 1) = (j : Int) + 1 := by rw [IntKind.wrap_i64]; omega
                      by_cases hlt : j < 64
                      · as_aux_lemma =>
                        have j1 : (j : Int) < 64 := by omega
                        have hlen : (puts (puts Zc ws) vs).length = 64 := by simp only [puts_len]; rfl
                        obtain ⟨u, hu⟩ : ∃ u, (puts (puts Zc ws) vs)[j]? = some u := ⟨_, List.getElem?_eq_getElem (by omega)⟩
                        have d0 := keeps_cell0 HKR.out (ownC_cell HCL.out.1 hu)
                        have d1 := keeps_cell0 HKR.out ((HCL.out.2.1.cell j).trans (want_get hu))
                        clear hu hlen
                        go_wp2_with fail
                        go_quiet (fail)
                        go_wp2_with fail
                        exact ⟨⟨j + 1, by omega, by simp, HKR.out.drewN _⟩, by simp [intOf]; omega⟩
                      · obtain rfl : j = 64 := by omega
                        obtain ⟨F9, hs9⟩ := (HT20.out.calm (HCL.out.2.2.trans HKR.out (by simp))).one.sp
                        have hlg : S.met.log.length ≤ k := HT20.out.fit.log
                        have QA := apart_yes hs9 (by omega) (by rw [HL9.out]; exact good_all (by decide) (by decide) (by decide) (by decide) (by decide) _ _ (by have := HN12.out; have := HLV.out; omega))
                        have HQA := Lib.hid QA
                        have HKZ := Lib.hid (((HKW2.out.trans HT20.out.keep (by simp)).trans HCL.out.2.2 (by simp)).trans HKR.out (by simp))
                        clear QA hs9 hlg HCL HKR hlt hj
                        go_wp2_with fail
                        refine HQA.out.mono ?_
                        rintro e w31 ⟨rfl, hk31⟩
                        go_wp2_with fail
                        go_ret
                        exact ⟨rfl, (HKZ.out.trans hk31 (by simp)).below (by simp) (Nat.le_refl _)⟩
end Go.Proofs.YtcoekpomiljofaaGreat.commitTwo
