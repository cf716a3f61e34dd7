/- CommitBounds' walk. -/
import Derived.Test.YtcoekpomiljofaaGreatAw13
import Derived.Test.YtcoekpomiljofaaGreatRegM
import Derived.Test.YtcoekpomiljofaaGreatCmWrs
import Derived.Test.YtcoekpomiljofaaGreatCmSide
import Derived.Test.YtcoekpomiljofaaGreatCmSeats
import Derived.Test.YtcoekpomiljofaaGreatCmBdB
import Derived.Deep.RegionHeld3
import Derived.Deep.DeepCutAuto
import Derived.Deep.QuietTactic
import Derived.BigQuiet
import Derived.WalkKit
namespace Go.Proofs.YtcoekpomiljofaaGreat.commitBounds
open Go.RowKit
set_option linter.unusedVariables false
set_option linter.unusedSimpArgs false
open al fd Pol bd
theorem pair_keeps {w w' : World} {A : Option Addr} {n cap : Nat} {l : List ElPair} (h : LstPair w A n cap l) (hk : Keeps [] w w') : LstPair w' A n cap l := by
  obtain ⟨h1, h2, h3, h4⟩ := h
  refine ⟨h1, h2, h3, fun hn => ?_⟩
  obtain ⟨b, off, hA, hb, hc⟩ := h4 hn
  exact ⟨b, off, hA, Nat.lt_of_lt_of_le hb hk.size, fun i p hp => (hc i p hp).keeps hb hk⟩
theorem sea_keeps {w w' : World} {A : Option Addr} {n cap : Nat} {l : List ElSea13} (h : LstSea13 w A n cap l) (hk : Keeps [] w w') : LstSea13 w' A n cap l := by
  obtain ⟨h1, h2, h3, h4⟩ := h
  refine ⟨h1, h2, h3, fun hn => ?_⟩
  obtain ⟨b, off, hA, hb, hc⟩ := h4 hn
  exact ⟨b, off, hA, Nat.lt_of_lt_of_le hb hk.size, fun i p hp => (hc i p hp).keeps hb hk⟩
theorem sea_ok {w : World} {A : Option Addr} {n cap : Nat} {l : List ElSea13} (h : LstSea13 w A n cap l) : ∀ p, p ∈ l → p.words.ok := fun p hp => by
  obtain ⟨h1, h2, h3, h4⟩ := h
  obtain ⟨i, hi, e⟩ := List.getElem_of_mem hp
  obtain ⟨b, off, hA, hb, hc⟩ := h4 (by omega)
  exact (hc i p (by rw [List.getElem?_eq_getElem hi, e])).w1
theorem nth_set0 {l : List Hd} {x : Hd} (y : Hd) (h : nth l 0 = some x) : nth (l.set (Int.toNat 0) y) 0 = some y := by
  have := nth_len h
  unfold nth
  rw [if_pos (by omega)]
  simp only [Int.toNat_zero]
  rw [List.getElem?_set_self (by omega)]
theorem spL_nth {c : Cf} (hc : c.ok) : nth (spL c).H 0 = some hdL := by
  rw [(spL_is hc.2.1.1).2.2]
  have := hc.2.1.1
  exact nth_set0 _ (nth_rep (n := c.slots.toNat) (a := Hd.zero) (by omega))
theorem row_grow {w wr W w1 : World} {wt v1 : Value} {n size : Nat} {t : TypeId} {xs ys : List Value} (how : wr.ownsRow w.heap.size t size wt n xs) (hk : Keeps [] w wr) (hkW : Keeps [] wr W) (hown : w1.ownsRow 0 t size v1 (n + 1) ys) (hg : W.grownBy w1 wt.ownBlock) (hat : v1.ownBlock = wt.ownBlock ∨ v1.ownBlock = some W.heap.size) :
    w1.ownsRow w.heap.size t size v1 (n + 1) ys ∧ Keeps [] w w1 := by
  have hW : Keeps [] w W := hk.trans hkW (by simp)
  have hz := hW.size
  refine ⟨?_, hW.grown hg (fun q hq => .inr (how.lt q hq).1)⟩
  refine own_base hown (fun q hq => ?_)
  rcases hat with e | e
  · exact (how.lt q (e ▸ hq)).1
  · rw [e] at hq; injection hq with hq; omega
theorem ownC_cell {w : World} {a c : Nat} {l : List Int} {k : Nat} {x : Int} (h : OwnC w a c l) (hx : l[k]? = some x) : w.cell? ⟨a, k, none⟩ = some (.int .i64 x) := by
  have e : ∀ l : List Int, l.flatMap RowI.cells = l.map (Value.int .i64) := fun l => by
    induction l with
    | nil => rfl
    | cons y l ih => simp [RowI.cells] at ih ⊢; exact ih
  have hlt := (List.getElem?_eq_some_iff.1 hx).1
  exact (World.ownsRow.cellAt h k (by omega)).trans (by rw [e l, List.getElem?_map, hx]; rfl)
theorem prw {w : World} {g n c : Nat} {ws : List Pr} (h : w.ownsRow 0 62 2 (.slice (some ⟨g, 0, none⟩) n c) n (prCells ws)) {j : Nat} {p : Pr} (hp : ws[j]? = some p) (hn : ws.length = n) : w.cell? ⟨g, j * 2, none⟩ = some (.int .i64 p.cell) ∧ w.cell? ⟨g, j * 2 + 1, none⟩ = some (.int .i64 p.x) := by
  subst hn
  obtain ⟨g', off, e, h0, h1⟩ := pr_cellR (SlR.of_own h) hp
  injection e with e
  injection e with e1 e2
  subst e1 e2
  rw [Nat.zero_add] at h0 h1
  exact ⟨h0, h1⟩
theorem logCells_get (l : List Acc) (k : Nat) (x : Acc) (hx : l[k]? = some x) (j : Nat) (u : Value) (hu : x.cells[j]? = some u) : (logCells l)[k * 6 + j]? = some u := by
  induction l generalizing k with
  | nil => simp at hx
  | cons y l ih =>
    have hj : j < 6 := by have := (List.getElem?_eq_some_iff.1 hu).1; simpa [Acc.cells] using this
    have e : logCells (y :: l) = y.cells ++ logCells l := by simp [logCells]
    rw [e]
    cases k with
    | zero =>
      simp at hx
      subst hx
      rw [Nat.zero_mul, Nat.zero_add, List.getElem?_append_left (by simpa [Acc.cells] using hj)]
      exact hu
    | succ k =>
      rw [List.getElem?_append_right (by simp [Acc.cells]; omega)]
      have := ih k (by simpa using hx)
      have e2 : (k + 1) * 6 + j - y.cells.length = k * 6 + j := by simp [Acc.cells]; omega
      rw [e2]
      exact this
theorem log_kind {w : World} {base n c : Nat} {A : Option Addr} {l : List Acc} (h : w.ownsRow base 81 6 (.slice A n c) n (logCells l)) (hn : l.length = n) {k : Nat} {e : Acc} (he : l[k]? = some e) : ∃ b, A = some ⟨b, 0, none⟩ ∧ w.cell? ⟨b, k * 6 + 2, none⟩ = some (.int .i64 e.kind) := by
  have hk := (List.getElem?_eq_some_iff.1 he).1
  obtain ⟨g, cc, e1, _, _⟩ := h.form (by omega)
  injection e1 with e1
  subst e1
  exact ⟨g, rfl, (World.ownsRow.cellAt h (k * 6 + 2) (by omega)).trans (logCells_get l k e he 2 _ rfl)⟩
theorem tl_step {α : Type} {l : List α} {a k : Nat} {e : α} (h : l[k]? = some e) (ha : a ≤ k) : (l.take (k + 1)).drop a = (l.take k).drop a ++ [e] := by
  have hk := (List.getElem?_eq_some_iff.1 h).1
  rw [show l.take (k + 1) = l.take k ++ [e] from by rw [List.take_add_one, h]; rfl, List.drop_append_of_le_length (by rw [List.length_take]; omega)]
theorem puts_out : ∀ (l : List Pr) (C : List Int) (pc : Nat), (∀ p, p ∈ l → p.cell.toNat ≠ pc) → (puts C l)[pc]? = C[pc]?
  | [], _, _, _ => rfl
  | y :: l, C, pc, h => by
    have e : puts C (y :: l) = puts (C.set y.cell.toNat y.x) l := rfl
    rw [e, puts_out l _ pc (fun p hp => h p (List.mem_cons_of_mem _ hp)), List.getElem?_set_ne (h y (List.mem_cons_self ..))]
theorem put_at' : ∀ (ws : List Pr) (C : List Int) (k : Nat) (p : Pr) (pc : Nat), (∀ p, p ∈ ws → 0 ≤ p.cell) → (ws.map Pr.cell).Nodup → ws[k]? = some p → p.cell = (pc : Int) → pc < C.length → (puts C ws)[pc]? = some p.x
  | [], _, k, _, _, _, _, h, _, _ => by simp at h
  | y :: l, C, 0, p, pc, h0, hn, h, hc, hl => by
    simp at h
    subst h
    have e : puts C (y :: l) = puts (C.set y.cell.toNat y.x) l := rfl
    have ht : y.cell.toNat = pc := by omega
    rw [List.map_cons, List.nodup_cons] at hn
    rw [e, puts_out l _ pc (fun q hq he => hn.1 (by
      have := h0 q (List.mem_cons_of_mem _ hq)
      rw [show y.cell = q.cell from by omega]
      exact List.mem_map_of_mem hq)), ht, List.getElem?_set_self hl]
  | y :: l, C, k + 1, p, pc, h0, hn, h, hc, hl => by
    rw [List.map_cons, List.nodup_cons] at hn
    exact put_at' l _ k p pc (fun q hq => h0 q (List.mem_cons_of_mem _ hq)) hn.2 (by simpa using h) hc (by rw [List.length_set]; exact hl)
theorem put_at {ws : List Pr} (h : WOk ws) {k : Nat} {p : Pr} (hp : ws[k]? = some p) {pc : Nat} (hc : p.cell = (pc : Int)) (C : List Int) (hl : pc < C.length) : (puts C ws)[pc]? = some p.x := put_at' ws C k p pc (fun q hq => (h.rng q hq).1) h.nod hp hc hl
theorem st_eq {a b : Int} (h : a = b) : Value.int .i64 a = .int .i64 b := by rw [h]
theorem wf_isU {n : Int} (h : (Lit.int IntKind.u64 n).wf = true) : isU n := by
  obtain ⟨m, hm, h8⟩ := wf_u64 h
  subst hm
  exact ⟨Int.natCast_nonneg _, by omega⟩
set_option maxRecDepth 100000 in
set_option maxHeartbeats 16000000 in
theorem walk (tag bs bias most : Int) (A : Option Addr) (n cap : Nat) (l : List ElPair) (B : Option Addr) (m mcap : Nat) (lo : List ElSea13) (M : Option Addr) (mn mc : Nat) (ms : List ElMov13) (w : World) (_ : (Lit.int IntKind.i64 tag).wf = true) (_ : (Lit.int IntKind.i64 bs).wf = true) (_ : (Lit.int IntKind.i64 bias).wf = true) (_ : (Lit.int IntKind.i64 most).wf = true) (hl : LstPair w A n cap l) (hlo : LstSea13 w B m mcap lo) (hms : LstMov13 w M mn mc ms) : Calls Tryz.prog 4 #[.int .i64 tag, .int .i64 bs, .int .i64 bias, .int .i64 most, .slice A n cap, .slice B m mcap, .slice M mn mc] w fun e w' => e = .returned (.bool true) ∧ Below w.heap.size w w' := by
  have HMS := Lib.hid hms
  have HL := Lib.hid hl
  have HLO := Lib.hid hlo
  have hok := cfgOf_ok tag bs bias most
  have h64 : (cfgOf tag bs bias most).cells = 64 := rfl
  have h8 : (cfgOf tag bs bias most).slots = 8 := rfl
  have HQ := Lib.hid (fun w' => config_any w' tag bs bias most)
  obtain ⟨c, hc⟩ : ∃ q, cfgOf tag bs bias most = q := ⟨_, rfl⟩
  rw [hc] at HQ hok h64 h8
  have HOK := Lib.hid (And.intro hok (And.intro h64 h8))
  clear hms hl hlo hc hok h64 h8
  go_enter Tryz.func4, Tryz.ntmps4
  go_wp2_with fail
  refine (awake13 _).mono ?_
  rintro e w1 ⟨rfl, hk⟩
  have HK := Lib.hid hk
  clear hk
  go_wp2_with fail
  refine (HQ.out _).mono ?_
  rintro e w2 ⟨rfl, hk⟩
  replace HK := Lib.hid (HK.out.trans hk (by simp))
  clear hk HQ
  go_wp2_with fail
  have hka : Keeps [] w2 (w2.alloc (.cells c.vals 30)) := by simp
  have hba : Blk (w2.alloc (.cells c.vals 30)) w2.heap.size 30 c.vals := Blk.new _ _ _
  refine (lives_any _ c HOK.out.1).mono ?_
  rintro e w3 ⟨z, jb, F, rfl, hs, hj, hlo⟩
  obtain ⟨wb, hwb⟩ : ∃ q, w2.alloc (.cells c.vals 30) = q := ⟨_, rfl⟩
  rw [hwb] at hka hba
  have hs' : SP wb w3 z F (spL c) := by rw [← hwb]; exact hs
  have hlo' : wb.heap.size ≤ jb := by rw [← hwb]; exact hlo
  obtain ⟨zc, hzc⟩ : ∃ q, w2.heap.size = q := ⟨_, rfl⟩
  rw [hzc] at hba
  try rw [hzc]
  have HKB := Lib.hid (HK.out.trans hka (by simp))
  have HBA := Lib.hid hba
  have HS := Lib.hid hs'
  have HJ := Lib.hid (And.intro hj hlo')
  clear hs hs' hj hlo hlo' hka hwb HK hba hzc
  have QS := Lib.hid (seats_any HS.out (spL_fit HOK.out.1) (by decide) (show (spL c).H.length = 8 from (spL_fit HOK.out.1).slots.trans (by rw [spL_c, HOK.out.2.2]; rfl)) B m mcap lo HLO.out.1 HLO.out.2.1 HLO.out.2.2.1 (fun w' hk => sea_keeps HLO.out ((HKB.out.trans HS.out.keep (by simp)).trans hk (fun q hq => .inr (Nat.le_trans HKB.out.size (HS.out.low q hq))))))
  go_wp2_with fail
  refine QS.out.mono ?_
  rintro e w4 ⟨rfl, F4, hs4, hk4, _⟩
  have hlay := seatsF_lay (spL c) lo (rnds m)
  have hfit : Fit 37 (seatsF (spL c) lo (rnds m)) := (seatsF_fit (spL_fit HOK.out.1) lo (rnds m)).wide (by unfold rnds; split <;> omega)
  have hwu := seatsF_wu (spL_wu c) lo (sea_ok HLO.out) (rnds m)
  obtain ⟨S, hS⟩ : ∃ q, seatsF (spL c) lo (rnds m) = q := ⟨_, rfl⟩
  rw [hS] at hs4 hlay hfit hwu
  have HJ4 : Hid (JAt w4 jb c 0 ∧ wb.heap.size ≤ jb) := ⟨Blk.keeps HJ.out.1 hk4 (HS.out.out HJ.out.1 (by decide)), HJ.out.2⟩
  have hcc : S.c = c := hlay.c.trans (spL_c c)
  have hlen : S.H.length = 8 := by have h1 := hfit.slots; rw [hcc, HOK.out.2.2] at h1; exact h1
  have hcl : S.cells.length = 64 := by have h1 := hfit.cells; rw [hcc, HOK.out.2.1] at h1; exact h1
  have hwl : S.W.length = 16 := by have h1 := hfit.words; omega
  have hg0 : S.gate = ⟨0, 0⟩ := hlay.g.trans (by rw [(spL_is HOK.out.1.2.1.1).2.2]; rfl)
  have hown : hd S.H 0 = hdL := by
    unfold hd
    have h1 := hlay.own
    have h2 := (nth_len (spL_nth HOK.out.1)).2.2
    simp only [Int.toNat_zero] at h2 ⊢
    rw [h1, h2]
    rfl
  have HS4 := Lib.hid hs4
  have HF := Lib.hid (And.intro hfit (And.intro hwu hcc))
  have hdc0 : dc S.H = 0 := by
    have h1 := (seatsF_oth (a := 0) (S := spL c) (Nat.zero_le _) lo (rnds m)).dc
    rw [hS, spL_dc HOK.out.1.2.1.1] at h1
    omega
  have HDC := Lib.hid hdc0
  have HO0 : Hid (S.H[0]? = some hdL) := by
    have h2 := (nth_len (spL_nth HOK.out.1)).2.2
    simp only [Int.toNat_zero] at h2
    unfold Hid
    rw [hlay.own]
    exact h2
  have HLEN := Lib.hid (And.intro hlen (And.intro hcl hwl))
  have HOWN := Lib.hid (And.intro hown hg0)
  clear hdc0 hs4 hk4 hlay hfit hwu hS hcc hlen hcl hwl hg0 hown QS HS HJ HLO
  have HLW := Lib.hid (pair_keeps HL.out (HKB.out.trans HS4.out.keep (by simp)))
  clear HL
  go_wp2_with fail
  refine (writes_any w4 A n cap l HLW.out).mono ?_
  rintro e w5 ⟨v5, rfl, ho5, hk5⟩
  obtain ⟨okw, lw⟩ := wsOf_ok l
  obtain ⟨gw, cw, rfl, _, _⟩ := ho5.form (by omega)
  obtain ⟨ws, hws⟩ : ∃ q, wsOf l = q := ⟨_, rfl⟩
  have hmay : mayE c 0 1 5 ws = 0 := hws ▸ wsOf_may l HOK.out.2.1 (by decide) (by decide) (by decide) (by decide) (by rw [HOK.out.2.2]; decide)
  rw [hws] at ho5 okw lw
  try rw [hws]
  obtain ⟨nw, hnw⟩ : ∃ q, ws.length = q := ⟨_, rfl⟩
  have hn1 : 1 ≤ nw := by omega
  have hn16 : nw ≤ 16 := by have := okw.len; omega
  rw [hnw] at ho5
  try rw [hnw]
  have HW5 := Lib.hid (And.intro ho5 (And.intro hmay (And.intro okw (And.intro hnw hk5))))
  clear ho5 hmay okw lw hws hnw hk5 HLW
  have hmay := HW5.out.2.1
  rw [← HF.out.2.2] at hmay
  have HS5 := Lib.hid (HS4.out.calm HW5.out.2.2.2.2)
  have HN := Lib.hid (cm_new (jb := jb) HS5.out HF.out.1 0 1 1 5 (some ⟨gw, 0, none⟩) cw ws (SlR.of_own (HW5.out.2.2.2.1.symm ▸ own_base HW5.out.1 (fun _ _ => Nat.zero_le _))) hmay)
  rw [HW5.out.2.2.2.1] at HN
  clear hmay
  go_wp2_with fail
  refine HN.out.mono ?_
  rintro e w8 ⟨cb, H, rfl, hm8, hfr8, hk8⟩
  have hty5 := own_tyOf HW5.out.1 (k := gw) rfl
  have hlt5 := HW5.out.1.lt gw rfl
  have hjty := Blk.tyOf HJ4.out.1
  have hjlt : jb < w4.heap.size := Blk.lt HJ4.out.1
  have hFlt : ∀ q, q ∈ F4 → q < w4.heap.size := HS4.out.lt
  have hwb4 := HS4.out.keep.size
  have hCS : CmS wb w8 z jb cb 8 37 S c 0 (Cm.new 0 1 1 5 ws) [gw] := CmS.new HS5.out (Blk.keeps HJ4.out.1 HW5.out.2.2.2.2 (by simp)) HJ4.out.2 HF.out.1 HF.out.2.1 HF.out.2.2 HLEN.out.1 (by decide) (by decide) HW5.out.2.1 hk8 hm8 hfr8 (fun q hq => by
    simp only [List.mem_cons, List.not_mem_nil, or_false] at hq
    subst hq
    refine ⟨by omega, hlt5.2, fun hx => ?_, fun t ht => by rw [hty5] at ht; injection ht with ht; subst ht; decide⟩
    simp only [List.mem_cons] at hx
    rcases hx with rfl | hx
    · omega
    · have := hFlt _ hx; omega)
  have HW8 := Lib.hid (own_base (own_keeps HW5.out.1 hk8 (by simp)) (fun _ _ => Nat.zero_le _))
  have HP := Lib.hid (show WOk ws ∧ ws.length = nw from ⟨HW5.out.2.2.1, HW5.out.2.2.2.1⟩)
  obtain ⟨f1, f2, f3, f4, f5⟩ := Bp.first (c := c) (C := S.cells) (ws := ws) (d := 0) rfl HF.out.2.2 HLEN.out.1 HO0.out HOWN.out.2 rfl HDC.out
  have QS := hCS.step (by decide)
  rw [f1] at QS
  have HQS := Lib.hid QS
  have HFS := Lib.hid (And.intro f2 (And.intro f3 (And.intro f4 f5)))
  have HC64 := Lib.hid HLEN.out.2.1
  generalize S.cells = C at *
  clear hm8 hfr8 hk8 hty5 hlt5 hjty hjlt hFlt hwb4 hCS HN HS5 HJ4 HS4 HW5 f1 f2 f3 f4 f5 QS
  go_wp2_with fail
  refine HQS.out.mono ?_
  rintro e w9 ⟨rfl, h9, hk9⟩
  have hrow9 := hk9.own HW8.out (fun q hq => by simp [Value.ownBlock] at hq; simp [hq])
  rw [HFS.out.2.2.1] at h9
  obtain ⟨la, hla⟩ : ∃ q, ((Cm.new 0 1 1 5 ws).step S 0).2.2.1.met.log.length = q := ⟨_, rfl⟩
  obtain ⟨S1, hS1⟩ : ∃ q, ((Cm.new 0 1 1 5 ws).step S 0).2.2.1 = q := ⟨_, rfl⟩
  obtain ⟨x1, hx1⟩ : ∃ q, ((Cm.new 0 1 1 5 ws).step S 0).2.1 = q := ⟨_, rfl⟩
  have hfs := HFS.out
  rw [hla, hS1, hx1] at hfs
  rw [hS1] at hla
  rw [hS1, hx1] at h9
  have QN := h9.run.number
  rw [hfs.1] at QN
  have HQN := Lib.hid QN
  have HBW : Hid (Bw wb w9 z jb cb c C ws la (ws.length + 31) 0 gw nw cw 38 false S1.met.done) := ⟨S1, 0, x1, h9, hrow9, hfs.2.2.2, hfs.2.1, rfl⟩
  have hlb : S1.met.log.length ≤ 38 := h9.fit.log
  obtain ⟨F9, hs9⟩ := h9.run.sp
  have QL := Lib.hid (fun w' (hk : Keeps [] w9 w') => sp_log (hs9.calm hk) (by omega))
  rw [hla] at hlb
  have hcell := hs9.cells.1
  have HS1 := Lib.hid (And.intro h9 hla)
  clear hla hS1 hx1 hfs h9 hk9 hrow9 hs9 HQS HFS QN HW8
  go_wp2_with fail
  refine HQN.out.mono ?_
  rintro e wq ⟨rfl, rfl⟩
  clear HQN
  have z0 : w9.cell? ⟨zc, 0, none⟩ = some (.int .i64 c.cells) := keeps_cell0 HBW.out.keep ((HBA.out.cell 0).trans rfl)
  have z1 : w9.cell? ⟨zc, 1, none⟩ = some (.int .i64 c.slots) := keeps_cell0 HBW.out.keep ((HBA.out.cell 1).trans rfl)
  have z2 : w9.cell? ⟨zc, 2, none⟩ = some (.int .i64 c.bits) := keeps_cell0 HBW.out.keep ((HBA.out.cell 2).trans rfl)
  have z3 : w9.cell? ⟨zc, 3, none⟩ = some (.int .i64 c.tag) := keeps_cell0 HBW.out.keep ((HBA.out.cell 3).trans rfl)
  have z4 : w9.cell? ⟨zc, 4, none⟩ = some (.int .i64 c.bias) := keeps_cell0 HBW.out.keep ((HBA.out.cell 4).trans rfl)
  have z5 : w9.cell? ⟨zc, 5, none⟩ = some (.int .i64 c.defer) := keeps_cell0 HBW.out.keep ((HBA.out.cell 5).trans rfl)
  have hmo : mostOf c nw = nw + 31 := by
    unfold mostOf
    rw [if_pos ⟨HOK.out.1, by omega, by omega⟩, HOK.out.2.2]
    omega
  have QM := cm_most w9 c nw
  rw [hmo] at QM
  have HQM := Lib.hid QM
  clear QM hmo
  go_wp2_with fail
  refine HQM.out.mono ?_
  rintro e w10 ⟨rfl, hk10⟩
  have HB10 := Lib.hid (HBW.out.calm hk10)
  have HK10 := Lib.hid hk10
  have hcell10 := keeps_cell0 hk10 hcell
  clear hk10 HQM z0 z1 z2 z3 z4 z5 hcell HBW
  go_wp2_with fail
  refine (QL.out _ HK10.out).mono ?_
  rintro e w11 ⟨v, rfl, hnr⟩
  rw [HS1.out.2] at hnr
  obtain ⟨hown11, hk11⟩ := hnr
  have HB11 := Lib.hid (HB10.out.calm hk11)
  obtain ⟨A11, c11, rfl⟩ := own_form hown11
  have hmn : mn ≤ 1048576 := HMS.out.2.2.1
  have HLB := Lib.hid hlb
  have hla0 : (0 : Int) ≤ (la : Int) := by omega
  obtain ⟨dn0, hdn0⟩ : ∃ q, S1.met.done = q := ⟨_, rfl⟩
  have hb11 := HB11.out
  rw [hdn0, HP.out.2] at hb11
  replace HB11 := Lib.hid hb11
  clear hown11 hk11 QL HS1 HB10 HK10 hcell10 hb11 hdn0 hlb
  go_wp2_with fail
  go_loopw [24, 25, 27, 28] (fun sv wv iv av wr => ∃ (i st r kk : Nat) (wt : Int) (o : Bool) (dn : Int), i ≤ mn + st ∧ st + r ≤ nw + 31 ∧ kk ≤ 38 + 2 * i ∧ iv = .int .i64 i ∧ sv = .int .i64 st ∧ wv = .int .i64 wt ∧ Bw wb wr z jb cb c C ws la r wt gw nw cw kk o dn) (fun sv _ iv _ _ => (mn - (intOf iv).toNat) + (nw + 31 - (intOf sv).toNat))
  case atStart => exact ⟨0, 0, nw + 31, 38, 0, false, dn0, by omega, by omega, by omega, rfl, rfl, rfl, HB11.out⟩
  case round =>
    obtain ⟨i, st, r, kk, wt, o, dn, hi, hst, hkk, rfl, rfl, rfl, hb⟩ := hrel
    have HBX := Lib.hid hb
    have QD := Lib.hid hb.done
    have i0 : (0 : Int) ≤ (i : Int) := by omega
    have hwi : IntKind.i64.wrap ((i : Int) + 1) = (i : Int) + 1 := by rw [IntKind.wrap_i64]; omega
    have hws : IntKind.i64.wrap ((st : Int) + 1) = (st : Int) + 1 := by rw [IntKind.wrap_i64]; omega
    clear hb HB11
    cases o with
    | false =>
      by_cases hlt : i < mn
      · have i1 : (i : Int) < (mn : Int) := by omega
        obtain ⟨gb, off, p, rfl, hp, hat⟩ := HMS.out.at_ (k := i) hlt
        have hat' := hat wr ((HKB.out).trans HBX.out.keep (by simp))
        have d0 := hat'.c0
        have d1 := hat'.c1
        have d2 := hat'.c2
        have d3 := hat'.c3
        have HU := Lib.hid (wf_isU hat'.w2)
        clear hat hat' hp
        cases hpg : p.go
        · as_aux_lemma =>
          rw [hpg] at d0
          have QM := HBX.out.move (by omega) p HU.out
          rw [hpg] at QM
          have HQM := Lib.hid QM
          clear QM HU
          go_wp2_with fail
          refine QD.out.mono ?_
          rintro e wq ⟨rfl, rfl⟩
          go_wp2_with fail
          refine HQM.out.mono ?_
          rintro e w12 ⟨rfl, dn', h12⟩
          have H12 := Lib.hid h12
          clear h12 HQM QD
          go_wp2_with fail
          exact ⟨⟨i + 1, st, r, kk + 1, wt, false, dn', by omega, by omega, by omega, by simp, rfl, rfl, H12.out⟩, by simp [intOf]; omega⟩
        · as_aux_lemma =>
          rw [hpg] at d0
          clear d1 d2 d3 HU
          go_wp2_with fail
          refine QD.out.mono ?_
          rintro e wq ⟨rfl, rfl⟩
          have QT := Lib.hid (HBX.out.turn 1)
          clear QD
          go_wp2_with fail
          refine QT.out.mono ?_
          rintro e w12 ⟨rfl, h12⟩
          have QS := Lib.hid (h12.step (by omega) (by have := HP.out.2; omega) (fun q hq => by have h1 := HP.out.1.rng q hq; rw [HC64.out]; omega))
          clear QT h12
          go_wp2_with fail
          refine QS.out.mono ?_
          rintro e w13 ⟨an, r', wt', o', rfl, hr', han, h13⟩
          have z0 := h13.cell
          have QN := Lib.hid h13.met
          have H13 := Lib.hid h13
          have hlim : ¬ ((nw : Int) + 31 < (st : Int) + 1) := by omega
          obtain ⟨st1, hst1⟩ : ∃ q : Nat, st + 1 = q := ⟨_, rfl⟩
          clear h13 QS
          rcases han with ⟨rfl, hw'⟩ | ⟨rfl, hw'⟩
          · as_aux_lemma =>
            subst hw'
            go_wp2_with fail
            refine QN.out.mono ?_
            rintro e wq ⟨rfl, rfl⟩
            go_wp2_with fail
            exact ⟨⟨i + 1, st + 1, r', kk + 1 + 1, wt', o', 1, by omega, by omega, by omega, by simp, by simp, rfl, H13.out⟩, by simp [intOf]; omega⟩
          · as_aux_lemma =>
            subst hw'
            have hwt := HBX.out.wt_rng
            have hww : IntKind.i64.wrap (wt + 1) = wt + 1 := by rw [IntKind.wrap_i64]; omega
            go_wp2_with fail
            refine QN.out.mono ?_
            rintro e wq ⟨rfl, rfl⟩
            go_wp2_with fail
            exact ⟨⟨i + 1, st + 1, r', kk + 1 + 1, wt + 1, o', 1, by omega, by omega, by omega, by simp, by simp, rfl, H13.out⟩, by simp [intOf]; omega⟩
      · as_aux_lemma =>
        have i1 : ¬ (i : Int) < (mn : Int) := by omega
        go_wp2_with fail
        refine QD.out.mono ?_
        rintro e wq ⟨rfl, rfl⟩
        have QT := Lib.hid (HBX.out.turn 1)
        clear QD
        go_wp2_with fail
        refine QT.out.mono ?_
        rintro e w12 ⟨rfl, h12⟩
        have QS := Lib.hid (h12.step (by omega) (by have := HP.out.2; omega) (fun q hq => by have h1 := HP.out.1.rng q hq; rw [HC64.out]; omega))
        clear QT h12
        go_wp2_with fail
        refine QS.out.mono ?_
        rintro e w13 ⟨an, r', wt', o', rfl, hr', han, h13⟩
        have z0 := h13.cell
        have QN := Lib.hid h13.met
        have H13 := Lib.hid h13
        have hlim : ¬ ((nw : Int) + 31 < (st : Int) + 1) := by omega
        obtain ⟨st1, hst1⟩ : ∃ q : Nat, st + 1 = q := ⟨_, rfl⟩
        clear h13 QS
        rcases han with ⟨rfl, hw'⟩ | ⟨rfl, hw'⟩
        · as_aux_lemma =>
          subst hw'
          go_wp2_with fail
          refine QN.out.mono ?_
          rintro e wq ⟨rfl, rfl⟩
          go_wp2_with fail
          exact ⟨⟨i + 1, st + 1, r', kk + 1 + 1, wt', o', 1, by omega, by omega, by omega, by simp, by simp, rfl, H13.out⟩, by simp [intOf]; omega⟩
        · as_aux_lemma =>
          subst hw'
          have hwt := HBX.out.wt_rng
          have hww : IntKind.i64.wrap (wt + 1) = wt + 1 := by rw [IntKind.wrap_i64]; omega
          go_wp2_with fail
          refine QN.out.mono ?_
          rintro e wq ⟨rfl, rfl⟩
          go_wp2_with fail
          exact ⟨⟨i + 1, st + 1, r', kk + 1 + 1, wt + 1, o', 1, by omega, by omega, by omega, by simp, by simp, rfl, H13.out⟩, by simp [intOf]; omega⟩
    | true =>
      have hwt := HBX.out.wt_rng
      obtain ⟨S2, d2, x2, hcs, hrow, hover, hg2, hend, hla2, hvl⟩ := HBX.out.fin
      have QE := hcs.run.end_
      rw [show x2.end_ = x2.e from by unfold Cm.end_; rw [if_pos hover]] at QE
      have HQE := Lib.hid QE
      obtain ⟨F2, hs2⟩ := hcs.run.sp
      have hlb : S2.met.log.length ≤ kk := hcs.fit.log
      have QL := sp_log hs2 (by omega)
      have hcell := hs2.cells.1
      obtain ⟨L, hL⟩ : ∃ q, S2.met.log.length = q := ⟨_, rfl⟩
      rw [hL] at QL hla2 hlb
      have HQL := Lib.hid QL
      have HC2 := Lib.hid hcs
      have HR2 := Lib.hid hrow
      have HE2 := Lib.hid (And.intro hend (And.intro hg2 (And.intro hvl hL)))
      have HOV := Lib.hid hover
      have hL9 : L ≤ 4194304 := by omega
      clear hcs hrow hover hg2 hend hvl hL hs2 QE QL hlb HBX
      go_wp2_with fail
      refine QD.out.mono ?_
      rintro e wq ⟨rfl, rfl⟩
      go_wp2_with fail
      refine HQE.out.mono ?_
      rintro e wq ⟨rfl, rfl⟩
      go_wp2_with fail
      refine HQL.out.mono ?_
      rintro e w14 ⟨v, rfl, hown14, hk14⟩
      obtain ⟨A14, c14, rfl⟩ := own_form hown14
      have HO14 := Lib.hid (own_base hown14 (fun _ _ => Nat.zero_le _))
      have HC14 := Lib.hid (HC2.out.calm hk14)
      have HR14 := Lib.hid (own_keeps HR2.out hk14 (by simp))
      clear hown14 hk14 HC2 HR2 HQL HQE QD hcell i0 hwi hws hi hst hkk
      go_wp2_with fail
      go_loopw [32, 34] (fun sv iv wx => ∃ (q s : Nat), la ≤ q ∧ q ≤ L ∧ iv = .int .i64 q ∧ sv = .int .i64 s ∧ s = ((S2.met.log.take q).drop la).countP (fun e => e.kind == 1) ∧ Keeps [] w14 wx) (fun _ iv _ => L - (intOf iv).toNat)
      case atStart => exact ⟨la, 0, Nat.le_refl _, hla2, rfl, rfl, by rw [List.drop_of_length_le (by rw [List.length_take]; omega)]; rfl, Keeps.refl _ _⟩
      case round =>
        obtain ⟨q, s, hq0, hq, rfl, rfl, hs, hkr⟩ := hrel
        have HKR := Lib.hid hkr
        have HS := Lib.hid hs
        clear hkr
        have i0 : (0 : Int) ≤ (q : Int) := by omega
        have hsq : s ≤ q := by
          have h1 := List.countP_le_length (p := fun e : Acc => e.kind == 1) (l := (S2.met.log.take q).drop la)
          rw [← hs, List.length_drop, List.length_take] at h1
          omega
        have hwi : IntKind.i64.wrap ((q : Int) + 1) = (q : Int) + 1 := by rw [IntKind.wrap_i64]; omega
        have hws : IntKind.i64.wrap ((s : Int) + 1) = (s : Int) + 1 := by rw [IntKind.wrap_i64]; omega
        clear hs
        by_cases hlt : q < L
        · as_aux_lemma =>
          have i1 : (q : Int) < (L : Int) := by omega
          obtain ⟨ev, hev⟩ : ∃ ev, S2.met.log[q]? = some ev := ⟨_, List.getElem?_eq_getElem (by have := HE2.out.2.2.2; omega)⟩
          obtain ⟨b, rfl, d0⟩ := log_kind (own_keeps HO14.out HKR.out (by simp)) HE2.out.2.2.2 hev
          have HTL := Lib.hid (tl_step hev hq0)
          clear hev
          by_cases hkd : ev.kind = 1
          · rw [hkd] at d0
            go_wp2_with fail
            exact ⟨⟨q + 1, s + 1, by omega, by omega, by simp, by simp, by rw [HTL.out, List.countP_append, ← HS.out]; simp [hkd], HKR.out⟩, by simp [intOf]; omega⟩
          · have hkd' : decide (ev.kind = 1) = false := decide_eq_false hkd
            go_wp2_with fail
            exact ⟨⟨q + 1, s, by omega, by omega, by simp, rfl, by rw [HTL.out, List.countP_append, ← HS.out]; simp [hkd], HKR.out⟩, by simp [intOf]; omega⟩
        · obtain rfl : L = q := by omega
          have hcn : (s : Nat) = cnt la S2 := by
            rw [HS.out, ← HE2.out.2.2.2, List.take_length]
            rfl
          have HCN := Lib.hid hcn
          have HC15 := Lib.hid (HC14.out.calm HKR.out)
          have HR15 := Lib.hid (own_keeps HR14.out HKR.out (by simp))
          have hv := HC15.out.view
          rw [HE2.out.2.1] at hv
          have HV := Lib.hid hv
          clear hv hcn HS HKR HC14 HR14 HO14 i0 hlt hwi hws
          go_wp2_with fail
          refine HV.out.mono ?_
          rintro e w16 ⟨a1, c1, a2, c2, rfl, h1, h2, _, _, hk16⟩
          have HC16 := Lib.hid (HC15.out.calm hk16)
          have HR16 := Lib.hid (own_keeps HR15.out hk16 (by simp))
          have HOS := Lib.hid h2
          have HWL : Hid (S2.W.length = 2 * S2.H.length ∧ S2.H.length = 8) := ⟨HC15.out.fit.words, HC15.out.len⟩
          clear h1 h2 hk16 HC15 HR15 HV
          have hfd2 : ∀ (x0 x1 x2 x3 : Value) (w : World), (Instr.field 58 (.agg #[x0, x1, x2, x3]) 2).run Tryz.prog w = .ok x3 w := fun x0 x1 x2 x3 w => by kernel_rfl
          go_wp2_with fail
          go_loopw [33, 36] (fun sv iv wx => ∃ (q t : Nat), 1 ≤ q ∧ q ≤ 8 ∧ iv = .int .i64 q ∧ sv = .int .i64 t ∧ t = ((S2.H.take q).drop 1).countP isD ∧ Keeps [] w16 wx) (fun _ iv _ => 8 - (intOf iv).toNat)
          case atStart => exact ⟨1, 0, Nat.le_refl _, by decide, rfl, rfl, by rw [List.drop_of_length_le (by rw [List.length_take]; omega)]; rfl, Keeps.refl _ _⟩
          case round =>
            obtain ⟨q, t, hq0, hq, rfl, rfl, ht, hkr⟩ := hrel
            have HKR := Lib.hid hkr
            have HT := Lib.hid ht
            clear hkr
            have i0 : (0 : Int) ≤ (q : Int) := by omega
            have htq : t ≤ q := by
              have h1 := List.countP_le_length (p := isD) (l := (S2.H.take q).drop 1)
              rw [← ht, List.length_drop, List.length_take] at h1
              omega
            have hwi : IntKind.i64.wrap ((q : Int) + 1) = (q : Int) + 1 := by rw [IntKind.wrap_i64]; omega
            have hws : IntKind.i64.wrap ((t : Int) + 1) = (t : Int) + 1 := by rw [IntKind.wrap_i64]; omega
            clear ht
            by_cases hlt : q < 8
            · as_aux_lemma =>
              have i1 : (q : Int) < 8 := by omega
              obtain ⟨m0, m1, m2, m3, m4, m5, m6, m7⟩ := slC_get S2.H S2.W q HWL.out.1 (by have := HWL.out.2; omega)
              have hc2 : ∀ i u, i < 64 → (slC S2.H S2.W)[i]? = some u → wr.cell? ⟨a2, i, none⟩ = some u := fun i u hi hu => keeps_cell0 HKR.out ((World.ownsRow.cellAt HOS.out i (by omega)).trans hu)
              have d4 := hc2 _ _ (by omega) m4
              have d5 := hc2 _ _ (by omega) m5
              obtain ⟨hx, hhx⟩ : ∃ hx, S2.H[q]? = some hx := ⟨_, List.getElem?_eq_getElem (by have := HWL.out.2; omega)⟩
              have hhd : hd S2.H (q : Int) = hx := by unfold hd; rw [Int.toNat_natCast, hhx]; rfl
              rw [hhd] at d4 d5
              have HTL := Lib.hid (tl_step hhx hq0)
              clear hc2 m0 m1 m2 m3 m4 m5 m6 m7 hhd hhx
              cases hdm : hx.doomed
              · rw [hdm] at d4
                go_wp2_with fail
                exact ⟨⟨q + 1, t, by omega, by omega, by simp, rfl, by rw [HTL.out, List.countP_append, ← HT.out]; simp [isD, hdm], HKR.out⟩, by simp [intOf]; omega⟩
              · rw [hdm] at d4
                by_cases hkd : hx.who = 1
                · rw [hkd] at d5
                  go_wp2_with fail
                  exact ⟨⟨q + 1, t + 1, by omega, by omega, by simp, by simp, by rw [HTL.out, List.countP_append, ← HT.out]; simp [isD, hdm, hkd], HKR.out⟩, by simp [intOf]; omega⟩
                · have hkd' : decide (hx.who = 1) = false := decide_eq_false hkd
                  go_wp2_with fail
                  exact ⟨⟨q + 1, t, by omega, by omega, by simp, rfl, by rw [HTL.out, List.countP_append, ← HT.out]; simp [isD, hdm, hkd], HKR.out⟩, by simp [intOf]; omega⟩
            · obtain rfl : q = 8 := by omega
              have hdn : (t : Nat) = dc S2.H := by
                rw [HT.out, ← HWL.out.2, List.take_length]
                rfl
              have HDN := Lib.hid hdn
              have HC17 := Lib.hid (HC16.out.calm HKR.out)
              have HR17 := Lib.hid (own_keeps HR16.out HKR.out (by simp))
              clear hdn HT HKR HC16 HR16 HOS i0 hlt hwi hws
              go_upto_region 43 with fail
              have HWT := Lib.hid hwt
              have hfd1 : ∀ (x0 x1 x2 x3 : Value) (w : World), (Instr.field 58 (.agg #[x0, x1, x2, x3]) 1).run Tryz.prog w = .ok (.agg #[x1, x2]) w := fun x0 x1 x2 x3 w => by kernel_rfl
              have q1 : ∀ w, (Op.equalIn 10000 48 (.agg #[.int .i64 2, .int .i64 0]) (.agg #[.int .i64 2, .int .i64 0])).run Tryz.prog w = .ok true w := fun w => by have := RowG.eq_run w ⟨2, 0⟩ ⟨2, 0⟩; rw [decide_eq_true rfl] at this; exact this
              have hl52 : decide ((52 : Int) < (nw : Int) + 31) = false := decide_eq_false (by omega)
              have QW := HC17.out.run.won
              have hv := HC17.out.view
              rw [HE2.out.2.1] at hv
              have HV := Lib.hid hv
              have HDV : Hid (t = dc S2.H) := HDN.out
              clear hv hfd2 hwt HDN
              rcases HE2.out.1 with ⟨e1, e2, e3, e4, e5, e6⟩ | ⟨e1, e2, e3, e4, ⟨f1, f2, f3, f4⟩ | ⟨f1, f2, f3⟩⟩
              · as_aux_lemma =>
                rw [e1]
                rw [e2] at QW
                have HQW := Lib.hid QW
                have hsn : s = nw := by rw [HCN.out, e4, HP.out.2]
                have HVT : Hid (t ≤ x2.victims.length) := by have h1 := HDV.out; unfold Hid; omega
                have HPU := Lib.hid e3
                subst hsn e6
                clear e1 e2 e3 e4 e5 QW
                go_wp2_with fail
                refine HQW.out.mono ?_
                rintro e wq ⟨rfl, rfl⟩
                go_wp2_with fail
                refine HV.out.mono ?_
                rintro e w18 ⟨a3, c3, a4, c4, rfl, _, _, _, _, hk18⟩
                have HC18 := Lib.hid (HC17.out.calm hk18)
                have HR18 := Lib.hid (own_base (own_keeps HR17.out hk18 (by simp)) (fun _ _ => Nat.zero_le _))
                clear hk18 HQW HV HC17 HR17
                go_wp2_with fail
                clear hl52 q1
                go_loopw [37] (fun v wx => ∃ k : Nat, k ≤ s ∧ v = .int .i64 k ∧ Keeps [] w18 wx) (fun v _ => s - (intOf v).toNat)
                case atStart => exact ⟨0, Nat.zero_le _, rfl, Keeps.refl _ _⟩
                case round =>
                  obtain ⟨k, hk, rfl, hkr⟩ := hrel
                  have HKR := Lib.hid hkr
                  clear hkr
                  have k0 : (0 : Int) ≤ (k : Int) := by omega
                  by_cases hlt : k < s
                  · as_aux_lemma =>
                    have k1 : (k : Int) < (s : Int) := by omega
                    obtain ⟨p, hp⟩ : ∃ p, ws[k]? = some p := ⟨_, List.getElem?_eq_getElem (by have := HP.out.2; omega)⟩
                    obtain ⟨d0, d1⟩ := prw (own_base (own_keeps HR18.out HKR.out (by simp)) (fun _ _ => Nat.zero_le _)) hp HP.out.2
                    have hrg := HP.out.1.rng p (List.mem_of_getElem? hp)
                    obtain ⟨pc, hpc, hpc64⟩ : ∃ q : Nat, p.cell = (q : Int) ∧ q < 64 := ⟨p.cell.toNat, by omega, by omega⟩
                    rw [hpc] at d0
                    have hput := put_at HP.out.1 hp hpc C (by rw [HC64.out]; exact hpc64)
                    have HC : Hid (∀ w', Keeps [] wr w' → w'.cell? ⟨gw, k * 2, none⟩ = some (.int .i64 (pc : Int)) ∧ w'.cell? ⟨gw, k * 2 + 1, none⟩ = some (.int .i64 p.x)) := fun w' hk => ⟨keeps_cell0 hk d0, keeps_cell0 hk d1⟩
                    have QVW : Hid (∀ w', Keeps [] wr w' → Calls Tryz.prog 25 #[PT z.p] w' fun e w'' => ∃ a1 c1 a2 c2, e = .returned (.agg #[.slice (some ⟨a1, 0, none⟩) 64 c1, .int .i64 2, .int .i64 0, .slice (some ⟨a2, 0, none⟩) 8 c2]) ∧ w''.cell? ⟨a1, pc, none⟩ = some (.int .i64 p.x) ∧ Keeps [] wr w'') := fun w' hk => by
                      have hcs := HC18.out.calm (HKR.out.trans hk (by simp))
                      have hv := hcs.view
                      rw [HE2.out.2.1, show S2.cells.length = 64 from by rw [HPU.out, puts_len, HC64.out]] at hv
                      refine hv.mono ?_
                      rintro e w'' ⟨a1, c1, a2, c2, rfl, h1, _, _, _, hk2⟩
                      exact ⟨a1, c1, a2, c2, rfl, ownC_cell h1 (by rw [HPU.out]; exact hput), hk.trans hk2 (by simp)⟩
                    have hkB : Keeps [] wr wr := Keeps.refl _ _
                    have hfd0 : ∀ (x0 x1 x2 x3 : Value) (w : World), (Instr.field 58 (.agg #[x0, x1, x2, x3]) 0).run Tryz.prog w = .ok x0 w := fun x0 x1 x2 x3 w => by kernel_rfl
                    have p0 : (0 : Int) ≤ (pc : Int) := by omega
                    have p1 : (pc : Int) < 64 := by omega
                    have HKR2 := Lib.hid HKR.out
                    clear hp hrg hpc hput d0 d1 HC18 HR18 HKR hfd1
                    go_wp2_with fail
                    refine wp_region_noPanic ?_
                    refine wp_region_L 99 (fun w' => w'.cell? ⟨gw, k * 2, none⟩ = some (.int .i64 (pc : Int)) ∧ w'.cell? ⟨gw, k * 2 + 1, none⟩ = some (.int .i64 p.x)) (by kernel_rfl) ?_
                    have hHeld := HC.out _ hkB.drew
                    refine wpAnyL_takeT (i := 0) (v := ?rv0) rfl (by kernel_rfl) (by kernel_rfl) (by kernel_rfl) (by kernel_rfl) (fun _ _ _ h => h) (Or.inl ⟨by rfl, ?ry0⟩) hHeld ?rr0
                    case ry0 => (intro w' hSw; (try dsimp only at hSw); go_simp; first | done | with_reducible rfl)
                    case' rr0 => (try simp only [Act.put, List.setIfInBounds_toArray, List.set_cons_zero, List.set_cons_succ])
                    refine wpAnyL_takeT (i := 3) (v := ?rv3) rfl (by kernel_rfl) (by kernel_rfl) (by kernel_rfl) (by kernel_rfl) (fun _ _ _ h => h) (Or.inl ⟨by rfl, ?ry3⟩) hHeld ?rr3
                    case ry3 => (intro w' hSw; (try dsimp only at hSw); go_simp; first | done | with_reducible rfl)
                    case' rr3 => (try simp only [Act.put, List.setIfInBounds_toArray, List.set_cons_zero, List.set_cons_succ])
                    refine wpAnyL_takeT (i := 4) (v := ?rv4) rfl (by kernel_rfl) (by kernel_rfl) (by kernel_rfl) (by kernel_rfl) (fun _ _ _ h => h) (Or.inl ⟨by rfl, ?ry4⟩) hHeld ?rr4
                    case ry4 => (intro w' hSw; (try dsimp only at hSw); go_simp; first | done | with_reducible rfl)
                    case' rr4 => (try simp only [Act.put, List.setIfInBounds_toArray, List.set_cons_zero, List.set_cons_succ])
                    refine wpAnyL_takeT (i := 5) (v := ?rv5) rfl (by kernel_rfl) (by kernel_rfl) (by kernel_rfl) (by kernel_rfl) (fun _ _ _ h => h) (Or.inl ⟨by rfl, ?ry5⟩) hHeld ?rr5
                    case ry5 => (intro w' hSw; (try dsimp only at hSw); go_simp; first | done | with_reducible rfl)
                    case' rr5 => (try simp only [Act.put, List.setIfInBounds_toArray, List.set_cons_zero, List.set_cons_succ])
                    refine wpAnyL_takeT (i := 6) (v := ?rv6) rfl (by kernel_rfl) (by kernel_rfl) (by kernel_rfl) (by kernel_rfl) (fun _ _ _ h => h) (Or.inl ⟨by rfl, ?ry6⟩) hHeld ?rr6
                    case ry6 => (intro w' hSw; (try dsimp only at hSw); go_simp; first | done | with_reducible rfl)
                    case' rr6 => (try simp only [Act.put, List.setIfInBounds_toArray, List.set_cons_zero, List.set_cons_succ])
                    refine wpAnyL_takeT (i := 7) (v := ?rv7) rfl (by kernel_rfl) (by kernel_rfl) (by kernel_rfl) (by kernel_rfl) (fun _ _ _ h => h) (Or.inl ⟨by rfl, ?ry7⟩) hHeld ?rr7
                    case ry7 => (intro w' hSw; (try dsimp only at hSw); go_simp; first | done | with_reducible rfl)
                    case' rr7 => (try simp only [Act.put, List.setIfInBounds_toArray, List.set_cons_zero, List.set_cons_succ])
                    refine wpAnyL_takeT (i := 10) (v := ?rv10) rfl (by kernel_rfl) (by kernel_rfl) (by kernel_rfl) (by kernel_rfl) (fun _ _ _ h => h) (Or.inl ⟨by rfl, ?ry10⟩) hHeld ?rr10
                    case ry10 => (intro w' hSw; (try dsimp only at hSw); go_simp; first | done | with_reducible rfl)
                    case' rr10 => (try simp only [Act.put, List.setIfInBounds_toArray, List.set_cons_zero, List.set_cons_succ])
                    refine wpAnyL_takeT (i := 11) (v := ?rv11) rfl (by kernel_rfl) (by kernel_rfl) (by kernel_rfl) (by kernel_rfl) (fun _ _ _ h => h) (Or.inl ⟨by rfl, ?ry11⟩) hHeld ?rr11
                    case ry11 => (intro w' hSw; (try dsimp only at hSw); go_simp; first | done | with_reducible rfl)
                    case' rr11 => (try simp only [Act.put, List.setIfInBounds_toArray, List.set_cons_zero, List.set_cons_succ])
                    refine wpAnyL_takeT (i := 12) (v := ?rv12) rfl (by kernel_rfl) (by kernel_rfl) (by kernel_rfl) (by kernel_rfl) (fun _ _ _ h => h) (Or.inl ⟨by rfl, ?ry12⟩) hHeld ?rr12
                    case ry12 => (intro w' hSw; (try dsimp only at hSw); go_simp; first | done | with_reducible rfl)
                    case' rr12 => (try simp only [Act.put, List.setIfInBounds_toArray, List.set_cons_zero, List.set_cons_succ])
                    refine wpAnyL_takeT (i := 13) (v := ?rv13) rfl (by kernel_rfl) (by kernel_rfl) (by kernel_rfl) (by kernel_rfl) (fun _ _ _ h => h) (Or.inl ⟨by rfl, ?ry13⟩) hHeld ?rr13
                    case ry13 => (intro w' hSw; (try dsimp only at hSw); go_simp; first | done | with_reducible rfl)
                    case' rr13 => (try simp only [Act.put, List.setIfInBounds_toArray, List.set_cons_zero, List.set_cons_succ])
                    refine wpAnyL_takeT (i := 14) (v := ?rv14) rfl (by kernel_rfl) (by kernel_rfl) (by kernel_rfl) (by kernel_rfl) (fun _ _ _ h => h) (Or.inl ⟨by rfl, ?ry14⟩) hHeld ?rr14
                    case ry14 => (intro w' hSw; (try dsimp only at hSw); go_simp; first | done | with_reducible rfl)
                    case' rr14 => (try simp only [Act.put, List.setIfInBounds_toArray, List.set_cons_zero, List.set_cons_succ])
                    refine wpAnyL_oneT (i := 1) (by kernel_rfl) rfl (fun K hK => ?_)
                    go_simp
                    go_at_call 25
                    refine (QVW.out _ hkB.drew).mono ?_
                    rintro e w5 ⟨a5, c5, a6, c6, rfl, yc, hk5⟩
                    have hS5 := HC.out _ hk5
                    go_simp
                    refine hK.out _ _ (fun _ => hS5) ?_
                    clear hK K
                    try simp only [Act.put, List.setIfInBounds_toArray, List.set_cons_zero, List.set_cons_succ]
                    refine wpAnyL_more (S2 := fun w' => (w'.cell? ⟨gw, k * 2, none⟩ = some (.int .i64 (pc : Int)) ∧ w'.cell? ⟨gw, k * 2 + 1, none⟩ = some (.int .i64 p.x)) ∧ w'.cell? ⟨a5, pc, none⟩ = some (.int .i64 p.x)) (fun w h => h.1) _ _ _ _ ?_
                    replace hHeld := And.intro hS5 yc
                    clear hS5
                    refine wpAnyL_takeT (i := 2) (v := ?rvb2) rfl (by kernel_rfl) (by kernel_rfl) (by kernel_rfl) (by kernel_rfl) (fun _ _ _ h => h) (Or.inl ⟨by rfl, ?ryb2⟩) hHeld ?rrb2
                    case ryb2 => (intro w' hSw; (try dsimp only at hSw); go_simp; first | done | with_reducible rfl)
                    case' rrb2 => (try simp only [Act.put, List.setIfInBounds_toArray, List.set_cons_zero, List.set_cons_succ])
                    refine wpAnyL_takeT (i := 8) (v := ?rvb8) rfl (by kernel_rfl) (by kernel_rfl) (by kernel_rfl) (by kernel_rfl) (fun _ _ _ h => h) (Or.inl ⟨by rfl, ?ryb8⟩) hHeld ?rrb8
                    case ryb8 => (intro w' hSw; (try dsimp only at hSw); go_simp; first | done | with_reducible rfl)
                    case' rrb8 => (try simp only [Act.put, List.setIfInBounds_toArray, List.set_cons_zero, List.set_cons_succ])
                    refine wpAnyL_takeT (i := 9) (v := ?rvb9) rfl (by kernel_rfl) (by kernel_rfl) (by kernel_rfl) (by kernel_rfl) (fun _ _ _ h => h) (Or.inl ⟨by rfl, ?ryb9⟩) hHeld ?rrb9
                    case ryb9 => (intro w' hSw; (try dsimp only at hSw); go_simp; first | done | with_reducible rfl)
                    case' rrb9 => (try simp only [Act.put, List.setIfInBounds_toArray, List.set_cons_zero, List.set_cons_succ])
                    refine wpAnyL_takeT (i := 15) (v := ?rvb15) rfl (by kernel_rfl) (by kernel_rfl) (by kernel_rfl) (by kernel_rfl) (fun _ _ _ h => h) (Or.inl ⟨by rfl, ?ryb15⟩) hHeld ?rrb15
                    case ryb15 => (intro w' hSw; (try dsimp only at hSw); go_simp; first | done | with_reducible rfl)
                    case' rrb15 => (try simp only [Act.put, List.setIfInBounds_toArray, List.set_cons_zero, List.set_cons_succ])
                    refine wpAnyL_done (by kernel_rfl) ?_ _
                    refine NoPanic.normal ?_
                    go_wp2_with fail
                    exact ⟨⟨k + 1, by omega, by simp, HKR2.out.trans hk5 (by simp)⟩, by simp [intOf]; omega⟩
                  · obtain rfl : s = k := by omega
                    have QV := HC18.out.calm HKR.out |>.run.victims
                    obtain ⟨V, hV⟩ : ∃ q, x2.victims.length = q := ⟨_, rfl⟩
                    rw [hV] at QV
                    have hle : (t : Int) ≤ (V : Int) := by have := HVT.out; omega
                    have HQV := Lib.hid QV
                    have HKX := Lib.hid (HC18.out.keep.trans HKR.out (by simp))
                    clear hlt hk QV hV HC18
                    go_wp2_with fail
                    refine HQV.out.mono ?_
                    rintro e w19 ⟨vv, rfl, hown, hk19, _⟩
                    obtain ⟨A9, c9, rfl⟩ := own_form hown
                    have HK19 := Lib.hid hk19
                    clear hown hk19
                    go_wp2_with fail
                    go_ret
                    exact ⟨rfl, ((HKB.out.trans HKX.out (by simp)).trans HK19.out (by simp)).below (by simp) (Nat.le_refl _)⟩
              · as_aux_lemma =>
                rw [f1]
                rw [e1] at QW
                have HQW := Lib.hid QW
                have hsn : s = 0 := by rw [HCN.out, e3]
                have htn : t = 0 := by rw [HDV.out, e4]
                have HTG := Lib.hid (And.intro f2 f3)
                subst hsn htn f4
                clear e1 e2 e3 e4 f1 f2 f3 QW HCN HDV HWT
                go_wp2_with fail
                refine HQW.out.mono ?_
                rintro e wq ⟨rfl, rfl⟩
                go_wp2_with fail
                refine HV.out.mono ?_
                rintro e w18 ⟨a3, c3, a4, c4, rfl, _, _, _, _, hk18⟩
                have HC18 := Lib.hid (HC17.out.calm hk18)
                clear hk18 HQW HV
                go_upto_region 46 with fail
                have z3 : w18.cell? ⟨zc, 3, none⟩ = some (.int .i64 2) := keeps_cell0 HC18.out.keep ((HBA.out.cell 3).trans ((show c.vals[3]? = some (.int .i64 c.tag) from rfl).trans (by rw [HTG.out.1])))
                have z4 : w18.cell? ⟨zc, 4, none⟩ = some (.int .i64 c.bias) := keeps_cell0 HC18.out.keep ((HBA.out.cell 4).trans rfl)
                obtain ⟨V, hV⟩ : ∃ q, x2.victims.length = q := ⟨_, rfl⟩
                have QV : Hid (∀ w', Keeps [] w18 w' → Calls Tryz.prog 33 #[PT cb] w' fun e w'' => ∃ A9 c9, e = .returned (.slice A9 V c9) ∧ Keeps [] w18 w'') := fun w' hk => by
                  refine (HC18.out.calm hk).run.victims.mono ?_
                  rintro e w'' ⟨v, rfl, hown, hk2, _⟩
                  obtain ⟨A9, c9, rfl⟩ := own_form hown
                  exact ⟨A9, c9, by rw [hV], hk.trans hk2 (by simp)⟩
                have hgt : c.bias < (V : Int) := hV ▸ HTG.out.2
                have HKX := Lib.hid HC18.out.keep
                have hkB : Keeps [] w18 w18 := Keeps.refl _ _
                clear hV HC18 HTG HE2
                have HC : Hid (∀ w', Keeps [] w18 w' → w'.cell? ⟨zc, 3, none⟩ = some (.int .i64 2) ∧ w'.cell? ⟨zc, 4, none⟩ = some (.int .i64 c.bias)) := fun w' hk => ⟨keeps_cell0 hk z3, keeps_cell0 hk z4⟩
                have hgd : decide (c.bias < (V : Int)) = true := decide_eq_true hgt
                clear z3 z4
                refine wp_region_noPanic ?_
                refine wp_region_L 99 (fun w' => w'.cell? ⟨zc, 3, none⟩ = some (.int .i64 2) ∧ w'.cell? ⟨zc, 4, none⟩ = some (.int .i64 c.bias)) (by kernel_rfl) ?_
                have hHeld := HC.out _ hkB.drew
                refine wpAnyL_takeT (i := 0) (v := ?rvc0) rfl (by kernel_rfl) (by kernel_rfl) (by kernel_rfl) (by kernel_rfl) (fun _ _ _ h => h) (Or.inl ⟨by rfl, ?ryc0⟩) hHeld ?rrc0
                case ryc0 => (intro w' hSw; (try dsimp only at hSw); go_simp; first | done | with_reducible rfl)
                case' rrc0 => (try simp only [Act.put, List.setIfInBounds_toArray, List.set_cons_zero, List.set_cons_succ])
                refine wpAnyL_takeT (i := 1) (v := ?rvc1) rfl (by kernel_rfl) (by kernel_rfl) (by kernel_rfl) (by kernel_rfl) (fun _ _ _ h => h) (Or.inl ⟨by rfl, ?ryc1⟩) hHeld ?rrc1
                case ryc1 => (intro w' hSw; (try dsimp only at hSw); go_simp; first | done | with_reducible rfl)
                case' rrc1 => (try simp only [Act.put, List.setIfInBounds_toArray, List.set_cons_zero, List.set_cons_succ])
                refine wpAnyL_takeT (i := 2) (v := ?rvc2) rfl (by kernel_rfl) (by kernel_rfl) (by kernel_rfl) (by kernel_rfl) (fun _ _ _ h => h) (Or.inl ⟨by rfl, ?ryc2⟩) hHeld ?rrc2
                case ryc2 => (intro w' hSw; (try dsimp only at hSw); go_simp; first | done | with_reducible rfl)
                case' rrc2 => (try simp only [Act.put, List.setIfInBounds_toArray, List.set_cons_zero, List.set_cons_succ])
                refine wpAnyL_takeT (i := 3) (v := ?rvc3) rfl (by kernel_rfl) (by kernel_rfl) (by kernel_rfl) (by kernel_rfl) (fun _ _ _ h => h) (Or.inl ⟨by rfl, ?ryc3⟩) hHeld ?rrc3
                case ryc3 => (intro w' hSw; (try dsimp only at hSw); go_simp; first | done | with_reducible rfl)
                case' rrc3 => (try simp only [Act.put, List.setIfInBounds_toArray, List.set_cons_zero, List.set_cons_succ])
                refine wpAnyL_takeT (i := 4) (v := ?rvc4) rfl (by kernel_rfl) (by kernel_rfl) (by kernel_rfl) (by kernel_rfl) (fun _ _ _ h => h) (Or.inl ⟨by rfl, ?ryc4⟩) hHeld ?rrc4
                case ryc4 => (intro w' hSw; (try dsimp only at hSw); go_simp; first | done | with_reducible rfl)
                case' rrc4 => (try simp only [Act.put, List.setIfInBounds_toArray, List.set_cons_zero, List.set_cons_succ])
                refine wpAnyL_takeT (i := 5) (v := ?rvc5) rfl (by kernel_rfl) (by kernel_rfl) (by kernel_rfl) (by kernel_rfl) (fun _ _ _ h => h) (Or.inl ⟨by rfl, ?ryc5⟩) hHeld ?rrc5
                case ryc5 => (intro w' hSw; (try dsimp only at hSw); go_simp; first | done | with_reducible rfl)
                case' rrc5 => (try simp only [Act.put, List.setIfInBounds_toArray, List.set_cons_zero, List.set_cons_succ])
                refine wpAnyL_takeT (i := 6) (v := ?rvc6) rfl (by kernel_rfl) (by kernel_rfl) (by kernel_rfl) (by kernel_rfl) (fun _ _ _ h => h) (Or.inl ⟨by rfl, ?ryc6⟩) hHeld ?rrc6
                case ryc6 => (intro w' hSw; (try dsimp only at hSw); go_simp; first | done | with_reducible rfl)
                case' rrc6 => (try simp only [Act.put, List.setIfInBounds_toArray, List.set_cons_zero, List.set_cons_succ])
                refine wpAnyL_takeT (i := 7) (v := ?rvc7) rfl (by kernel_rfl) (by kernel_rfl) (by kernel_rfl) (by kernel_rfl) (fun _ _ _ h => h) (Or.inl ⟨by rfl, ?ryc7⟩) hHeld ?rrc7
                case ryc7 => (intro w' hSw; (try dsimp only at hSw); go_simp; first | done | with_reducible rfl)
                case' rrc7 => (try simp only [Act.put, List.setIfInBounds_toArray, List.set_cons_zero, List.set_cons_succ])
                refine wpAnyL_takeT (i := 8) (v := ?rvc8) rfl (by kernel_rfl) (by kernel_rfl) (by kernel_rfl) (by kernel_rfl) (fun _ _ _ h => h) (Or.inl ⟨by rfl, ?ryc8⟩) hHeld ?rrc8
                case ryc8 => (intro w' hSw; (try dsimp only at hSw); go_simp; first | done | with_reducible rfl)
                case' rrc8 => (try simp only [Act.put, List.setIfInBounds_toArray, List.set_cons_zero, List.set_cons_succ])
                refine wpAnyL_takeT (i := 9) (v := ?rvc9) rfl (by kernel_rfl) (by kernel_rfl) (by kernel_rfl) (by kernel_rfl) (fun _ _ _ h => h) (Or.inl ⟨by rfl, ?ryc9⟩) hHeld ?rrc9
                case ryc9 => (intro w' hSw; (try dsimp only at hSw); go_simp; first | done | with_reducible rfl)
                case' rrc9 => (try simp only [Act.put, List.setIfInBounds_toArray, List.set_cons_zero, List.set_cons_succ])
                refine wpAnyL_takeT (i := 10) (v := ?rvc10) rfl (by kernel_rfl) (by kernel_rfl) (by kernel_rfl) (by kernel_rfl) (fun _ _ _ h => h) (Or.inl ⟨by rfl, ?ryc10⟩) hHeld ?rrc10
                case ryc10 => (intro w' hSw; (try dsimp only at hSw); go_simp; first | done | with_reducible rfl)
                case' rrc10 => (try simp only [Act.put, List.setIfInBounds_toArray, List.set_cons_zero, List.set_cons_succ])
                refine wpAnyL_takeT (i := 11) (v := ?rvc11) rfl (by kernel_rfl) (by kernel_rfl) (by kernel_rfl) (by kernel_rfl) (fun _ _ _ h => h) (Or.inl ⟨by rfl, ?ryc11⟩) hHeld ?rrc11
                case ryc11 => (intro w' hSw; (try dsimp only at hSw); go_simp; first | done | with_reducible rfl)
                case' rrc11 => (try simp only [Act.put, List.setIfInBounds_toArray, List.set_cons_zero, List.set_cons_succ])
                refine wpAnyL_takeT (i := 12) (v := ?rvc12) rfl (by kernel_rfl) (by kernel_rfl) (by kernel_rfl) (by kernel_rfl) (fun _ _ _ h => h) (Or.inl ⟨by rfl, ?ryc12⟩) hHeld ?rrc12
                case ryc12 => (intro w' hSw; (try dsimp only at hSw); go_simp; first | done | with_reducible rfl)
                case' rrc12 => (try simp only [Act.put, List.setIfInBounds_toArray, List.set_cons_zero, List.set_cons_succ])
                refine wpAnyL_takeT (i := 13) (v := ?rvc13) rfl (by kernel_rfl) (by kernel_rfl) (by kernel_rfl) (by kernel_rfl) (fun _ _ _ h => h) (Or.inl ⟨by rfl, ?ryc13⟩) hHeld ?rrc13
                case ryc13 => (intro w' hSw; (try dsimp only at hSw); go_simp; first | done | with_reducible rfl)
                case' rrc13 => (try simp only [Act.put, List.setIfInBounds_toArray, List.set_cons_zero, List.set_cons_succ])
                refine wpAnyL_takeT (i := 14) (v := ?rvc14) rfl (by kernel_rfl) (by kernel_rfl) (by kernel_rfl) (by kernel_rfl) (fun _ _ _ h => h) (Or.inl ⟨by rfl, ?ryc14⟩) hHeld ?rrc14
                case ryc14 => (intro w' hSw; (try dsimp only at hSw); go_simp; first | done | with_reducible rfl)
                case' rrc14 => (try simp only [Act.put, List.setIfInBounds_toArray, List.set_cons_zero, List.set_cons_succ])
                refine wpAnyL_takeT (i := 15) (v := ?rvc15) rfl (by kernel_rfl) (by kernel_rfl) (by kernel_rfl) (by kernel_rfl) (fun _ _ _ h => h) (Or.inl ⟨by rfl, ?ryc15⟩) hHeld ?rrc15
                case ryc15 => (intro w' hSw; (try dsimp only at hSw); go_simp; first | done | with_reducible rfl)
                case' rrc15 => (try simp only [Act.put, List.setIfInBounds_toArray, List.set_cons_zero, List.set_cons_succ])
                refine wpAnyL_takeT (i := 16) (v := ?rvc16) rfl (by kernel_rfl) (by kernel_rfl) (by kernel_rfl) (by kernel_rfl) (fun _ _ _ h => h) (Or.inl ⟨by rfl, ?ryc16⟩) hHeld ?rrc16
                case ryc16 => (intro w' hSw; (try dsimp only at hSw); go_simp; first | done | with_reducible rfl)
                case' rrc16 => (try simp only [Act.put, List.setIfInBounds_toArray, List.set_cons_zero, List.set_cons_succ])
                refine wpAnyL_takeT (i := 17) (v := ?rvc17) rfl (by kernel_rfl) (by kernel_rfl) (by kernel_rfl) (by kernel_rfl) (fun _ _ _ h => h) (Or.inl ⟨by rfl, ?ryc17⟩) hHeld ?rrc17
                case ryc17 => (intro w' hSw; (try dsimp only at hSw); go_simp; first | done | with_reducible rfl)
                case' rrc17 => (try simp only [Act.put, List.setIfInBounds_toArray, List.set_cons_zero, List.set_cons_succ])
                refine wpAnyL_takeT (i := 18) (v := ?rvc18) rfl (by kernel_rfl) (by kernel_rfl) (by kernel_rfl) (by kernel_rfl) (fun _ _ _ h => h) (Or.inl ⟨by rfl, ?ryc18⟩) hHeld ?rrc18
                case ryc18 => (intro w' hSw; (try dsimp only at hSw); go_simp; first | done | with_reducible rfl)
                case' rrc18 => (try simp only [Act.put, List.setIfInBounds_toArray, List.set_cons_zero, List.set_cons_succ])
                refine wpAnyL_takeT (i := 19) (v := ?rvc19) rfl (by kernel_rfl) (by kernel_rfl) (by kernel_rfl) (by kernel_rfl) (fun _ _ _ h => h) (Or.inl ⟨by rfl, ?ryc19⟩) hHeld ?rrc19
                case ryc19 => (intro w' hSw; (try dsimp only at hSw); go_simp; first | done | with_reducible rfl)
                case' rrc19 => (try simp only [Act.put, List.setIfInBounds_toArray, List.set_cons_zero, List.set_cons_succ])
                refine wpAnyL_takeT (i := 20) (v := ?rvc20) rfl (by kernel_rfl) (by kernel_rfl) (by kernel_rfl) (by kernel_rfl) (fun _ _ _ h => h) (Or.inl ⟨by rfl, ?ryc20⟩) hHeld ?rrc20
                case ryc20 => (intro w' hSw; (try dsimp only at hSw); go_simp; first | done | with_reducible rfl)
                case' rrc20 => (try simp only [Act.put, List.setIfInBounds_toArray, List.set_cons_zero, List.set_cons_succ])
                refine wpAnyL_takeT (i := 23) (v := ?rvc23) rfl (by kernel_rfl) (by kernel_rfl) (by kernel_rfl) (by kernel_rfl) (fun _ _ _ h => h) (Or.inl ⟨by rfl, ?ryc23⟩) hHeld ?rrc23
                case ryc23 => (intro w' hSw; (try dsimp only at hSw); go_simp; first | done | with_reducible rfl)
                case' rrc23 => (try simp only [Act.put, List.setIfInBounds_toArray, List.set_cons_zero, List.set_cons_succ])
                refine wpAnyL_takeT (i := 24) (v := ?rvc24) rfl (by kernel_rfl) (by kernel_rfl) (by kernel_rfl) (by kernel_rfl) (fun _ _ _ h => h) (Or.inl ⟨by rfl, ?ryc24⟩) hHeld ?rrc24
                case ryc24 => (intro w' hSw; (try dsimp only at hSw); go_simp; first | done | with_reducible rfl)
                case' rrc24 => (try simp only [Act.put, List.setIfInBounds_toArray, List.set_cons_zero, List.set_cons_succ])
                refine wpAnyL_oneT (i := 21) (by kernel_rfl) rfl (fun K hK => ?_)
                go_simp
                go_at_call 33
                refine (QV.out _ hkB.drew).mono ?_
                rintro e w5 ⟨A9, c9, rfl, hk5⟩
                have hS5 := HC.out _ hk5
                go_simp
                refine hK.out _ _ (fun _ => hS5) ?_
                clear hK K
                try simp only [Act.put, List.setIfInBounds_toArray, List.set_cons_zero, List.set_cons_succ]
                replace hHeld := hS5
                clear hS5
                refine wpAnyL_takeT (i := 22) (v := ?rvd22) rfl (by kernel_rfl) (by kernel_rfl) (by kernel_rfl) (by kernel_rfl) (fun _ _ _ h => h) (Or.inl ⟨by rfl, ?ryd22⟩) hHeld ?rrd22
                case ryd22 => (intro w' hSw; (try dsimp only at hSw); go_simp; first | done | with_reducible rfl)
                case' rrd22 => (try simp only [Act.put, List.setIfInBounds_toArray, List.set_cons_zero, List.set_cons_succ])
                refine wpAnyL_takeT (i := 25) (v := ?rvd25) rfl (by kernel_rfl) (by kernel_rfl) (by kernel_rfl) (by kernel_rfl) (fun _ _ _ h => h) (Or.inl ⟨by rfl, ?ryd25⟩) hHeld ?rrd25
                case ryd25 => (intro w' hSw; (try dsimp only at hSw); go_simp; first | done | with_reducible rfl)
                case' rrd25 => (try simp only [Act.put, List.setIfInBounds_toArray, List.set_cons_zero, List.set_cons_succ])
                try simp only [hgd]
                refine wpAnyL_takeT (i := 26) (v := ?rvd26) rfl (by kernel_rfl) (by kernel_rfl) (by kernel_rfl) (by kernel_rfl) (fun _ _ _ h => h) (Or.inl ⟨by rfl, ?ryd26⟩) hHeld ?rrd26
                case ryd26 => (intro w' hSw; (try dsimp only at hSw); go_simp; first | done | with_reducible rfl)
                case' rrd26 => (try simp only [Act.put, List.setIfInBounds_toArray, List.set_cons_zero, List.set_cons_succ])
                refine wpAnyL_takeT (i := 27) (v := ?rvd27) rfl (by kernel_rfl) (by kernel_rfl) (by kernel_rfl) (by kernel_rfl) (fun _ _ _ h => h) (Or.inl ⟨by rfl, ?ryd27⟩) hHeld ?rrd27
                case ryd27 => (intro w' hSw; (try dsimp only at hSw); go_simp; first | done | with_reducible rfl)
                case' rrd27 => (try simp only [Act.put, List.setIfInBounds_toArray, List.set_cons_zero, List.set_cons_succ])
                refine wpAnyL_takeT (i := 28) (v := undef) rfl (by kernel_rfl) (by kernel_rfl) (by kernel_rfl) (by kernel_rfl) (fun _ _ _ h => h) (Or.inr ⟨by rfl, rfl⟩) hHeld ?rrs28
                case' rrs28 => (try simp only [Act.put, List.setIfInBounds_toArray, List.set_cons_zero, List.set_cons_succ])
                refine wpAnyL_takeT (i := 29) (v := undef) rfl (by kernel_rfl) (by kernel_rfl) (by kernel_rfl) (by kernel_rfl) (fun _ _ _ h => h) (Or.inr ⟨by rfl, rfl⟩) hHeld ?rrs29
                case' rrs29 => (try simp only [Act.put, List.setIfInBounds_toArray, List.set_cons_zero, List.set_cons_succ])
                refine wpAnyL_takeT (i := 30) (v := undef) rfl (by kernel_rfl) (by kernel_rfl) (by kernel_rfl) (by kernel_rfl) (fun _ _ _ h => h) (Or.inr ⟨by rfl, rfl⟩) hHeld ?rrs30
                case' rrs30 => (try simp only [Act.put, List.setIfInBounds_toArray, List.set_cons_zero, List.set_cons_succ])
                refine wpAnyL_takeT (i := 31) (v := undef) rfl (by kernel_rfl) (by kernel_rfl) (by kernel_rfl) (by kernel_rfl) (fun _ _ _ h => h) (Or.inr ⟨by rfl, rfl⟩) hHeld ?rrs31
                case' rrs31 => (try simp only [Act.put, List.setIfInBounds_toArray, List.set_cons_zero, List.set_cons_succ])
                refine wpAnyL_takeT (i := 32) (v := undef) rfl (by kernel_rfl) (by kernel_rfl) (by kernel_rfl) (by kernel_rfl) (fun _ _ _ h => h) (Or.inr ⟨by rfl, rfl⟩) hHeld ?rrs32
                case' rrs32 => (try simp only [Act.put, List.setIfInBounds_toArray, List.set_cons_zero, List.set_cons_succ])
                refine wpAnyL_takeT (i := 33) (v := undef) rfl (by kernel_rfl) (by kernel_rfl) (by kernel_rfl) (by kernel_rfl) (fun _ _ _ h => h) (Or.inr ⟨by rfl, rfl⟩) hHeld ?rrs33
                case' rrs33 => (try simp only [Act.put, List.setIfInBounds_toArray, List.set_cons_zero, List.set_cons_succ])
                refine wpAnyL_takeT (i := 34) (v := undef) rfl (by kernel_rfl) (by kernel_rfl) (by kernel_rfl) (by kernel_rfl) (fun _ _ _ h => h) (Or.inr ⟨by rfl, rfl⟩) hHeld ?rrs34
                case' rrs34 => (try simp only [Act.put, List.setIfInBounds_toArray, List.set_cons_zero, List.set_cons_succ])
                refine wpAnyL_takeT (i := 35) (v := ?rvd35) rfl (by kernel_rfl) (by kernel_rfl) (by kernel_rfl) (by kernel_rfl) (fun _ _ _ h => h) (Or.inl ⟨by rfl, ?ryd35⟩) hHeld ?rrd35
                case ryd35 => (intro w' hSw; (try dsimp only at hSw); go_simp; first | done | with_reducible rfl)
                case' rrd35 => (try simp only [Act.put, List.setIfInBounds_toArray, List.set_cons_zero, List.set_cons_succ])
                refine wpAnyL_takeT (i := 36) (v := ?rvd36) rfl (by kernel_rfl) (by kernel_rfl) (by kernel_rfl) (by kernel_rfl) (fun _ _ _ h => h) (Or.inl ⟨by rfl, ?ryd36⟩) hHeld ?rrd36
                case ryd36 => (intro w' hSw; (try dsimp only at hSw); go_simp; first | done | with_reducible rfl)
                case' rrd36 => (try simp only [Act.put, List.setIfInBounds_toArray, List.set_cons_zero, List.set_cons_succ])
                refine wpAnyL_takeT (i := 37) (v := ?rvd37) rfl (by kernel_rfl) (by kernel_rfl) (by kernel_rfl) (by kernel_rfl) (fun _ _ _ h => h) (Or.inl ⟨by rfl, ?ryd37⟩) hHeld ?rrd37
                case ryd37 => (intro w' hSw; (try dsimp only at hSw); go_simp; first | done | with_reducible rfl)
                case' rrd37 => (try simp only [Act.put, List.setIfInBounds_toArray, List.set_cons_zero, List.set_cons_succ])
                refine wpAnyL_done (by kernel_rfl) ?_ _
                refine NoPanic.normal ?_
                go_wp2_with fail
                go_ret
                exact ⟨rfl, ((HKB.out.trans HKX.out (by simp)).trans hk5 (by simp)).below (by simp) (Nat.le_refl _)⟩
              · as_aux_lemma =>
                rw [f1]
                rw [e1] at QW
                have HQW := Lib.hid QW
                have hsn : s = 0 := by rw [HCN.out, e3]
                have htn : t = 0 := by rw [HDV.out, e4]
                have HTG := Lib.hid f2
                subst hsn htn f3
                clear e1 e2 e3 e4 f1 f2 QW HCN HDV HWT
                go_wp2_with fail
                refine HQW.out.mono ?_
                rintro e wq ⟨rfl, rfl⟩
                go_wp2_with fail
                refine HV.out.mono ?_
                rintro e w18 ⟨a3, c3, a4, c4, rfl, _, _, _, _, hk18⟩
                have HC18 := Lib.hid (HC17.out.calm hk18)
                clear hk18 HQW HV
                go_upto_region 46 with fail
                have z3 : w18.cell? ⟨zc, 3, none⟩ = some (.int .i64 3) := keeps_cell0 HC18.out.keep ((HBA.out.cell 3).trans ((show c.vals[3]? = some (.int .i64 c.tag) from rfl).trans (by rw [HTG.out])))
                go_quiet (fail)
                go_wp2_with fail
                go_ret
                exact ⟨rfl, ((HKB.out.trans HC18.out.keep (by simp)).drewN _).below (by simp) (Nat.le_refl _)⟩
end Go.Proofs.YtcoekpomiljofaaGreat.commitBounds
