/- CommitAlone's walk. -/
import Derived.Test.YtdhgiohjdhcedaaGreatAw13
import Derived.Test.YtdhgiohjdhcedaaGreatCmWrs
import Derived.Test.YtdhgiohjdhcedaaGreatCmSide
import Derived.Test.YtdhgiohjdhcedaaGreatCmSeats
import Derived.Test.YtdhgiohjdhcedaaGreatCmBef
import Derived.Test.YtdhgiohjdhcedaaGreatVcSm
import Derived.Test.YtdhgiohjdhcedaaGreatTailQ
import Derived.Deep.RegionHeld3
import Derived.Deep.DeepCutAuto
import Derived.Deep.QuietTactic
import Derived.BigQuiet
import Derived.WalkKit
namespace Go.Proofs.YtdhgiohjdhcedaaGreat.commitAlone
open Go.RowKit
set_option linter.unusedVariables false
set_option linter.unusedSimpArgs false
open al fd Pol
theorem pair_keeps {w w' : World} {A : Option Addr} {n cap : Nat} {l : List ElPair} (h : LstPair w A n cap l) (hk : Keeps [] w w') : LstPair w' A n cap l := by
  obtain ⟨h1, h2, h3, h4⟩ := h
  refine ⟨h1, h2, h3, fun hn => ?_⟩
  obtain ⟨b, off, hA, hb, hc⟩ := h4 hn
  exact ⟨b, off, hA, Nat.lt_of_lt_of_le hb hk.size, fun i p hp => (hc i p hp).keeps hb hk⟩
theorem sea_keeps {w w' : World} {A : Option Addr} {n cap : Nat} {l : List ElSea13} (h : LstSea13 w A n cap l) (hk : Keeps [] w w') : LstSea13 w' A n cap l := by
  obtain ⟨h1, h2, h3, h4⟩ := h
  refine ⟨h1, h2, h3, fun hn => ?_⟩
  obtain ⟨b, off, hA, hb, hc⟩ := h4 hn
  exact ⟨b, off, hA, Nat.lt_of_lt_of_le hb hk.size, fun i p hp => (hc i p hp).keeps hb hk⟩
theorem sea_ok {w : World} {A : Option Addr} {n cap : Nat} {l : List ElSea13} (h : LstSea13 w A n cap l) : ∀ p, p ∈ l → p.words.ok := fun p hp => by
  obtain ⟨h1, h2, h3, h4⟩ := h
  obtain ⟨i, hi, e⟩ := List.getElem_of_mem hp
  obtain ⟨b, off, hA, hb, hc⟩ := h4 (by omega)
  exact (hc i p (by rw [List.getElem?_eq_getElem hi, e])).w1
theorem nth_set0 {l : List Hd} {x : Hd} (y : Hd) (h : nth l 0 = some x) : nth (l.set (Int.toNat 0) y) 0 = some y := by
  have := nth_len h
  unfold nth
  rw [if_pos (by omega)]
  simp only [Int.toNat_zero]
  rw [List.getElem?_set_self (by omega)]
theorem spL_nth {c : Cf} (hc : c.ok) : nth (spL c).H 0 = some hdL := by
  rw [(spL_is hc.2.1.1).2.2]
  have := hc.2.1.1
  exact nth_set0 _ (nth_rep (n := c.slots.toNat) (a := Hd.zero) (by omega))
theorem row_grow {w wr W w1 : World} {wt v1 : Value} {n size : Nat} {t : TypeId} {xs ys : List Value} (how : wr.ownsRow w.heap.size t size wt n xs) (hk : Keeps [] w wr) (hkW : Keeps [] wr W) (hown : w1.ownsRow 0 t size v1 (n + 1) ys) (hg : W.grownBy w1 wt.ownBlock) (hat : v1.ownBlock = wt.ownBlock ∨ v1.ownBlock = some W.heap.size) :
    w1.ownsRow w.heap.size t size v1 (n + 1) ys ∧ Keeps [] w w1 := by
  have hW : Keeps [] w W := hk.trans hkW (by simp)
  have hz := hW.size
  refine ⟨?_, hW.grown hg (fun q hq => .inr (how.lt q hq).1)⟩
  refine own_base hown (fun q hq => ?_)
  rcases hat with e | e
  · exact (how.lt q (e ▸ hq)).1
  · rw [e] at hq; injection hq with hq; omega
theorem ownC_cell {w : World} {a c : Nat} {l : List Int} {k : Nat} {x : Int} (h : OwnC w a c l) (hx : l[k]? = some x) : w.cell? ⟨a, k, none⟩ = some (.int .i64 x) := by
  have e : ∀ l : List Int, l.flatMap RowI.cells = l.map (Value.int .i64) := fun l => by
    induction l with
    | nil => rfl
    | cons y l ih => simp [RowI.cells] at ih ⊢; exact ih
  have hlt := (List.getElem?_eq_some_iff.1 hx).1
  exact (World.ownsRow.cellAt h k (by omega)).trans (by rw [e l, List.getElem?_map, hx]; rfl)

theorem prw {w : World} {g n c : Nat} {ws : List Pr} (h : w.ownsRow 0 67 2 (.slice (some ⟨g, 0, none⟩) n c) n (prCells ws)) {j : Nat} {p : Pr} (hp : ws[j]? = some p) (hn : ws.length = n) : w.cell? ⟨g, j * 2, none⟩ = some (.int .i64 p.cell) ∧ w.cell? ⟨g, j * 2 + 1, none⟩ = some (.int .i64 p.x) := by
  subst hn
  obtain ⟨g', off, e, h0, h1⟩ := pr_cellR (SlR.of_own h) hp
  injection e with e
  injection e with e1 e2
  subst e1 e2
  rw [Nat.zero_add] at h0 h1
  exact ⟨h0, h1⟩
theorem wd_u {W : List Int} (h : ∀ v, v ∈ W → isU v) (t : Int) (j : Nat) : ∃ m : Nat, wd W t j = m ∧ m < 18446744073709551616 := by
  have hu : isU (wd W t j) := by
    unfold wd
    cases e : W[2 * t.toNat + j]? with
    | none => exact ⟨by simp, by simp⟩
    | some x => exact h x (List.mem_of_getElem? e)
  unfold isU at hu
  exact ⟨(wd W t j).toNat, by omega, by omega⟩
theorem CmS.adds {w0 w w' : World} {z : Sb} {jb cb n k : Nat} {S : Sp} {c : Cf} {d : Int} {x : Cm} {X Y : List Nat} (h : CmS w0 w z jb cb n k S c d x X) (hk : Keeps [] w w') (hY : ∀ q, q ∈ Y → w.heap.size ≤ q ∧ ∃ t, tyOf w' q = some t ∧ t ∉ spFix) : CmS w0 w' z jb cb n k S c d x (Y ++ X) := by
  have hz := h.keep.size
  obtain ⟨F, H, dp, hc, ho⟩ := h.ex
  have ho' := ho.step hk (by simp) (fun q hq => .inl hq)
  refine ⟨⟨F, H, dp, hc.calm hk, fun q hq => ?_⟩, h.fit, h.wu, h.cc, h.len, h.ok, h.d0, h.d1⟩
  rw [List.mem_append] at hq
  rcases hq with hq | hq
  · obtain ⟨h1, t, h2, h3⟩ := hY q hq
    refine ⟨by omega, tyOf_lt h2, fun hx => ?_, fun t' e => by rw [h2] at e; injection e with e; exact e ▸ h3⟩
    simp only [List.mem_cons, List.mem_append] at hx
    rcases hx with rfl | hx | hx
    · have := Blk.lt hc.j; omega
    · have := hc.cm.lt _ hx; omega
    · have := hc.sp.lt _ hx; omega
  · exact ho' q hq
def wtsOf (E : Env) (r : Nat) : Int := if E.vd = 2 ∧ r ≤ 1 then 1 else 0
theorem wts_two {E : Env} {r : Nat} (h : E.ans r = 2) : wtsOf E (r + 1) = 0 ∧ wtsOf E r = 1 := by
  unfold Env.ans at h
  split at h
  · rename_i hc
    unfold wtsOf
    exact ⟨by rw [if_neg (by omega)], by rw [if_pos ⟨hc.1, by omega⟩]⟩
  · cases h
theorem wts_one {E : Env} {r : Nat} (h : E.ans r = 1) : wtsOf E r = wtsOf E (r + 1) := by
  unfold Env.ans at h
  split at h
  · cases h
  · rename_i hc
    unfold wtsOf
    by_cases h2 : E.vd = 2
    · by_cases h3 : r = 0
      · rw [if_pos ⟨h2, by omega⟩, if_pos ⟨h2, by omega⟩]
      · have : r ≠ 1 := fun e => hc ⟨h2, e⟩
        rw [if_neg (by omega), if_neg (by omega)]
    · rw [if_neg (fun e => h2 e.1), if_neg (fun e => h2 e.1)]
theorem ans_or (E : Env) (r : Nat) : E.ans r = 1 ∨ E.ans r = 2 := by unfold Env.ans; split; exact .inr rfl; exact .inl rfl
theorem cost_fut (H : List Hd) (W : List Int) (s : Sg) : ∀ l : List Int, costs H l + (futs H W s l).length ≤ 4 * l.length
  | [] => by simp [costs, futs]
  | x :: l => by
    have ih := cost_fut H W s l
    have e : futs H W s (x :: l) = fut H W s x ++ futs H W s l := rfl
    rw [e, List.length_append, List.length_cons]
    simp only [costs, cost]
    unfold fut
    by_cases hl : live (hd H x) = true
    · rw [if_pos hl]
      split <;> simp <;> omega
    · simp [hl]
      omega
theorem st_eq {a b : Int} (h : a = b) : Value.int .i64 a = .int .i64 b := by rw [h]
theorem turns_ne {own : Int} {j : Nat} (h : (j : Int) ≠ own) (H : List Hd) (W : List Int) (sg : Sg) : costs H (turnsTo own (j + 1)) = costs H (turnsTo own j) + cost H j ∧ futs H W sg (turnsTo own (j + 1)) = futs H W sg (turnsTo own j) ++ fut H W sg j := by
  have e : turnsTo own (j + 1) = turnsTo own j ++ [(j : Int)] := by simp [turnsTo, h]
  rw [e, costs_app]
  exact ⟨by simp [costs], by simp [futs]⟩
set_option maxRecDepth 100000 in
set_option maxHeartbeats 16000000 in
theorem walk (tag bs bias most : Int) (A : Option Addr) (n cap : Nat) (l : List ElPair) (B : Option Addr) (m mcap : Nat) (lo : List ElSea13) (w : World) (_ : (Lit.int IntKind.i64 tag).wf = true) (_ : (Lit.int IntKind.i64 bs).wf = true) (_ : (Lit.int IntKind.i64 bias).wf = true) (_ : (Lit.int IntKind.i64 most).wf = true) (hl : LstPair w A n cap l) (hlo : LstSea13 w B m mcap lo) : Calls Tryz.prog 5 #[.int .i64 tag, .int .i64 bs, .int .i64 bias, .int .i64 most, .slice A n cap, .slice B m mcap] w fun e w' => e = .returned (.bool true) ∧ Below w.heap.size w w' := by
  have HL := Lib.hid hl
  have HLO := Lib.hid hlo
  have hok := cfgOf_ok tag bs bias most
  have h64 : (cfgOf tag bs bias most).cells = 64 := rfl
  have h8 : (cfgOf tag bs bias most).slots = 8 := rfl
  have HQ := Lib.hid (fun w' => config_any w' tag bs bias most)
  obtain ⟨c, hc⟩ : ∃ q, cfgOf tag bs bias most = q := ⟨_, rfl⟩
  rw [hc] at HQ hok h64 h8
  have HOK := Lib.hid (And.intro hok (And.intro h64 h8))
  clear hl hlo hc hok h64 h8
  go_enter Tryz.func5, Tryz.ntmps5
  go_wp2_with fail
  refine (awake13 _).mono ?_
  rintro e w1 ⟨rfl, hk⟩
  have HK := Lib.hid hk
  clear hk
  go_wp2_with fail
  refine (HQ.out _).mono ?_
  rintro e w2 ⟨rfl, hk⟩
  replace HK := Lib.hid (HK.out.trans hk (by simp))
  clear hk HQ
  go_wp2_with fail
  have hka : Keeps [] w2 (w2.alloc (.cells c.vals 23)) := by simp
  have hba : Blk (w2.alloc (.cells c.vals 23)) w2.heap.size 23 c.vals := Blk.new _ _ _
  refine (lives_any _ c HOK.out.1).mono ?_
  rintro e w3 ⟨z, jb, F, rfl, hs, hj, hlo⟩
  obtain ⟨wb, hwb⟩ : ∃ q, w2.alloc (.cells c.vals 23) = q := ⟨_, rfl⟩
  rw [hwb] at hka hba
  have hs' : SP wb w3 z F (spL c) := by rw [← hwb]; exact hs
  have hlo' : wb.heap.size ≤ jb := by rw [← hwb]; exact hlo
  obtain ⟨zc, hzc⟩ : ∃ q, w2.heap.size = q := ⟨_, rfl⟩
  rw [hzc] at hba
  try rw [hzc]
  have HKB := Lib.hid (HK.out.trans hka (by simp))
  have HBA := Lib.hid hba
  have HS := Lib.hid hs'
  have HJ := Lib.hid (And.intro hj hlo')
  clear hs hs' hj hlo hlo' hka hwb HK hba hzc
  have QS := Lib.hid (seats_any HS.out (spL_fit HOK.out.1) (by decide) (show (spL c).H.length = 8 from (spL_fit HOK.out.1).slots.trans (by rw [spL_c, HOK.out.2.2]; rfl)) B m mcap lo HLO.out.1 HLO.out.2.1 HLO.out.2.2.1 (fun w' hk => sea_keeps HLO.out ((HKB.out.trans HS.out.keep (by simp)).trans hk (fun q hq => .inr (Nat.le_trans HKB.out.size (HS.out.low q hq))))))
  go_wp2_with fail
  refine QS.out.mono ?_
  rintro e w4 ⟨rfl, F4, hs4, hk4, _⟩
  have hlay := seatsF_lay (spL c) lo (rnds m)
  have hfit : Fit 37 (seatsF (spL c) lo (rnds m)) := (seatsF_fit (spL_fit HOK.out.1) lo (rnds m)).wide (by unfold rnds; split <;> omega)
  have hwu := seatsF_wu (spL_wu c) lo (sea_ok HLO.out) (rnds m)
  obtain ⟨S, hS⟩ : ∃ q, seatsF (spL c) lo (rnds m) = q := ⟨_, rfl⟩
  rw [hS] at hs4 hlay hfit hwu
  have HJ4 : Hid (JAt w4 jb c 0 ∧ wb.heap.size ≤ jb) := ⟨Blk.keeps HJ.out.1 hk4 (HS.out.out HJ.out.1 (by decide)), HJ.out.2⟩
  have hcc : S.c = c := hlay.c.trans (spL_c c)
  have hlen : S.H.length = 8 := by have h1 := hfit.slots; rw [hcc, HOK.out.2.2] at h1; exact h1
  have hcl : S.cells.length = 64 := by have h1 := hfit.cells; rw [hcc, HOK.out.2.1] at h1; exact h1
  have hwl : S.W.length = 16 := by have h1 := hfit.words; omega
  have hg0 : S.gate = ⟨0, 0⟩ := hlay.g.trans (by rw [(spL_is HOK.out.1.2.1.1).2.2]; rfl)
  have hown : hd S.H 0 = hdL := by
    unfold hd
    have h1 := hlay.own
    have h2 := (nth_len (spL_nth HOK.out.1)).2.2
    simp only [Int.toNat_zero] at h2 ⊢
    rw [h1, h2]
    rfl
  have HS4 := Lib.hid hs4
  have HF := Lib.hid (And.intro hfit (And.intro hwu hcc))
  have HLEN := Lib.hid (And.intro hlen (And.intro hcl hwl))
  have HOWN := Lib.hid (And.intro hown hg0)
  clear hs4 hk4 hlay hfit hwu hS hcc hlen hcl hwl hg0 hown QS HS HJ HLO
  have HLW := Lib.hid (pair_keeps HL.out (HKB.out.trans HS4.out.keep (by simp)))
  clear HL
  go_wp2_with fail
  refine (writes_any w4 A n cap l HLW.out).mono ?_
  rintro e w5 ⟨v5, rfl, ho5, hk5⟩
  obtain ⟨okw, lw⟩ := wsOf_ok l
  obtain ⟨gw, cw, rfl, _, _⟩ := ho5.form (by omega)
  obtain ⟨ws, hws⟩ : ∃ q, wsOf l = q := ⟨_, rfl⟩
  have hmay : mayE c 0 1 5 ws = 0 := hws ▸ wsOf_may l HOK.out.2.1 (by decide) (by decide) (by decide) (by decide) (by rw [HOK.out.2.2]; decide)
  rw [hws] at ho5 okw lw
  try rw [hws]
  obtain ⟨nw, hnw⟩ : ∃ q, ws.length = q := ⟨_, rfl⟩
  have hn1 : 1 ≤ nw := by omega
  have hn16 : nw ≤ 16 := by have := okw.len; omega
  rw [hnw] at ho5
  try rw [hnw]
  have HW5 := Lib.hid (And.intro ho5 (And.intro hmay (And.intro okw (And.intro hnw hk5))))
  clear ho5 hmay okw lw hws hnw hk5 HLW
  obtain ⟨i0, hi, hz0, hz1, hz2⟩ := info_parts Tryz.infoIntR
  have HI := Lib.hid (And.intro hi (And.intro hz0 (And.intro hz1 hz2)))
  go_wp2_with fail
  go_loopw [19, 20] (fun v i wr => ∃ (j : Nat) (vA : Option Addr) (vc : Nat), j ≤ nw ∧ i = .int .i64 j ∧ v = .slice vA j vc ∧ wr.ownsRow w5.heap.size 3 1 (.slice vA j vc) j (((ws.map Pr.cell).take j).map (Value.int .i64)) ∧ Keeps [] w5 wr) (fun _ i _ => nw - (intOf i).toNat)
  case atStart => exact ⟨0, none, 0, Nat.zero_le _, rfl, rfl, ⟨rfl, .inl ⟨rfl, rfl⟩⟩, Keeps.refl _ _⟩
  case round =>
    obtain ⟨j, vA, vc, hj, rfl, rfl, ho, hk⟩ := hrel
    have HO := Lib.hid ho
    have HK := Lib.hid hk
    clear ho hk
    have q0 : (0 : Int) ≤ (j : Int) := by omega
    rename_i wr
    by_cases hlt : j < nw
    · have q1 : (j : Int) < (nw : Int) := by omega
      obtain ⟨p, hp⟩ : ∃ p, ws[j]? = some p := ⟨_, List.getElem?_eq_getElem (by have := HW5.out.2.2.2.1; omega)⟩
      obtain ⟨d0, d1⟩ := prw (own_base (own_keeps HW5.out.1 HK.out (by simp)) (fun _ _ => Nat.zero_le _)) hp HW5.out.2.2.2.1
      have hsn : (ws.map Pr.cell).take (j + 1) = (ws.map Pr.cell).take j ++ [p.cell] := take_snoc (by simp [hp])
      have HSN := Lib.hid hsn
      have hmx : Hid (j + 1 ≤ maxLen) := by unfold Hid maxLen; omega
      have hby : Hid ((j + 1) * 8 ≤ 140737488355328) := by unfold Hid; omega
      have HO0 := Lib.hid (own_base HO.out (fun _ _ => Nat.zero_le _))
      clear hp hsn
      go_wp2_with (at_builtin; refine wpList_append_row rfl (.tmp 69) (.tmp 75) 65 rfl 3 i0 _ 1 8 Tryz.underlying65 hi hz0 hz1 hz2 rfl (by decide) (.slice vA j vc) j _ rfl (own_keeps HO0.out ((Keeps.refl [] _).alloc _) (by simp)) _ 1 [.int .i64 p.cell] rfl (made_row _ _ _ _ rfl) (by simp [Value.oneCell']) hmx.out hby.out ?_; intro v1 w6 hown1 hg1 hat1; have HG := Lib.hid (And.intro hown1 (And.intro hg1 hat1)); clear hown1 hg1 hat1)
      obtain ⟨g1, cc, rfl, _, _⟩ := HG.out.1.form (by omega)
      obtain ⟨r1, r2⟩ := row_grow HO.out HK.out ((Keeps.refl [] _).alloc _) HG.out.1 HG.out.2.1 HG.out.2.2
      exact ⟨⟨j + 1, _, cc, by omega, by simp, rfl, by rw [HSN.out, List.map_append]; exact r1, r2⟩, by simp [intOf]; omega⟩
    · obtain rfl : nw = j := by omega
      clear hlt hj q0 hi hz0 hz1 hz2
      have hor := HO.out
      rw [List.take_of_length_le (by rw [List.length_map]; exact Nat.le_of_eq HW5.out.2.2.2.1)] at hor
      obtain ⟨A9, c9, e9, hAl, hsl⟩ := Slc.of_own hor (by rw [List.length_map, HW5.out.2.2.2.1]; unfold maxLen; omega)
      injection e9 with e9 _ e10
      subst e9 e10
      have hok1 := HOK.out.1.2.2.1
      have QO := of_any wr vA vc (ws.map Pr.cell) hsl c.bits hok1.1 hok1.2
      rw [← hAl] at QO
      have hofE : ofE (ws.map Pr.cell) = 0 := by
        unfold ofE
        rw [if_pos]
        rw [List.all_eq_true]
        intro x hx
        rw [List.mem_map] at hx
        obtain ⟨p, hp, rfl⟩ := hx
        have := HW5.out.2.2.1.rng p hp
        rw [isCell_yes]
        omega
      have hsok := ofR_ok hok1.1 hok1.2 (ws.map Pr.cell)
      rw [hofE] at QO
      obtain ⟨sg, hsg⟩ : ∃ q, ofR c.bits (ws.map Pr.cell) = q := ⟨_, rfl⟩
      rw [hsg] at QO hsok
      unfold Sg.val at QO
      have HSG := Lib.hid (And.intro hsg hsok)
      have HQO := Lib.hid QO
      have z2 : wr.cell? ⟨zc, 2, none⟩ = some (.int .i64 c.bits) := keeps_cell0 (HS4.out.keep.trans (HW5.out.2.2.2.2.trans HK.out (by simp)) (by simp)) ((HBA.out.cell 2).trans rfl)
      clear hor hsl hAl hok1 QO hofE hsok hsg HO HI
      go_wp2_with fail
      refine HQO.out.mono ?_
      rintro e w6 ⟨rfl, hk6⟩
      have HK6 := Lib.hid (HK.out.trans hk6 (by simp))
      clear hk6 HQO HK z2
      go_upto_region 14 with fail
      have hb7 := Blk.new w6 58 #[.int .u64 (sg.a : Int), .int .u64 (sg.b : Int)]
      have hk7 : Keeps [] w5 (w6.alloc (.cells #[.int .u64 (sg.a : Int), .int .u64 (sg.b : Int)] 58)) := HK6.out.alloc _
      obtain ⟨sb, hsb⟩ : ∃ q, w6.heap.size = q := ⟨_, rfl⟩
      obtain ⟨w7, hw7⟩ : ∃ q, w6.alloc (.cells #[.int .u64 (sg.a : Int), .int .u64 (sg.b : Int)] 58) = q := ⟨_, rfl⟩
      rw [hsb, hw7] at hb7
      rw [hw7] at hk7
      try rw [hw7]
      try rw [hsb]
      have HS7 := Lib.hid (HS4.out.calm (HW5.out.2.2.2.2.trans hk7 (by simp)))
      have HJ7 : Hid (JAt w7 jb c 0 ∧ wb.heap.size ≤ jb) := ⟨Blk.keeps HJ4.out.1 (HW5.out.2.2.2.2.trans hk7 (by simp)) (by simp), HJ4.out.2⟩
      have HW7 := Lib.hid (own_keeps HW5.out.1 hk7 (by simp))
      have HP := Lib.hid HW5.out.2
      have HB7 := Lib.hid hb7
      have hgw := HW5.out.1.lt gw rfl
      have hz5 := HW5.out.2.2.2.2.size
      have HGW : Hid (w4.heap.size ≤ gw ∧ gw < w7.heap.size) := ⟨hgw.1, by have := hk7.size; omega⟩
      have hmay := HP.out.1
      rw [← HF.out.2.2] at hmay
      have HN := Lib.hid (cm_new (jb := jb) HS7.out HF.out.1 0 1 1 5 (some ⟨gw, 0, none⟩) cw ws (SlR.of_own (HP.out.2.2.1.symm ▸ own_base HW7.out (fun _ _ => Nat.zero_le _))) hmay)
      rw [HP.out.2.2.1] at HN
      clear hb7 hk7 hw7 hsb HK6 hgw hz5 hmay HW5 HJ4
      go_wp2_with fail
      refine HN.out.mono ?_
      rintro e w8 ⟨cb, H, rfl, hm8, hfr8, hk8⟩
      have hty7 := own_tyOf HW7.out (k := gw) rfl
      have hjlt : jb < w7.heap.size := Blk.lt HJ7.out.1
      have hjty := Blk.tyOf HJ7.out.1
      have hFlt : ∀ q, q ∈ F4 → q < w4.heap.size := HS4.out.lt
      have hwb4 := HS4.out.keep.size
      have hCS : CmS wb w8 z jb cb 8 37 S c 0 (Cm.new 0 1 1 5 ws) [gw] := CmS.new HS7.out HJ7.out.1 HJ7.out.2 HF.out.1 HF.out.2.1 HF.out.2.2 HLEN.out.1 (by decide) (by decide) HP.out.1 hk8 hm8 hfr8 (fun q hq => by
        have hgw := HGW.out
        simp only [List.mem_cons, List.not_mem_nil, or_false] at hq
        subst hq
        refine ⟨by omega, hgw.2, fun hx => ?_, fun t ht => by rw [hty7] at ht; injection ht with ht; subst ht; decide⟩
        simp only [List.mem_cons] at hx
        rcases hx with rfl | hx
        · rw [hjty] at hty7
          revert hty7
          decide
        · have := hFlt _ hx; omega)
      have HCS := Lib.hid hCS
      have HW8 := Lib.hid (own_keeps HW7.out hk8 (by simp))
      have HB8 := Lib.hid (HB7.out.keeps hk8 (by simp))
      have hv := hCS.view
      rw [HLEN.out.2.1, HOWN.out.2] at hv
      have HV := Lib.hid hv
      clear hm8 hfr8 hk8 hty7 hjlt hjty hFlt hwb4 hCS hv HW7 HB7 HN HJ7 HS7 HS4
      go_wp2_with fail
      refine HV.out.mono ?_
      rintro e w9 ⟨a1, c1, a2, c2, rfl, h1, h2, l1, l2, hk9⟩
      go_upto_region 18 with fail
      have hk10 : Keeps [] w8 (w9.alloc (.cells #[.slice (some ⟨a1, 0, none⟩) 64 c1, .int .i64 0, .int .i64 0, .slice (some ⟨a2, 0, none⟩) 8 c2] 45)) := hk9.alloc _
      have hk90 : Keeps [] w9 (w9.alloc (.cells #[.slice (some ⟨a1, 0, none⟩) 64 c1, .int .i64 0, .int .i64 0, .slice (some ⟨a2, 0, none⟩) 8 c2] 45)) := by simp
      have L10 := Blk.new w9 45 #[.slice (some ⟨a1, 0, none⟩) 64 c1, .int .i64 0, .int .i64 0, .slice (some ⟨a2, 0, none⟩) 8 c2]
      have h1' : OwnC (w9.alloc (.cells #[.slice (some ⟨a1, 0, none⟩) 64 c1, .int .i64 0, .int .i64 0, .slice (some ⟨a2, 0, none⟩) 8 c2] 45)) a1 c1 S.cells := own_keeps h1 hk90 (by simp)
      have h2' : OwnS (w9.alloc (.cells #[.slice (some ⟨a1, 0, none⟩) 64 c1, .int .i64 0, .int .i64 0, .slice (some ⟨a2, 0, none⟩) 8 c2] 45)) a2 c2 8 (slL S.H S.W) := own_keeps h2 hk90 (by simp)
      have hz9 := hk9.size
      obtain ⟨w10, hw10⟩ : ∃ q, w9.alloc (.cells #[.slice (some ⟨a1, 0, none⟩) 64 c1, .int .i64 0, .int .i64 0, .slice (some ⟨a2, 0, none⟩) 8 c2] 45) = q := ⟨_, rfl⟩
      rw [hw10] at hk10 L10 h1' h2'
      try rw [hw10]
      obtain ⟨zv, hzv⟩ : ∃ q, w9.heap.size = q := ⟨_, rfl⟩
      rw [hzv] at L10 hz9
      try rw [hzv]
      have HK10 := Lib.hid hk10
      have HL10 := Lib.hid L10
      have HR1 := Lib.hid h1'
      have HR2 := Lib.hid h2'
      have HLO := Lib.hid (And.intro l1 (And.intro l2 hz9))
      have hfut : Hid (∀ q, (futs S.H S.W sg (turnsTo 0 q)).length ≤ q ∧ costs S.H (turnsTo 0 q) ≤ 3 * q) := fun q => by
        have h1 := costs_le S.H (turnsTo 0 q)
        have h2 := turnsTo_len 0 q
        refine ⟨?_, by omega⟩
        have h3 : ∀ l : List Int, (futs S.H S.W sg l).length ≤ l.length := fun l => by
          induction l with
          | nil => simp [futs]
          | cons x l ih =>
            have e : futs S.H S.W sg (x :: l) = fut S.H S.W sg x ++ futs S.H S.W sg l := rfl
            rw [e, List.length_append, List.length_cons]
            have : (fut S.H S.W sg x).length ≤ 1 := by unfold fut; split <;> simp
            omega
        have := h3 (turnsTo 0 q)
        omega
      have HWU := Lib.hid HF.out.2.1
      unfold Sp.wu at HWU
      clear hk10 hk90 L10 h1 h2 h1' h2' hz9 hw10 hzv l1 l2 hk9 HV
      go_wp2_with fail
      go_loopw [26, 27, 28] (fun wt st i wr => ∃ (j C : Nat) (fs : List Vc) (A3 : Option Addr) (c3 : Nat), 1 ≤ j ∧ j ≤ 8 ∧ i = .int .i64 j ∧ st = .int .i64 ((C : Int) + 2) ∧ C = costs S.H (turnsTo 0 j) ∧ fs = futs S.H S.W sg (turnsTo 0 j) ∧ wt = .slice A3 fs.length c3 ∧ wr.ownsRow w10.heap.size 73 4 (.slice A3 fs.length c3) fs.length (vcCells fs) ∧ Keeps [] w10 wr) (fun _ _ i _ => 8 - (intOf i).toNat)
      case atStart => exact ⟨1, 0, [], none, 0, by decide, by decide, rfl, rfl, rfl, rfl, rfl, World.ownsRow_nil _ _ _ _, Keeps.refl _ _⟩
      case round =>
        obtain ⟨j, C, fs, A3, c3, hj1, hj, rfl, rfl, hC, hfs, rfl, how, hk⟩ := hrel
        have HK := Lib.hid hk
        have HOW := Lib.hid how
        have HCF := Lib.hid (And.intro hC hfs)
        have hC24 : C ≤ 24 := by have := (hfut.out j).2; omega
        have hf8 : fs.length ≤ 8 := by have := (hfut.out j).1; rw [← hfs] at this; omega
        clear how hk hC hfs
        by_cases hlt : (j : Int) < 8
        · as_aux_lemma =>
            have q0 : (0 : Int) ≤ (j : Int) := by omega
            have hc : ∀ i u, i < 64 → (slC S.H S.W)[i]? = some u → wr.cell? ⟨a2, i, none⟩ = some u := fun i u hi hu => keeps_cell0 HK.out ((World.ownsRow.cellAt HR2.out i (by omega)).trans hu)
            obtain ⟨m0, m1, m2, m3, m4, m5, m6, m7⟩ := slC_get S.H S.W j (by have := HLEN.out; omega) (by have := HLEN.out; omega)
            have b0 := hc _ _ (by omega) m0
            have b1 := hc _ _ (by omega) m1
            have b2 := hc _ _ (by omega) m2
            have b3 := hc _ _ (by omega) m3
            have b4 := hc _ _ (by omega) m4
            have b5 := hc _ _ (by omega) m5
            have b6 := hc _ _ (by omega) m6
            have b7 := hc _ _ (by omega) m7
            clear hc m0 m1 m2 m3 m4 m5 m6 m7
            have ha2l : a2 < wr.heap.size := World.block_lt_of_cell? wr _ b0
            have ha2n : a2 ≠ wr.heap.size := by omega
            have hbs := HB8.out.keeps (HK10.out.trans HK.out (by simp)) (by simp)
            have s0 : wr.cell? ⟨sb, 0, none⟩ = some (.int .u64 (sg.a : Int)) := (hbs.cell 0).trans rfl
            have s1 : wr.cell? ⟨sb, 1, none⟩ = some (.int .u64 (sg.b : Int)) := (hbs.cell 1).trans rfl
            have hqsl := hbs.lt
            have hqsn : sb ≠ wr.heap.size := by omega
            have v2 : wr.cell? ⟨zv, 3, none⟩ = some (.slice (some ⟨a2, 0, none⟩) 8 c2) := keeps_cell0 HK.out ((HL10.out.cell 3).trans rfl)
            have hzvl := World.block_lt_of_cell? wr _ v2
            have hzvn : zv ≠ wr.heap.size := by simp at hzvl; omega
            clear hbs hzvl hqsl ha2l
            have HE := Lib.hid (turns_ne (own := 0) (j := j) (by omega) S.H S.W sg)
            obtain ⟨x, hx⟩ : ∃ x, hd S.H (j : Int) = x := ⟨_, rfl⟩
            have hco : cost S.H (j : Int) = if live x then 3 else 1 := by rw [← hx]; rfl
            have hfu : fut S.H S.W sg (j : Int) = if live x && fd.mt S.W sg j then [⟨j, x.gen, x.stamp, x.thread⟩] else [] := by rw [← hx]; rfl
            rw [hx] at b0 b1 b2 b3 b4 b5
            rw [hco, hfu] at HE
            clear hco hfu hx
            have w1c : IntKind.i64.wrap ((C : Int) + 2 + 1) = (C : Int) + 3 := by rw [IntKind.wrap_i64]; omega
            have w2c : IntKind.i64.wrap ((C : Int) + 3 + 2) = (C : Int) + 5 := by rw [IntKind.wrap_i64]; omega
            have dead : live x = false → Hid (C + 1 = costs S.H (turnsTo 0 (j + 1)) ∧ fs = futs S.H S.W sg (turnsTo 0 (j + 1))) := fun hv => by
              have h1 := HE.out
              rw [hv] at h1
              refine ⟨?_, ?_⟩
              · rw [h1.1, ← HCF.out.1]; rfl
              · rw [h1.2, ← HCF.out.2]; simp
            by_cases e2 : x.state = 2
            · have e3 : (x.state == 2) = true := by simp [e2]
              cases e4 : x.doomed
              · as_aux_lemma =>
                  have HV : Hid (live x = true) := by unfold Hid live; rw [e4, e2]; rfl
                  rw [e4] at b4
                  clear e2 e4 dead
                  obtain ⟨m0, hm0, hm0'⟩ := wd_u HWU.out j 0
                  obtain ⟨m1, hm1, hm1'⟩ := wd_u HWU.out j 1
                  have hmt : fd.mt S.W sg j = !((⟨m0, m1⟩ : Sg).meet sg).none := by unfold fd.mt sgOf; simp [hm0, hm1]
                  have QM0 : ∀ w', Calls Tryz.prog 34 #[.agg #[.int .u64 (m0 : Int), .int .u64 (m1 : Int)], .agg #[.int .u64 (sg.a : Int), .int .u64 (sg.b : Int)]] w' fun e w'' => e = .returned (.bool (!((⟨m0, m1⟩ : Sg).meet sg).none)) ∧ Keeps [] w' w'' := fun w' => meets_any w' ⟨m0, m1⟩ sg ⟨hm0', hm1'⟩ HSG.out.2
                  rw [← hmt] at QM0
                  have HQM := Lib.hid QM0
                  rw [hm0] at b6
                  rw [hm1] at b7
                  have HLV : Hid (C + 3 = costs S.H (turnsTo 0 (j + 1)) ∧ futs S.H S.W sg (turnsTo 0 (j + 1)) = fs ++ if fd.mt S.W sg j then [⟨j, x.gen, x.stamp, x.thread⟩] else []) := by
                    have h1 := HE.out
                    rw [HV.out] at h1
                    refine ⟨?_, ?_⟩
                    · rw [h1.1, ← HCF.out.1]; rfl
                    · rw [h1.2, ← HCF.out.2]; simp
                  clear hmt hm0 hm1 hm0' hm1' QM0
                  go_upto_region 27 with fail
                  have hkq : Keeps [] wr (wr.alloc (.cells #[.int .i64 x.gen, .int .i64 x.state, .int .i64 x.stamp, .int .i64 x.thread, .bool false, .int .i64 x.who] 55)) := by simp
                  have hbq := Blk.new wr 55 #[.int .i64 x.gen, .int .i64 x.state, .int .i64 x.stamp, .int .i64 x.thread, .bool false, .int .i64 x.who]
                  replace b6 := keeps_cell0 hkq b6
                  replace b7 := keeps_cell0 hkq b7
                  replace s0 := keeps_cell0 hkq s0
                  replace s1 := keeps_cell0 hkq s1
                  replace v2 := keeps_cell0 hkq v2
                  have y0 : (wr.alloc (.cells #[.int .i64 x.gen, .int .i64 x.state, .int .i64 x.stamp, .int .i64 x.thread, .bool false, .int .i64 x.who] 55)).cell? ⟨wr.heap.size, 0, none⟩ = some (.int .i64 x.gen) := (hbq.cell 0).trans rfl
                  have y2 : (wr.alloc (.cells #[.int .i64 x.gen, .int .i64 x.state, .int .i64 x.stamp, .int .i64 x.thread, .bool false, .int .i64 x.who] 55)).cell? ⟨wr.heap.size, 2, none⟩ = some (.int .i64 x.stamp) := (hbq.cell 2).trans rfl
                  have y3 : (wr.alloc (.cells #[.int .i64 x.gen, .int .i64 x.state, .int .i64 x.stamp, .int .i64 x.thread, .bool false, .int .i64 x.who] 55)).cell? ⟨wr.heap.size, 3, none⟩ = some (.int .i64 x.thread) := (hbq.cell 3).trans rfl
                  obtain ⟨wq, hwq⟩ : ∃ q, wr.alloc (.cells #[.int .i64 x.gen, .int .i64 x.state, .int .i64 x.stamp, .int .i64 x.thread, .bool false, .int .i64 x.who] 55) = q := ⟨_, rfl⟩
                  rw [hwq] at hkq b6 b7 s0 s1 v2 y0 y2 y3
                  try rw [hwq]
                  obtain ⟨hb, hhb⟩ : ∃ q, wr.heap.size = q := ⟨_, rfl⟩
                  rw [hhb] at y0 y2 y3
                  try rw [hhb]
                  have HKQ := Lib.hid hkq
                  clear hwq hhb hkq hbq b0 b1 b2 b3 b4 b5 ha2n hqsn hzvn
                  have HC := Lib.hid (show ∀ w', Keeps [] wq w' → w'.cell? ⟨zv, 3, none⟩ = some (.slice (some ⟨a2, 0, none⟩) 8 c2) ∧ w'.cell? ⟨a2, j * 8 + 6, none⟩ = some (.int .u64 (m0 : Int)) ∧ w'.cell? ⟨a2, j * 8 + 7, none⟩ = some (.int .u64 (m1 : Int)) ∧ w'.cell? ⟨sb, 0, none⟩ = some (.int .u64 (sg.a : Int)) ∧ w'.cell? ⟨sb, 1, none⟩ = some (.int .u64 (sg.b : Int)) from fun w' hk => ⟨keeps_cell0 hk v2, keeps_cell0 hk b6, keeps_cell0 hk b7, keeps_cell0 hk s0, keeps_cell0 hk s1⟩)
                  obtain ⟨mb, hmb⟩ : ∃ q, fd.mt S.W sg j = q := ⟨_, rfl⟩
                  rw [hmb] at HQM HLV
                  have QM := Lib.hid (show ∀ w', Keeps [] wq w' → Calls Tryz.prog 34 #[.agg #[.int .u64 (m0 : Int), .int .u64 (m1 : Int)], .agg #[.int .u64 (sg.a : Int), .int .u64 (sg.b : Int)]] w' fun e w'' => e = .returned (.bool mb) ∧ Keeps [] wq w'' from fun w' hk => (HQM.out w').mono fun e w'' ⟨he, h2⟩ => ⟨he, hk.trans h2 (by simp)⟩)
                  have hkB : Keeps [] wq wq := Keeps.refl _ _
                  clear hmb HQM b6 b7 s0 s1 v2
                  cases mb
                  · as_aux_lemma =>
                      go_wp2_with fail
                      go_region_held3 (fun w' => w'.cell? ⟨zv, 3, none⟩ = some (.slice (some ⟨a2, 0, none⟩) 8 c2) ∧ w'.cell? ⟨a2, j * 8 + 6, none⟩ = some (.int .u64 (m0 : Int)) ∧ w'.cell? ⟨a2, j * 8 + 7, none⟩ = some (.int .u64 (m1 : Int)) ∧ w'.cell? ⟨sb, 0, none⟩ = some (.int .u64 (sg.a : Int)) ∧ w'.cell? ⟨sb, 1, none⟩ = some (.int .u64 (sg.b : Int))) (first | with_reducible exact HC.out _ (by first | with_reducible assumption | with_reducible exact Keeps.drew (by with_reducible assumption)) | go_keep) ((go_at_call 34; (with_reducible refine (QM.out _ (by first | with_reducible assumption | with_reducible exact Keeps.drew (by with_reducible assumption))).mono ?_); rintro e wd ⟨rfl, hkd⟩))
                      all_goals
                        go_wp2_with fail
                        exact ⟨⟨j + 1, C + 3, fs, A3, c3, by omega, by omega, by simp, st_eq (by omega), HLV.out.1, (by rw [HLV.out.2]; simp), rfl, own_keeps HOW.out (HKQ.out.trans hkd (by simp)) (by simp), HK.out.trans (HKQ.out.trans hkd (by simp)) (by simp)⟩, by simp [intOf]; omega⟩
                  · as_aux_lemma =>
                      go_wp2_with fail
                      go_region_held3 (fun w' => w'.cell? ⟨zv, 3, none⟩ = some (.slice (some ⟨a2, 0, none⟩) 8 c2) ∧ w'.cell? ⟨a2, j * 8 + 6, none⟩ = some (.int .u64 (m0 : Int)) ∧ w'.cell? ⟨a2, j * 8 + 7, none⟩ = some (.int .u64 (m1 : Int)) ∧ w'.cell? ⟨sb, 0, none⟩ = some (.int .u64 (sg.a : Int)) ∧ w'.cell? ⟨sb, 1, none⟩ = some (.int .u64 (sg.b : Int))) (first | with_reducible exact HC.out _ (by first | with_reducible assumption | with_reducible exact Keeps.drew (by with_reducible assumption)) | go_keep) ((go_at_call 34; (with_reducible refine (QM.out _ (by first | with_reducible assumption | with_reducible exact Keeps.drew (by with_reducible assumption))).mono ?_); rintro e wd ⟨rfl, hkd⟩; replace y0 := keeps_cell0 hkd y0; replace y2 := keeps_cell0 hkd y2; replace y3 := keeps_cell0 hkd y3))
                      all_goals
                        have hmx : fs.length + 1 ≤ maxLen := by unfold maxLen; omega
                        have hby : (fs.length + 1) * 32 ≤ 140737488355328 := by omega
                        obtain ⟨i0, hi, hz0, hz1, hz2⟩ := info_parts Tryz.infoVc
                        go_wp2_with (at_builtin; refine wpList_append_row rfl (.tmp 134) (.tmp 143) 70 rfl 73 i0 _ 4 32 Tryz.underlying70 hi hz0 hz1 hz2 rfl (by decide) (.slice A3 fs.length c3) fs.length (vcCells fs) rfl (own_keeps (own_base HOW.out (fun k _ => Nat.zero_le k)) ((HKQ.out.trans hkd (by simp)).alloc _) (by simp)) _ 1 [.int .i64 j, .int .i64 x.gen, .int .i64 x.stamp, .int .i64 x.thread] rfl (made_row _ _ _ _ (by simp)) (by simp [Value.oneCell']) hmx hby ?_; intro v1 w11 hown1 hg1 hat1; have HG := Lib.hid (And.intro hown1 (And.intro hg1 hat1)); clear hown1 hg1 hat1)
                        obtain ⟨g1, cc, rfl, _, _⟩ := HG.out.1.form (by omega)
                        obtain ⟨r1, r2⟩ := row_grow HOW.out HK.out ((HKQ.out.trans hkd (by simp)).alloc _) HG.out.1 HG.out.2.1 HG.out.2.2
                        exact ⟨⟨j + 1, C + 3, fs ++ [⟨j, x.gen, x.stamp, x.thread⟩], _, cc, by omega, by omega, by simp, st_eq (by omega), HLV.out.1, (by rw [HLV.out.2]; simp), by rw [List.length_append]; rfl, by rw [vcCells_snoc, List.length_append]; exact r1, r2⟩, by simp [intOf]; omega⟩
              · have HV := dead (by unfold live; rw [e4]; simp)
                rw [e4] at b4
                clear e2 e4 dead
                go_wp2_with fail
                exact ⟨⟨j + 1, C + 1, fs, A3, c3, by omega, by omega, by simp, st_eq (by omega), HV.out.1, HV.out.2, rfl, own_keeps HOW.out (show Keeps [] wr _ by simp) (by simp), HK.out.trans (show Keeps [] wr _ by simp) (by simp)⟩, by simp [intOf]; omega⟩
            · have e3 : (x.state == 2) = false := by simp [e2]
              have HV := dead (by unfold live; rw [e3]; rfl)
              clear e2 dead
              go_wp2_with fail
              exact ⟨⟨j + 1, C + 1, fs, A3, c3, by omega, by omega, by simp, st_eq (by omega), HV.out.1, HV.out.2, rfl, own_keeps HOW.out (show Keeps [] wr _ by simp) (by simp), HK.out.trans (show Keeps [] wr _ by simp) (by simp)⟩, by simp [intOf]; omega⟩
        · obtain rfl : j = 8 := by omega
          clear hlt hj hj1
          have hgvb := HOW.out.lt
          have hzz := HK10.out.size
          have hbef : Bef wb wr z jb cb 37 S c 0 (Cm.new 0 1 1 5 ws) gw nw cw ws (.slice A3 fs.length c3) fs zv a1 c1 a2 c2 0 0 S.cells S.H S.W := by
            have hkk := HK10.out.trans HK.out (by simp)
            have ty1 := tyOf_keeps (own_tyOf HR1.out (k := a1) rfl) HK.out (by simp)
            have ty2 := tyOf_keeps (own_tyOf HR2.out (k := a2) rfl) HK.out (by simp)
            have ty3 := tyOf_keeps HL10.out.tyOf HK.out (by simp)
            refine ⟨?_, own_base (own_keeps HW8.out hkk (by simp)) (fun _ _ => Nat.zero_le _), own_base HOW.out (fun _ _ => Nat.zero_le _), HL10.out.keeps HK.out (by simp), own_keeps HR1.out HK.out (by simp), own_keeps HR2.out HK.out (by simp)⟩
            refine (CmS.adds (Y := zv :: a1 :: a2 :: vblk (.slice A3 fs.length c3)) HCS.out hkk (fun q hq => ?_)).sub (fun q hq => ?_)
            · have hlo := HLO.out
              simp only [List.mem_cons] at hq
              rcases hq with rfl | rfl | rfl | hq
              · exact ⟨hlo.2.2, _, ty3, by decide⟩
              · exact ⟨hlo.1, _, ty1, by decide⟩
              · exact ⟨hlo.2.1, _, ty2, by decide⟩
              · have h1 := hgvb q (by simpa [vblk] using hq)
                exact ⟨by omega, _, own_tyOf HOW.out (by simpa [vblk] using hq), by decide⟩
            · simp only [List.mem_cons, List.mem_append, List.not_mem_nil, or_false] at hq ⊢
              rcases hq with hq | hq | hq | hq | hq
              · exact .inr hq
              · exact .inl (.inl hq)
              · exact .inl (.inr (.inl hq))
              · exact .inl (.inr (.inr (.inl hq)))
              · exact .inl (.inr (.inr (.inr hq)))
          have HBF := Lib.hid hbef
          obtain ⟨E, hE⟩ : ∃ E : Env, E = ⟨c, S.H, S.W, S.cells, ws, 0, 1, 0⟩ := ⟨_, rfl⟩
          have hEs : E.sg = sg := by rw [hE]; exact HSG.out.1
          have hEv : E.vs = fs := by
            rw [HCF.out.2, ← hEs, hE]
            rfl
          have hEd : E.vd = verdict c 5 0 fs := by
            unfold Env.vd
            rw [hEv, hE]
          have hEc : E.H = S.H ∧ E.W = S.W ∧ E.C = S.cells ∧ E.ws = ws ∧ E.c = c ∧ E.g = 0 ∧ E.gen = 1 ∧ E.d = 0 := by rw [hE]; exact ⟨rfl, rfl, rfl, rfl, rfl, rfl, rfl, rfl⟩
          have hEok : E.Ok := by
            have hln := HLEN.out
            have hwk := HP.out.2.1
            have ho := HOWN.out.1
            have hnw := HP.out.2.2.1
            rw [hE]
            exact ⟨hln.1, hln.2.2, by show (hd S.H 0).state = 2 ∧ (hd S.H 0).gen = 1 ∧ (hd S.H 0).doomed = false; rw [ho]; exact ⟨rfl, rfl, rfl⟩, by show (0 : Int) ≤ 0; decide, by show (0 : Int) % 2 = 0; decide, by show 1 ≤ ws.length; omega, fun p hp => by have := hwk.rng p hp; show 0 ≤ p.cell ∧ p.cell < (S.cells.length : Int); omega⟩
          have HEV := Lib.hid (And.intro hEv (And.intro hEd (And.intro hEc hEok)))
          have hcost : C = costs E.H (turnsTo 0 8) := by rw [hEc.1]; exact HCF.out.1
          have HCO := Lib.hid hcost
          have HFL : Hid (fs.length ≤ 8 ∧ C ≤ 24) := by
            have h1 := (hfut.out 8).1
            have h2 := (hfut.out 8).2
            have h3 := HCF.out.2
            have h4 := HCF.out.1
            rw [← h3] at h1
            exact ⟨h1, by omega⟩
          clear hbef hE hEs hEv hEd hEc hEok hcost HCF HOW HLO HL10 HR1 HR2 HW8 HCS HB8 hgvb hzz
          have z0 : wr.cell? ⟨zc, 0, none⟩ = some (.int .i64 c.cells) := keeps_cell0 HBF.out.cm.keep ((HBA.out.cell 0).trans rfl)
          have z1 : wr.cell? ⟨zc, 1, none⟩ = some (.int .i64 c.slots) := keeps_cell0 HBF.out.cm.keep ((HBA.out.cell 1).trans rfl)
          have z2 : wr.cell? ⟨zc, 2, none⟩ = some (.int .i64 c.bits) := keeps_cell0 HBF.out.cm.keep ((HBA.out.cell 2).trans rfl)
          have z3 : wr.cell? ⟨zc, 3, none⟩ = some (.int .i64 c.tag) := keeps_cell0 HBF.out.cm.keep ((HBA.out.cell 3).trans rfl)
          have z4 : wr.cell? ⟨zc, 4, none⟩ = some (.int .i64 c.bias) := keeps_cell0 HBF.out.cm.keep ((HBA.out.cell 4).trans rfl)
          have z5 : wr.cell? ⟨zc, 5, none⟩ = some (.int .i64 c.defer) := keeps_cell0 HBF.out.cm.keep ((HBA.out.cell 5).trans rfl)
          have QV := verdict_any wr c HOK.out.1 5 0 (by decide) A3 c3 fs (SlR.of_own HBF.out.vs)
          rw [← HEV.out.2.1] at QV
          have HQV := Lib.hid QV
          obtain ⟨vd, hvd⟩ : ∃ q, E.vd = q := ⟨_, rfl⟩
          have hv3 : vd = 1 ∨ vd = 2 ∨ vd = 3 := by
            rw [← hvd, HEV.out.2.1]
            unfold verdict
            split
            · split
              · exact .inr (.inl rfl)
              · exact .inl rfl
            · split
              · split
                · exact .inr (.inr rfl)
                · exact .inl rfl
              · exact .inl rfl
          rw [hvd] at HQV
          have HVD := Lib.hid (And.intro hvd hv3)
          clear QV hvd hv3
          go_wp2_with fail
          refine HQV.out.mono ?_
          rintro e w12 ⟨rfl, hk12⟩
          have HB12 := Lib.hid (HBF.out.calm hk12)
          clear HBF hk12 z0 z1 z2 z3 z4 z5 HQV HK HK10
          go_upto_block 4 with fail
          go_cut [27, 32] (fun v27 v32 wx => v27 = .int .i64 ((E.all : Int) - 2) ∧ v32 = .int .i64 E.endE ∧ Bef wb wx z jb cb 37 S c 0 (Cm.new 0 1 1 5 ws) gw nw cw ws (.slice A3 fs.length c3) fs zv a1 c1 a2 c2 0 0 E.endC E.endH S.W)
          case first =>
            have hall : (E.all : Int) - 2 = (C : Int) + 2 + (E.tail : Int) := by unfold Env.all; rw [← HCO.out]; omega
            have HALL := Lib.hid hall
            clear hall
            rcases HVD.out.2 with h1 | h1 | h1
            · as_aux_lemma =>
                have hlost : ¬ E.lost := fun e => by rcases e with e | e <;> (rw [HVD.out.1, h1] at e; cases e)
                have hE : E.endE = 0 ∧ E.endC = puts S.cells ws ∧ E.endH = dms S.H fs ∧ E.tail = fs.length + nw := by
                  refine ⟨?_, ?_, ?_, ?_⟩
                  · unfold Env.endE; rw [HVD.out.1, h1]; rfl
                  · unfold Env.endC; rw [if_neg hlost, HEV.out.2.2.1.2.2.1, HEV.out.2.2.1.2.2.2.1]
                  · unfold Env.endH; rw [if_neg hlost, HEV.out.2.2.1.1, HEV.out.1]
                  · unfold Env.tail; rw [if_neg hlost, HEV.out.1, HEV.out.2.2.1.2.2.2.1, HP.out.2.2.1]
                have HE := Lib.hid hE
                clear hE hlost
                subst h1
                have hf8 : fs.length ≤ 8 := HFL.out.1
                have hC24 : C ≤ 24 := by have := HFL.out; omega
                go_wp2_with fail
                go_loopw [33] (fun v wx => ∃ k : Nat, k ≤ nw ∧ v = .int .i64 k ∧ Bef wb wx z jb cb 37 S c 0 (Cm.new 0 1 1 5 ws) gw nw cw ws (.slice A3 fs.length c3) fs zv a1 c1 a2 c2 0 0 (puts S.cells (ws.take k)) S.H S.W) (fun v _ => nw - (intOf v).toNat)
                case atStart => exact ⟨0, Nat.zero_le _, rfl, HB12.out⟩
                case round =>
                  obtain ⟨k, hk, rfl, hb⟩ := hrel
                  have HB := Lib.hid hb
                  clear hb HB12
                  have k0 : (0 : Int) ≤ (k : Int) := by omega
                  by_cases hlt : k < nw
                  · as_aux_lemma =>
                      have k1 : (k : Int) < (nw : Int) := by omega
                      obtain ⟨p, hp⟩ : ∃ p, ws[k]? = some p := ⟨_, List.getElem?_eq_getElem (by have := HP.out.2.2.1; omega)⟩
                      have hrg := HP.out.2.1.rng p (List.mem_of_getElem? hp)
                      obtain ⟨cn, hcn⟩ : ∃ cn : Nat, p.cell = cn := ⟨p.cell.toNat, by omega⟩
                      obtain ⟨e0, e1⟩ := prw HB.out.ws hp HP.out.2.2.1
                      rw [hcn] at e0 hrg
                      have n0 : (0 : Int) ≤ (cn : Int) := hrg.1
                      have n1 : (cn : Int) < 64 := hrg.2
                      have hlen : (puts S.cells (ws.take k)).length = 64 := by rw [puts_len]; exact HLEN.out.2.1
                      obtain ⟨y, hy⟩ : ∃ y, (puts S.cells (ws.take k))[cn]? = some y := ⟨_, List.getElem?_eq_getElem (by omega)⟩
                      have x0 := ownC_cell HB.out.cl hy
                      have f0 := World.ownsRow.frozenAt HB.out.cl cn
                      have v0 : wr.cell? ⟨zv, 0, none⟩ = some (.slice (some ⟨a1, 0, none⟩) 64 c1) := (HB.out.view.cell 0).trans rfl
                      have HPP := Lib.hid (And.intro hp hcn)
                      have HKD := Lib.hid ((Keeps.refl [] wr).drew)
                      clear hp hcn hrg hlen hy
                      go_wp2_with fail
                      refine wp_region_tail_q 13 (by kernel_rfl) (by kernel_rfl) ?_
                      simp only [List.take_succ_cons, List.take_zero, List.drop_succ_cons, List.drop_zero]
                      repeat (go_big_quiet_step (fail))
                      refine wpQuiet_nil ?_
                      change wpList _ _ _ _ _ wr.drew
                      replace x0 := keeps_cell0 HKD.out x0
                      have f0' : wr.drew.frozen? ⟨a1, cn, none⟩ = false := f0
                      have HB' := Lib.hid (HB.out.calm HKD.out)
                      clear HB HKD f0 v0 e0 e1
                      generalize wr.drew = wq at *
                      go_wp2_with fail
                      refine ⟨⟨k + 1, by omega, by simp, ?_⟩, by simp [intOf]; omega⟩
                      have := HB'.out.store cn p.x
                      rw [puts_snoc HPP.out.1, HPP.out.2]
                      exact this
                  · obtain rfl : nw = k := by omega
                    have HB0 := HB.out
                    rw [List.take_of_length_le (by rw [HP.out.2.2.1]; exact Nat.le_refl _)] at HB0
                    have HBL := Lib.hid HB0
                    clear HB0 HB hlt hk
                    go_wp2_with fail
                    go_loopw [34] (fun v wx => ∃ k : Nat, k ≤ fs.length ∧ v = .int .i64 k ∧ Bef wb wx z jb cb 37 S c 0 (Cm.new 0 1 1 5 ws) gw nw cw ws (.slice A3 fs.length c3) fs zv a1 c1 a2 c2 0 0 (puts S.cells ws) (dms S.H (fs.take k)) S.W) (fun v _ => fs.length - (intOf v).toNat)
                    case atStart => exact ⟨0, Nat.zero_le _, rfl, HBL.out⟩
                    case round =>
                      obtain ⟨k, hk, rfl, hb⟩ := hrel
                      have HB := Lib.hid hb
                      clear hb HBL k0
                      have k0 : (0 : Int) ≤ (k : Int) := by omega
                      by_cases hlt : k < fs.length
                      · as_aux_lemma =>
                          have k1 : (k : Int) < (fs.length : Int) := by omega
                          obtain ⟨v, hv⟩ : ∃ v, fs[k]? = some v := ⟨_, List.getElem?_eq_getElem hlt⟩
                          have hrg := ((vs_ok E).2 v (by rw [HEV.out.1]; exact List.mem_of_getElem? hv)).1
                          obtain ⟨sn, hsn⟩ : ∃ sn : Nat, v.slot = sn := ⟨v.slot.toNat, by omega⟩
                          obtain ⟨gv, cv, ew, hgl, hkw⟩ := vc_cells HB.out.vs rfl (by omega)
                          injection ew with ew1 _ ew2
                          subst ew1 ew2
                          obtain ⟨t0, _, _, _⟩ := hkw k v hv
                          rw [hsn] at t0 hrg
                          have n0 : (0 : Int) ≤ (sn : Int) := hrg.1
                          have n1 : (sn : Int) < 8 := hrg.2
                          have hHl : (dms S.H (fs.take k)).length = 8 := by rw [dms_len]; exact HLEN.out.1
                          have hWl : S.W.length = 2 * (dms S.H (fs.take k)).length := by rw [hHl]; exact HLEN.out.2.2
                          have hc : ∀ o, o < 8 → ∃ u, wr.cell? ⟨a2, sn * 8 + o, none⟩ = some u := fun o ho => by
                            have hl := slC_len hWl
                            rw [hHl] at hl
                            exact ⟨(slC (dms S.H (fs.take k)) S.W)[sn * 8 + o]'(by omega), (World.ownsRow.cellAt HB.out.sl (sn * 8 + o) (by omega)).trans (List.getElem?_eq_getElem (by omega))⟩
                          obtain ⟨u4, c4⟩ := hc 4 (by decide)
                          obtain ⟨u5, c5⟩ := hc 5 (by decide)
                          have f4 := World.ownsRow.frozenAt HB.out.sl (sn * 8 + 4)
                          have f5 := World.ownsRow.frozenAt HB.out.sl (sn * 8 + 5)
                          obtain ⟨_, ty2, _, ty4, ty5⟩ := HB.out.tys
                          have hne : gv ≠ a2 := ty_ne (ty5 gv rfl) ty4 (by decide)
                          have hnz : zv ≠ a2 := ty_ne ty2 ty4 (by decide)
                          have v3 : wr.cell? ⟨zv, 3, none⟩ = some (.slice (some ⟨a2, 0, none⟩) 8 c2) := (HB.out.view.cell 3).trans rfl
                          have HSV := Lib.hid (And.intro hv (And.intro hsn (And.intro hHl hWl)))
                          have HKD := Lib.hid ((Keeps.refl [] wr).drew)
                          clear hv hsn hrg hkw hc hgl hHl hWl ty2 ty4 ty5
                          go_wp2_with fail
                          refine wp_region_tail_q 10 (by kernel_rfl) (by kernel_rfl) ?_
                          simp only [List.take_succ_cons, List.take_zero, List.drop_succ_cons, List.drop_zero]
                          repeat (go_big_quiet_step (fail))
                          refine wpQuiet_nil ?_
                          change wpList _ _ _ _ _ wr.drew
                          replace c4 := keeps_cell0 HKD.out c4
                          replace c5 := keeps_cell0 HKD.out c5
                          replace v3 := keeps_cell0 HKD.out v3
                          replace t0 := keeps_cell0 HKD.out t0
                          have f4' : wr.drew.frozen? ⟨a2, sn * 8 + 4, none⟩ = false := f4
                          have f5' : wr.drew.frozen? ⟨a2, sn * 8 + 5, none⟩ = false := f5
                          have HB' := Lib.hid (HB.out.calm HKD.out)
                          clear HB HKD f4 f5
                          generalize wr.drew = wq at *
                          go_upto_region 41 with fail
                          have hk41 : Keeps [a2] wq (wq.setCell ⟨a2, sn * 8 + 4, none⟩ (.bool true)) := (Keeps.refl _ _).setCell (.inl (by simp)) _
                          have row41 := (World.ownsRow.stored HB'.out.sl (sn * 8 + 4) (.bool true)).1
                          have x5 : ∃ u, (wq.setCell ⟨a2, sn * 8 + 4, none⟩ (.bool true)).cell? ⟨a2, sn * 8 + 5, none⟩ = some u := by
                            have hl := slC_len HSV.out.2.2.2
                            rw [HSV.out.2.2.1] at hl
                            exact ⟨_, (World.ownsRow.cellAt row41 (sn * 8 + 5) (by omega)).trans (List.getElem?_eq_getElem (by rw [List.length_set]; omega))⟩
                          obtain ⟨u6, x5⟩ := x5
                          have g5 := World.ownsRow.frozenAt row41 (sn * 8 + 5)
                          have y3 : (wq.setCell ⟨a2, sn * 8 + 4, none⟩ (.bool true)).cell? ⟨zv, 3, none⟩ = some (.slice (some ⟨a2, 0, none⟩) 8 c2) := ((HB'.out.view.keeps hk41 (by simpa using hnz)).cell 3).trans rfl
                          have y0 : (wq.setCell ⟨a2, sn * 8 + 4, none⟩ (.bool true)).cell? ⟨gv, k * 4, none⟩ = some (.int .i64 sn) := by
                            obtain ⟨gv', cv', ew, _, hkw⟩ := vc_cells (own_keeps HB'.out.vs hk41 (fun q hq => by simp [Value.ownBlock] at hq; subst hq; simpa using hne)) rfl (by omega)
                            injection ew with ew1 _ ew2
                            injection ew1 with ew1
                            injection ew1 with ew1
                            subst ew1
                            have := (hkw k v HSV.out.1).1
                            rw [HSV.out.2.1] at this
                            exact this
                          obtain ⟨w41, hw41⟩ : ∃ q, wq.setCell ⟨a2, sn * 8 + 4, none⟩ (.bool true) = q := ⟨_, rfl⟩
                          rw [hw41] at hk41 row41 x5 g5 y3 y0
                          try rw [hw41]
                          have HK41 := Lib.hid (And.intro hk41 row41)
                          have HKD := Lib.hid ((Keeps.refl [] w41).drew)
                          clear hk41 row41 hw41 c4 c5 v3 t0 f4' f5' u4 u5
                          go_wp2_with fail
                          refine wp_region_tail_q 10 (by kernel_rfl) (by kernel_rfl) ?_
                          simp only [List.take_succ_cons, List.take_zero, List.drop_succ_cons, List.drop_zero]
                          repeat (go_big_quiet_step (fail))
                          refine wpQuiet_nil ?_
                          change wpList _ _ _ _ _ w41.drew
                          replace x5 := keeps_cell0 HKD.out x5
                          have g5' : w41.drew.frozen? ⟨a2, sn * 8 + 5, none⟩ = false := g5
                          have HK42 : Hid (Keeps [a2] wq w41.drew ∧ w41.drew.ownsRow 0 60 8 (.slice (some ⟨a2, 0, none⟩) 8 c2) 8 ((slC (dms S.H (fs.take k)) S.W).set (sn * 8 + 4) (.bool true))) := ⟨HK41.out.1.trans HKD.out (by simp), own_keeps HK41.out.2 HKD.out (by simp)⟩
                          clear HKD HK41 g5 y3 y0
                          generalize w41.drew = w42 at *
                          go_wp2_with fail
                          refine ⟨⟨k + 1, by omega, by simp, ?_⟩, by simp [intOf]; omega⟩
                          refine HB'.out.slot (HK42.out.1.trans ((Keeps.refl [a2] w42).setCell (.inl (by simp)) _) (fun q hq => .inl hq)) ?_
                          have hst := (World.ownsRow.stored HK42.out.2 (sn * 8 + 5) (.int .i64 1)).1
                          have hg : (dms S.H (fs.take k))[sn]? = some (hd (dms S.H (fs.take k)) v.slot) := by
                            have := HSV.out.2.2.1
                            rw [HSV.out.2.1]
                            unfold hd
                            rw [Int.toNat_natCast, List.getElem?_eq_getElem (by omega)]
                            rfl
                          rw [← slC_dm1 _ _ _ _ HSV.out.2.2.2 hg] at hst
                          rw [dms_snoc HSV.out.1, show v.slot.toNat = sn from by rw [HSV.out.2.1]; rfl]
                          exact hst
                      · obtain rfl : k = fs.length := by omega
                        have HB0 := HB.out
                        rw [List.take_length] at HB0
                        have HBE := Lib.hid HB0
                        clear HB0 HB hlt hk
                        go_wp2_with fail
                        go_meet
                        exact ⟨st_eq (by rw [HALL.out, HE.out.2.2.2]; omega), by rw [HE.out.1], by rw [HE.out.2.1, HE.out.2.2.1]; exact HBE.out⟩
            · as_aux_lemma =>
                have hlost : E.lost := .inl (by rw [HVD.out.1, h1])
                have hE : E.endE = 9 ∧ E.endC = S.cells ∧ E.endH = S.H ∧ E.tail = 0 := by
                  refine ⟨?_, ?_, ?_, ?_⟩
                  · unfold Env.endE; rw [HVD.out.1, h1]; rfl
                  · unfold Env.endC; rw [if_pos hlost, HEV.out.2.2.1.2.2.1]
                  · unfold Env.endH; rw [if_pos hlost, HEV.out.2.2.1.1]
                  · unfold Env.tail; rw [if_pos hlost]
                have HE := Lib.hid hE
                clear hE hlost
                subst h1
                go_wp2_with fail
                go_meet
                exact ⟨st_eq (by rw [HALL.out, HE.out.2.2.2]; omega), by rw [HE.out.1], by rw [HE.out.2.1, HE.out.2.2.1]; exact HB12.out⟩
            · as_aux_lemma =>
                have hlost : E.lost := .inr (by rw [HVD.out.1, h1])
                have hE : E.endE = 8 ∧ E.endC = S.cells ∧ E.endH = S.H ∧ E.tail = 0 := by
                  refine ⟨?_, ?_, ?_, ?_⟩
                  · unfold Env.endE; rw [HVD.out.1, h1]; rfl
                  · unfold Env.endC; rw [if_pos hlost, HEV.out.2.2.1.2.2.1]
                  · unfold Env.endH; rw [if_pos hlost, HEV.out.2.2.1.1]
                  · unfold Env.tail; rw [if_pos hlost]
                have HE := Lib.hid hE
                clear hE hlost
                subst h1
                go_wp2_with fail
                go_meet
                exact ⟨st_eq (by rw [HALL.out, HE.out.2.2.2]; omega), by rw [HE.out.1], by rw [HE.out.2.1, HE.out.2.2.1]; exact HB12.out⟩
          case rest =>
            obtain ⟨rfl, rfl, hb⟩ := hcut
            have HB := Lib.hid hb
            have htb : E.all ≤ 32 + nw ∧ E.all ≤ 60 ∧ 4 ≤ E.all := by
              have h1 := cost_fut E.H E.W E.sg (turnsTo 0 8)
              have h2 : (futs E.H E.W E.sg (turnsTo 0 8)).length = fs.length := congrArg List.length HEV.out.1
              have h3 := HP.out.2.2.1
              have h4 := HEV.out.2.2.1.2.2.2.1
              have h5 : E.vs.length = fs.length := h2
              rw [h2] at h1
              unfold Env.all Env.tail
              rw [h5, h4, h3]
              rw [turns8] at h1 ⊢
              simp only [List.length_cons, List.length_nil] at h1
              split <;> omega
            have HTB := Lib.hid htb
            have hw2 : IntKind.i64.wrap ((E.all : Int) - 2 + 2) = (E.all : Int) := by rw [IntKind.wrap_i64]; omega
            have hw3 : ((E.all : Int) - 2 + 2) = (E.all : Int) := by omega
            have HPS := Lib.hid (show Ph E E.all S 0 (Cm.new 0 1 1 5 ws) from by
              have h := HEV.out.2.2.1
              have := Ph.start (E := E) (S := S) (HF.out.2.2.trans h.2.2.2.2.1.symm) h.2.1.symm (by rw [h.2.2.2.2.2.1]; exact HOWN.out.2) h.1.symm h.2.2.1.symm
              rw [h.2.2.2.2.2.2.2, h.2.2.2.2.2.2.1, h.2.2.2.1] at this
              exact this)
            clear hb HB12 htb
            obtain ⟨T, hT⟩ : ∃ q, E.all = q := ⟨_, rfl⟩
            rw [hT] at HTB hw2 hw3 HPS
            try rw [hT]
            clear hT
            have hT0 : (0 : Int) ≤ (T : Int) := by omega
            have hT1 : (T : Int) ≤ 60 := by have := HTB.out; omega
            go_wp2_with fail
            clear hw2 hw3
            go_loopw [35, 36] (fun v35 v36 wx => ∃ (i r : Nat) (S' : Sp) (d : Int) (x : Cm), i + r = T ∧ v36 = .int .i64 i ∧ v35 = .int .i64 (wtsOf E r) ∧ Bef wb wx z jb cb (37 + i) S' c d x gw nw cw ws (.slice A3 fs.length c3) fs zv a1 c1 a2 c2 0 0 E.endC E.endH S.W ∧ Ph E r S' d x) (fun _ v36 _ => T - (intOf v36).toNat)
            case atStart => exact ⟨0, T, _, _, _, Nat.zero_add _, rfl, by unfold wtsOf; rw [if_neg (by have := HTB.out; omega)], HB.out, HPS.out⟩
            case round =>
              obtain ⟨i, r, S', d, x, hir, rfl, rfl, hb, hp⟩ := hrel
              have HBX := Lib.hid hb
              have HPX := Lib.hid hp
              have i0' : (0 : Int) ≤ (i : Int) := by omega
              have iT : i ≤ 60 := by have := HTB.out; omega
              clear hb hp HB HPS
              cases r with
              | succ r =>
                as_aux_lemma =>
                have i1 : (i : Int) < (T : Int) := by omega
                obtain ⟨s1, s2, s3⟩ := HPX.out.step HEV.out.2.2.2
                have QD := HBX.out.cm.run.done
                rw [s1] at QD
                have HQD := Lib.hid QD
                have QS := HBX.out.step (by omega)
                rw [s2] at QS
                have H3 := Lib.hid s3
                clear s1 s2 s3 QD
                rcases ans_or E r with ha | ha
                · rw [ha] at QS
                  have HQS := Lib.hid QS
                  have HWT := Lib.hid (wts_one ha)
                  clear QS ha
                  go_wp2_with fail
                  refine HQD.out.mono ?_
                  rintro e wq' ⟨rfl, rfl⟩
                  go_wp2_with fail
                  refine HQS.out.mono ?_
                  rintro e w8 ⟨rfl, h8⟩
                  have H8 := Lib.hid h8
                  clear h8 HQS HQD
                  go_wp2_with fail
                  exact ⟨⟨i + 1, r, _, _, _, by omega, by simp, by rw [HWT.out], H8.out, H3.out⟩, by simp [intOf]; omega⟩
                · rw [ha] at QS
                  have HQS := Lib.hid QS
                  have HWT := Lib.hid (wts_two ha)
                  have hw0 := (wts_two ha).1
                  rw [hw0]
                  clear QS ha hw0
                  go_wp2_with fail
                  refine HQD.out.mono ?_
                  rintro e wq' ⟨rfl, rfl⟩
                  go_wp2_with fail
                  refine HQS.out.mono ?_
                  rintro e w8 ⟨rfl, h8⟩
                  have H8 := Lib.hid h8
                  clear h8 HQS HQD
                  go_wp2_with fail
                  exact ⟨⟨i + 1, r, _, _, _, by omega, by simp, by rw [HWT.out.2], H8.out, H3.out⟩, by simp [intOf]; omega⟩
              | zero =>
                obtain rfl : T = i := by omega
                have HFI := Lib.hid HPX.out.fin
                clear HPX hir
                have gz1 : wr.cell? ⟨zv, 1, none⟩ = some (.int .i64 0) := (HBX.out.view.cell 1).trans rfl
                have gz2 : wr.cell? ⟨zv, 2, none⟩ = some (.int .i64 0) := (HBX.out.view.cell 2).trans rfl
                have fz1 := HBX.out.view.frozen 1
                have fz2 := HBX.out.view.frozen 2
                go_upto_region 56 with fail
                have hk14 : Keeps [zv] wr ((wr.setCell ⟨zv, 1, none⟩ (.int .i64 2)).setCell ⟨zv, 2, none⟩ (.int .i64 0)) := ((Keeps.refl _ _).setCell (.inl (by simp)) _).setCell (.inl (by simp)) _
                have hb14 : Blk ((wr.setCell ⟨zv, 1, none⟩ (.int .i64 2)).setCell ⟨zv, 2, none⟩ (.int .i64 0)) zv 45 (viewV a1 c1 2 0 a2 c2) := (HBX.out.view.set_ 1 (.int .i64 2)).set_ 2 (.int .i64 0)
                have hbf14 := HBX.out.gate 2 0 hk14 hb14
                obtain ⟨w14, hw14⟩ : ∃ q, (wr.setCell ⟨zv, 1, none⟩ (.int .i64 2)).setCell ⟨zv, 2, none⟩ (.int .i64 0) = q := ⟨_, rfl⟩
                rw [hw14] at hbf14
                try rw [hw14]
                have HB14 := Lib.hid hbf14
                clear hk14 hb14 hbf14 hw14 gz1 gz2 fz1 fz2 HBX
                have hHl : E.endH.length = 8 := endH_len HEV.out.2.2.2
                have hWl : S.W.length = 2 * E.endH.length := by rw [hHl]; exact HLEN.out.2.2
                have HHL := Lib.hid (And.intro hHl hWl)
                have v3 : w14.cell? ⟨zv, 3, none⟩ = some (.slice (some ⟨a2, 0, none⟩) 8 c2) := (HB14.out.view.cell 3).trans rfl
                have hc : ∀ o, o < 8 → ∃ u, w14.cell? ⟨a2, o, none⟩ = some u := fun o ho => by
                  have hl := slC_len hWl
                  rw [hHl] at hl
                  exact ⟨(slC E.endH S.W)[o]'(by omega), (World.ownsRow.cellAt HB14.out.sl o (by omega)).trans (List.getElem?_eq_getElem (by omega))⟩
                obtain ⟨u0', c0'⟩ := hc 0 (by decide)
                have f0' := World.ownsRow.frozenAt HB14.out.sl 0
                obtain ⟨u1', c1'⟩ := hc 1 (by decide)
                have f1' := World.ownsRow.frozenAt HB14.out.sl 1
                obtain ⟨u2', c2'⟩ := hc 2 (by decide)
                have f2' := World.ownsRow.frozenAt HB14.out.sl 2
                obtain ⟨u3', c3'⟩ := hc 3 (by decide)
                have f3' := World.ownsRow.frozenAt HB14.out.sl 3
                obtain ⟨u4', c4'⟩ := hc 4 (by decide)
                have f4' := World.ownsRow.frozenAt HB14.out.sl 4
                obtain ⟨u5', c5'⟩ := hc 5 (by decide)
                have f5' := World.ownsRow.frozenAt HB14.out.sl 5
                clear hc hHl hWl
                go_upto_region 57 with fail
                have hk15 : Keeps [a2] w14 (((((((w14).setCell ⟨a2, 0, none⟩ (.int .i64 1)).setCell ⟨a2, 1, none⟩ (.int .i64 0)).setCell ⟨a2, 2, none⟩ (.int .i64 0)).setCell ⟨a2, 3, none⟩ (.int .i64 0)).setCell ⟨a2, 4, none⟩ (.bool false)).setCell ⟨a2, 5, none⟩ (.int .i64 0)) := ((((((Keeps.refl _ _).setCell (.inl (by simp)) _).setCell (.inl (by simp)) _).setCell (.inl (by simp)) _).setCell (.inl (by simp)) _).setCell (.inl (by simp)) _).setCell (.inl (by simp)) _
                have hs15 : (((((((w14).setCell ⟨a2, 0, none⟩ (.int .i64 1)).setCell ⟨a2, 1, none⟩ (.int .i64 0)).setCell ⟨a2, 2, none⟩ (.int .i64 0)).setCell ⟨a2, 3, none⟩ (.int .i64 0)).setCell ⟨a2, 4, none⟩ (.bool false)).setCell ⟨a2, 5, none⟩ (.int .i64 0)).ownsRow 0 60 8 (.slice (some ⟨a2, 0, none⟩) 8 c2) 8 (slC (E.endH.set 0 ⟨1, 0, 0, 0, false, 0⟩) S.W) := by
                  have h0 := (World.ownsRow.stored HB14.out.sl 0 (.int .i64 1)).1
                  have h1 := (World.ownsRow.stored h0 1 (.int .i64 0)).1
                  have h2 := (World.ownsRow.stored h1 2 (.int .i64 0)).1
                  have h3 := (World.ownsRow.stored h2 3 (.int .i64 0)).1
                  have h4 := (World.ownsRow.stored h3 4 (.bool false)).1
                  have h5 := (World.ownsRow.stored h4 5 (.int .i64 0)).1
                  rw [slC_head E.endH S.W 0 ⟨1, 0, 0, 0, false, 0⟩ HHL.out.2 (by rw [HHL.out.1]; decide)]
                  exact h5
                have hbf15 := HB14.out.slot hk15 hs15
                obtain ⟨w15, hw15⟩ : ∃ q, ((((((w14).setCell ⟨a2, 0, none⟩ (.int .i64 1)).setCell ⟨a2, 1, none⟩ (.int .i64 0)).setCell ⟨a2, 2, none⟩ (.int .i64 0)).setCell ⟨a2, 3, none⟩ (.int .i64 0)).setCell ⟨a2, 4, none⟩ (.bool false)).setCell ⟨a2, 5, none⟩ (.int .i64 0) = q := ⟨_, rfl⟩
                rw [hw15] at hbf15
                try rw [hw15]
                have HB15 := Lib.hid hbf15
                clear hk15 hs15 hbf15 hw15 v3 HB14 c0' f0' c1' f1' c2' f2' c3' f3' c4' f4' c5' f5'
                have hv := HB15.out.cm.view
                have hgg : S'.gate = ⟨2, 0⟩ := HFI.out.gate.trans (by rw [HEV.out.2.2.1.2.2.2.2.2.1]; rfl)
                have hCl : E.endC.length = 64 := by
                  unfold Env.endC
                  rw [HEV.out.2.2.1.2.2.1]
                  split
                  · exact HLEN.out.2.1
                  · rw [puts_len]; exact HLEN.out.2.1
                have hHH : S'.H = E.endH.set 0 ⟨1, 0, 0, 0, false, 0⟩ := HFI.out.H.trans (by rw [HEV.out.2.2.1.2.2.2.2.2.2.1])
                rw [HFI.out.C, hgg, hHH, HFI.out.W, HEV.out.2.2.1.2.1, hCl] at hv
                have HCL := Lib.hid hCl
                have HVW := Lib.hid hv
                clear hv hgg hHH hCl
                go_wp2_with fail
                refine HVW.out.mono ?_
                rintro e w16 ⟨a3, c4, a4, c5, rfl, h3, h4, _, _, hk16⟩
                have HB16 := Lib.hid (HB15.out.calm hk16)
                go_upto_region 58 with fail
                have hk17 : Keeps [] w16 (w16.alloc (.cells #[.slice (some ⟨a3, 0, none⟩) 64 c4, .int .i64 2, .int .i64 0, .slice (some ⟨a4, 0, none⟩) 8 c5] 45)) := by simp
                have L17 := Blk.new w16 45 #[.slice (some ⟨a3, 0, none⟩) 64 c4, .int .i64 2, .int .i64 0, .slice (some ⟨a4, 0, none⟩) 8 c5]
                have h3' : OwnC (w16.alloc (.cells #[.slice (some ⟨a3, 0, none⟩) 64 c4, .int .i64 2, .int .i64 0, .slice (some ⟨a4, 0, none⟩) 8 c5] 45)) a3 c4 E.endC := own_keeps h3 hk17 (by simp)
                have h4' : OwnS (w16.alloc (.cells #[.slice (some ⟨a3, 0, none⟩) 64 c4, .int .i64 2, .int .i64 0, .slice (some ⟨a4, 0, none⟩) 8 c5] 45)) a4 c5 8 (slL (E.endH.set 0 ⟨1, 0, 0, 0, false, 0⟩) S.W) := own_keeps h4 hk17 (by simp)
                have hbf17 := HB16.out.calm hk17
                obtain ⟨w17, hw17⟩ : ∃ q, w16.alloc (.cells #[.slice (some ⟨a3, 0, none⟩) 64 c4, .int .i64 2, .int .i64 0, .slice (some ⟨a4, 0, none⟩) 8 c5] 45) = q := ⟨_, rfl⟩
                rw [hw17] at L17 h3' h4' hbf17
                try rw [hw17]
                obtain ⟨zz, hzz⟩ : ∃ q, w16.heap.size = q := ⟨_, rfl⟩
                rw [hzz] at L17
                try rw [hzz]
                have HB17 := Lib.hid hbf17
                have HR17 := Lib.hid (And.intro L17 (And.intro h3' h4'))
                clear h3 h4 hk16 hk17 L17 h3' h4' hbf17 hw17 hzz HB15 HB16 HVW
                have z0 : w17.cell? ⟨zc, 0, none⟩ = some (.int .i64 c.cells) := keeps_cell0 HB17.out.cm.keep ((HBA.out.cell 0).trans rfl)
                have z1 : w17.cell? ⟨zc, 1, none⟩ = some (.int .i64 c.slots) := keeps_cell0 HB17.out.cm.keep ((HBA.out.cell 1).trans rfl)
                have z2 : w17.cell? ⟨zc, 2, none⟩ = some (.int .i64 c.bits) := keeps_cell0 HB17.out.cm.keep ((HBA.out.cell 2).trans rfl)
                have z3 : w17.cell? ⟨zc, 3, none⟩ = some (.int .i64 c.tag) := keeps_cell0 HB17.out.cm.keep ((HBA.out.cell 3).trans rfl)
                have z4 : w17.cell? ⟨zc, 4, none⟩ = some (.int .i64 c.bias) := keeps_cell0 HB17.out.cm.keep ((HBA.out.cell 4).trans rfl)
                have z5 : w17.cell? ⟨zc, 5, none⟩ = some (.int .i64 c.defer) := keeps_cell0 HB17.out.cm.keep ((HBA.out.cell 5).trans rfl)
                have y1 : w17.cell? ⟨zz, 1, none⟩ = some (.int .i64 2) := (HR17.out.1.cell 1).trans rfl
                have y2 : w17.cell? ⟨zz, 2, none⟩ = some (.int .i64 0) := (HR17.out.1.cell 2).trans rfl
                have x1 : w17.cell? ⟨zv, 1, none⟩ = some (.int .i64 2) := (HB17.out.view.cell 1).trans rfl
                have x2 : w17.cell? ⟨zv, 2, none⟩ = some (.int .i64 0) := (HB17.out.view.cell 2).trans rfl
                have q1 : ∀ w, (Op.equalIn 10000 42 (.agg #[.int .i64 2, .int .i64 0]) (.agg #[.int .i64 2, .int .i64 0])).run Tryz.prog w = .ok true w := fun w => by have := RowG.eq_run w ⟨2, 0⟩ ⟨2, 0⟩; rw [decide_eq_true rfl] at this; exact this
                have QD := HB17.out.cm.run.done
                rw [show x.done = true from by unfold Cm.done; rw [HFI.out.st]; rfl] at QD
                have QE := HB17.out.cm.run.end_
                rw [show x.end_ = E.endE from by unfold Cm.end_; rw [if_pos HFI.out.st, HFI.out.e]] at QE
                have QW := HB17.out.cm.run.won
                rw [HFI.out.won] at QW
                have QM := Lib.hid (cm_most w17 c nw)
                have hmo : mostOf c nw = nw + 31 := by
                  unfold mostOf
                  rw [if_pos ⟨HOK.out.1, by omega, by omega⟩, HOK.out.2.2]
                  omega
                rw [hmo] at QM
                have hTn : ¬ 1 + ((nw : Int) + 31) < (T : Int) := by have := HTB.out; omega
                have hTd : decide (1 + ((nw : Int) + 31) < (T : Int)) = false := decide_eq_false hTn
                have hTw : IntKind.i64.wrap (1 + ((nw : Int) + 31)) = 1 + ((nw : Int) + 31) := by rw [IntKind.wrap_i64]; omega
                have HQD := Lib.hid QD
                clear QD hmo
                have h3c : (E.endE = 0 ∧ decide E.lost = false ∧ wtsOf E 0 = 0) ∨ (E.endE = 9 ∧ decide E.lost = true ∧ wtsOf E 0 = 1) ∨ (E.endE = 8 ∧ decide E.lost = true ∧ wtsOf E 0 = 0) := by
                  have h := HVD.out.1
                  rcases HVD.out.2 with h1 | h1 | h1
                  · refine .inl ⟨by unfold Env.endE; rw [h, h1]; rfl, decide_eq_false (fun e => by rcases e with e | e <;> (rw [h, h1] at e; cases e)), by unfold wtsOf; rw [if_neg (fun e => by rw [h, h1] at e; cases e.1)]⟩
                  · refine .inr (.inl ⟨by unfold Env.endE; rw [h, h1]; rfl, decide_eq_true (.inl (h.trans h1)), by unfold wtsOf; rw [if_pos ⟨h.trans h1, by omega⟩]⟩)
                  · refine .inr (.inr ⟨by unfold Env.endE; rw [h, h1]; rfl, decide_eq_true (.inr (h.trans h1)), by unfold wtsOf; rw [if_neg (fun e => by rw [h, h1] at e; cases e.1)]⟩)
                obtain ⟨ee, hee⟩ : ∃ q, E.endE = q := ⟨_, rfl⟩
                obtain ⟨wt0, hwt0⟩ : ∃ q, wtsOf E 0 = q := ⟨_, rfl⟩
                rw [hee, hwt0] at h3c
                rw [hee] at QE
                try rw [hee]
                try rw [hwt0]
                clear hee hwt0
                go_cut [284] (fun v wx => v = .bool false ∧ Keeps [] w17 wx)
                case first =>
                  rcases h3c with ⟨g1, g2, g3⟩ | ⟨g1, g2, g3⟩ | ⟨g1, g2, g3⟩
                  all_goals
                    as_aux_lemma =>
                    rw [g2] at QW
                    subst g1 g3
                    have HQE := Lib.hid QE
                    have HQW := Lib.hid QW
                    clear QE QW g2
                    go_wp2_with fail
                    refine HQD.out.mono ?_
                    rintro e wq ⟨rfl, rfl⟩
                    go_wp2_with fail
                    refine HQE.out.mono ?_
                    rintro e wq ⟨rfl, rfl⟩
                    go_wp2_with fail
                    refine HQW.out.mono ?_
                    rintro e wq ⟨rfl, rfl⟩
                    go_wp2_with fail
                    refine QM.out.mono ?_
                    rintro e w18 ⟨rfl, hk18⟩
                    have HB18 := Lib.hid (HB17.out.calm hk18)
                    have HK18 := Lib.hid hk18
                    have QV := HB18.out.cm.run.victims
                    rw [HFI.out.victims, HEV.out.1] at QV
                    have HQV := Lib.hid QV
                    clear QV hk18 QM HQD HQE HQW z0 z1 z2 z3 z4 z5 y1 y2 x1 x2
                    go_wp2_with fail
                    refine HQV.out.mono ?_
                    rintro e w19 ⟨vv, rfl, hown, hk19, _⟩
                    have HSM := Lib.hid (vc_same_yes w19 vv (.slice A3 fs.length c3) fs fs.length rfl (by have := HFL.out; omega) hown (HB18.out.calm hk19).vs)
                    have HK19 := Lib.hid (HK18.out.trans hk19 (by simp))
                    obtain ⟨A9, c9, rfl⟩ := own_form hown
                    clear hown hk19 HQV
                    go_wp2_with fail
                    refine HSM.out.mono ?_
                    rintro e w20 ⟨rfl, hk20⟩
                    have HK20 := Lib.hid (HK19.out.trans hk20 (by simp))
                    clear hk20 HSM
                    go_wp2_with fail
                    go_meet
                    exact ⟨rfl, HK20.out⟩
                case rest =>
                  obtain ⟨rfl, hkc⟩ := hcut
                  have HB := Lib.hid (HB17.out.calm hkc)
                  have HRV := Lib.hid (HR17.out.1.keeps hkc (by simp))
                  have hrc : OwnC wc a3 c4 E.endC := own_keeps HR17.out.2.1 hkc (by simp)
                  have hrs : OwnS wc a4 c5 8 (slL (E.endH.set 0 ⟨1, 0, 0, 0, false, 0⟩) S.W) := own_keeps HR17.out.2.2 hkc (by simp)
                  have HRC := Lib.hid hrc
                  have HRS := Lib.hid hrs
                  clear hkc hrc hrs HB17 HR17 h3c QE QW QM HQD z0 z1 z2 z3 z4 z5 y1 y2 x1 x2 q1 hTn hTd hTw
                  go_wp2_with fail
                  go_loopw [38] (fun v wx => ∃ k : Nat, k ≤ 64 ∧ v = .int .i64 k ∧ Keeps [] wc wx) (fun v _ => 64 - (intOf v).toNat)
                  case atStart => exact ⟨0, by decide, rfl, Keeps.refl _ _⟩
                  case round =>
                    obtain ⟨k, hk, rfl, hkr⟩ := hrel
                    have HKR := Lib.hid hkr
                    clear hkr
                    have k0 : (0 : Int) ≤ (k : Int) := by omega
                    have v0 : wr.cell? ⟨zv, 0, none⟩ = some (.slice (some ⟨a1, 0, none⟩) 64 c1) := keeps_cell0 HKR.out ((HB.out.view.cell 0).trans rfl)
                    by_cases hlt : k < 64
                    · as_aux_lemma =>
                        have k1 : (k : Int) < 64 := by omega
                        obtain ⟨y, hy⟩ : ∃ y, E.endC[k]? = some y := ⟨_, List.getElem?_eq_getElem (by rw [HCL.out]; exact hlt)⟩
                        have x0 := keeps_cell0 HKR.out (ownC_cell HB.out.cl hy)
                        have x1 := keeps_cell0 HKR.out (ownC_cell HRC.out hy)
                        have y0 : wr.cell? ⟨zz, 0, none⟩ = some (.slice (some ⟨a3, 0, none⟩) 64 c4) := keeps_cell0 HKR.out ((HRV.out.cell 0).trans rfl)
                        clear hy
                        go_wp2_with fail
                        go_quiet (fail)
                        go_wp2_with fail
                        exact ⟨⟨k + 1, by omega, by simp, HKR.out.drewN _⟩, by simp [intOf]; omega⟩
                    · obtain rfl : k = 64 := by omega
                      clear hlt hk k0
                      have HB2 := Lib.hid (HB.out.calm HKR.out)
                      have HRV2 := Lib.hid (HRV.out.keeps HKR.out (by simp))
                      have hrs : OwnS wr a4 c5 8 (slL (E.endH.set 0 ⟨1, 0, 0, 0, false, 0⟩) S.W) := own_keeps HRS.out HKR.out (by simp)
                      have HRS2 := Lib.hid hrs
                      clear hrs HB HRV HRC HRS HKR
                      rename_i w_
                      go_wp2_with fail
                      obtain ⟨w21, hw21⟩ : ∃ q, wr = q := ⟨_, rfl⟩
                      rw [hw21] at HB2 HRV2 HRS2
                      try rw [hw21]
                      clear hw21 v0
                      go_loopw [39] (fun v wx => ∃ q : Nat, q ≤ 8 ∧ v = .int .i64 q ∧ Keeps [] w21 wx) (fun v _ => 8 - (intOf v).toNat)
                      case atStart => exact ⟨0, by decide, rfl, Keeps.refl _ _⟩
                      case round =>
                        obtain ⟨q, hq, rfl, hkr⟩ := hrel
                        have HKR := Lib.hid hkr
                        clear hkr
                        have k0 : (0 : Int) ≤ (q : Int) := by omega
                        have v3 : wr.cell? ⟨zv, 3, none⟩ = some (.slice (some ⟨a2, 0, none⟩) 8 c2) := keeps_cell0 HKR.out ((HB2.out.view.cell 3).trans rfl)
                        by_cases hlt : q < 8
                        · as_aux_lemma =>
                            have k1 : (q : Int) < 8 := by omega
                            have y3 : wr.cell? ⟨zz, 3, none⟩ = some (.slice (some ⟨a4, 0, none⟩) 8 c5) := keeps_cell0 HKR.out ((HRV2.out.cell 3).trans rfl)
                            have hHl : (E.endH.set 0 ⟨1, 0, 0, 0, false, 0⟩).length = 8 := by rw [List.length_set]; exact HHL.out.1
                            obtain ⟨m0, m1, m2, m3, m4, m5, m6, m7⟩ := slC_get (E.endH.set 0 ⟨1, 0, 0, 0, false, 0⟩) S.W q (by rw [hHl]; exact HLEN.out.2.2) (by omega)
                            have hc2 : ∀ i u, i < 64 → (slC (E.endH.set 0 ⟨1, 0, 0, 0, false, 0⟩) S.W)[i]? = some u → wr.cell? ⟨a2, i, none⟩ = some u := fun i u hi hu => keeps_cell0 HKR.out ((World.ownsRow.cellAt HB2.out.sl i (by omega)).trans hu)
                            have hc4 : ∀ i u, i < 64 → (slC (E.endH.set 0 ⟨1, 0, 0, 0, false, 0⟩) S.W)[i]? = some u → wr.cell? ⟨a4, i, none⟩ = some u := fun i u hi hu => keeps_cell0 HKR.out ((World.ownsRow.cellAt HRS2.out i (by omega)).trans hu)
                            have d0 := hc2 _ _ (by omega) m0
                            have g0 := hc4 _ _ (by omega) m0
                            have d1 := hc2 _ _ (by omega) m1
                            have g1 := hc4 _ _ (by omega) m1
                            have d2 := hc2 _ _ (by omega) m2
                            have g2 := hc4 _ _ (by omega) m2
                            have d3 := hc2 _ _ (by omega) m3
                            have g3 := hc4 _ _ (by omega) m3
                            have d4 := hc2 _ _ (by omega) m4
                            have g4 := hc4 _ _ (by omega) m4
                            have d5 := hc2 _ _ (by omega) m5
                            have g5 := hc4 _ _ (by omega) m5
                            have d6 := hc2 _ _ (by omega) m6
                            have g6 := hc4 _ _ (by omega) m6
                            have d7 := hc2 _ _ (by omega) m7
                            have g7 := hc4 _ _ (by omega) m7
                            clear hc2 hc4 m0 m1 m2 m3 m4 m5 m6 m7 hHl
                            generalize hd (E.endH.set 0 ⟨1, 0, 0, 0, false, 0⟩) (q : Int) = hx at *
                            generalize wd S.W (q : Int) 0 = p0 at *
                            generalize wd S.W (q : Int) 1 = p1 at *
                            have q2 := fun w => slot_same w hx.gen hx.state hx.stamp hx.thread hx.doomed hx.who p0 p1
                            go_wp2_with fail
                            go_quiet (fail)
                            go_wp2_with fail
                            exact ⟨⟨q + 1, by omega, by simp, HKR.out.drewN _⟩, by simp [intOf]; omega⟩
                        · have k1 : ¬ (q : Int) < 8 := by omega
                          go_wp2_with fail
                          go_ret
                          exact ⟨rfl, ((HKB.out.trans HB2.out.cm.keep (by simp)).trans HKR.out (by simp)).below (by simp) (Nat.le_refl _)⟩
end Go.Proofs.YtdhgiohjdhcedaaGreat.commitAlone
