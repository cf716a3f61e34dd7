/- CommitDefers: an attempt whose commit is deferred tries again: just so often as Defer says, then it wins and dooms them all: the call returns true for every input. -/
import Derived.Test.YtdhgiohjdhcedaaGreatRows
import Derived.Test.YtdhgiohjdhcedaaGreatAw13
import Derived.Test.YtdhgiohjdhcedaaGreatCmWrs
import Derived.Test.YtdhgiohjdhcedaaGreatCmDfB
import Derived.Deep.RegionHeld3
import Derived.Deep.DeepCutAuto
import Derived.Deep.QuietTactic
import Derived.BigQuiet
import Derived.WalkKit
import Derived.ProofKit
import Derived.OpenShut
import Derived.ShutString
import Derived.ChangeOld
import Derived.Below
import Derived.Carry
namespace Go.Proofs.YtdhgiohjdhcedaaGreat.commitDefers
open Go.ChangeShapes Go.WideShapes Go.ChangeAt Go.RowKit
set_option linter.unusedVariables false
set_option linter.unusedSimpArgs false

open df al fd Pol
theorem row_grow {w wr W w1 : World} {wt v1 : Value} {n size : Nat} {t : TypeId} {xs ys : List Value} (how : wr.ownsRow w.heap.size t size wt n xs) (hk : Keeps [] w wr) (hkW : Keeps [] wr W) (hown : w1.ownsRow 0 t size v1 (n + 1) ys) (hg : W.grownBy w1 wt.ownBlock) (hat : v1.ownBlock = wt.ownBlock ∨ v1.ownBlock = some W.heap.size) :
    w1.ownsRow w.heap.size t size v1 (n + 1) ys ∧ Keeps [] w w1 := by
  have hW : Keeps [] w W := hk.trans hkW (by simp)
  have hz := hW.size
  refine ⟨?_, hW.grown hg (fun q hq => .inr (how.lt q hq).1)⟩
  refine own_base hown (fun q hq => ?_)
  rcases hat with e | e
  · exact (how.lt q (e ▸ hq)).1
  · rw [e] at hq; injection hq with hq; omega
theorem oth_succ (j : Nat) : seaCells (oth (j + 1)) = seaCells (oth j) ++ [.bool true, .bool false, .int .i64 (j : Int), .int .u64 255, .int .u64 0] := by
  unfold oth seaCells
  rw [List.range_succ, List.map_append, List.flatMap_append]
  rfl
theorem rnds_eq {n : Nat} (h : n ≤ 7) : rnds n = n := by unfold rnds; split <;> omega
/-- What holds ahead of the t-th try. -/
structure Ahead (n : Nat) (b d : Int) (t : Nat) (S : Sp) (dc : Int) : Prop where
  W : S.W = W1 n
  len : S.H.length = 8
  g : S.gate = ⟨2 * t, 0⟩
  dd : dc = if (t : Int) ≤ want n b d then (t : Int) else want n b d
  on : (t : Int) ≤ want n b d → S.cells = C1 ∧ S.H = H1 n (if t = 0 then lv 1 else fr t)
  off : ¬ (t : Int) ≤ want n b d → S.cells = puts C1 [⟨1, 4⟩] ∧ ∃ u : Nat, S.H = (dms (H1 n (lv (u + 1))) (vsN n)).set 0 (fr (u + 1))
/-- What holds when the t-th try's commit begins. -/
structure Beg (n : Nat) (t : Nat) (S : Sp) : Prop where
  W : S.W = W1 n
  len : S.H.length = 8
  g : S.gate = ⟨2 * t, 0⟩
  C : S.cells = C1
  H : S.H = H1 n (lv (t + 1))
theorem Ahead.beg0 {n : Nat} {b d : Int} {S : Sp} {dc : Int} (hw : 0 ≤ want n b d) (h : Ahead n b d 0 S dc) : Beg n 0 S ∧ dc = 0 := by
  obtain ⟨h1, h2⟩ := h.on (by simpa using hw)
  exact ⟨⟨h.W, h.len, h.g, h1, h2⟩, by rw [h.dd, if_pos (by simpa using hw)]; rfl⟩
theorem Ahead.beg {n : Nat} {b d : Int} {t : Nat} {S : Sp} {dc : Int} (h0 : 0 < t) (ht : (t : Int) ≤ want n b d) (h : Ahead n b d t S dc) :
    (S.claim 0 1).1 = ((t : Int) + 1, 0) ∧ ((S.claim 0 1).2.ready 0 (t + 1) 5).1 = 0 ∧ Beg n t ((S.claim 0 1).2.ready 0 (t + 1) 5).2 ∧ dc = t := by
  obtain ⟨h1, h2⟩ := h.on ht
  rw [if_neg (by omega)] at h2
  have hn : nth S.H 0 = some (fr t) := by rw [h2]; rfl
  have ec : S.claim 0 1 = (((t : Int) + 1, 0), { S.acc 3 0 3 true with H := H1 n ⟨t + 1, 1, 0, 1, false, 0⟩ }) := by
    unfold Sp.claim
    rw [if_neg (by omega), hn]
    simp only
    rw [if_pos (by rfl), h2]
    rfl
  rw [ec]
  have er : Sp.ready { S.acc 3 0 3 true with H := H1 n ⟨t + 1, 1, 0, 1, false, 0⟩ } 0 (t + 1) 5 = (0, { (S.acc 3 0 3 true).acc 3 0 3 true with H := H1 n (lv (t + 1)) }) := by
    unfold Sp.ready
    rw [if_neg (by omega)]
    simp only
    rw [show nth (H1 n ⟨(t : Int) + 1, 1, 0, 1, false, 0⟩) 0 = some ⟨(t : Int) + 1, 1, 0, 1, false, 0⟩ from rfl]
    simp only
    rw [if_pos (by simp)]
    rfl
  refine ⟨rfl, by show (Sp.ready _ 0 (t + 1) 5).1 = 0; rw [er], ?_, by rw [h.dd, if_pos ht]⟩
  show Beg n t (Sp.ready _ 0 (t + 1) 5).2
  rw [er]
  exact ⟨h.W, by simp [H1, hs], h.g, h1, rfl⟩
/-- Behind a try. -/
theorem Beg.after {n : Nat} (hn : n ≤ 7) {b d : Int} (hd : 0 ≤ d) {t : Nat} (ht : (t : Int) ≤ want n b d) {S : Sp} {dc : Int} {x : Cm} (h : Fin (tr n b d t) S dc x) : Ahead n b d (t + 1) S dc ∧ x.done = true ∧ x.end_ = (if (t : Int) = want n b d then 0 else 9) ∧ x.victims = vsN n ∧ S.gate.number = 2 * (t + 1) := by
  have hv := tr_vs n hn b d t
  have e1 := h.d
  rw [hv] at e1
  have hg : S.gate = ⟨2 * ((t + 1 : Nat) : Int), 0⟩ := h.gate.trans (by show (⟨2 * (t : Int) + 2, 0⟩ : Gt) = _; rw [show (2 * ((t + 1 : Nat) : Int)) = 2 * (t : Int) + 2 from by omega])
  have hend : x.end_ = x.e := by unfold Cm.end_; rw [if_pos h.st]
  have hlen : ((tr n b d t).endH.set 0 (fr (t + 1))).length = 8 := by rw [List.length_set]; exact endH_len (tr_ok n b d t)
  by_cases hw : (t : Int) = want n b d
  · obtain ⟨l1, l2, l3⟩ := tr_won n hn hw hd
    have hH : S.H = (dms (H1 n (lv (t + 1))) (vsN n)).set 0 (fr (t + 1)) := by
      have := h.H
      unfold Env.endH at this
      rw [if_neg l1, hv] at this
      exact this
    have hC : S.cells = puts C1 [⟨1, 4⟩] := by
      have := h.C
      unfold Env.endC at this
      rw [if_neg l1] at this
      exact this
    refine ⟨⟨h.W, by rw [h.H]; exact hlen, hg, ?_, fun h => absurd h (by omega), fun _ => ⟨hC, t, hH⟩⟩, by unfold Cm.done; rw [h.st]; rfl, by rw [if_pos hw, hend, h.e, l2], h.victims.trans hv, by rw [hg]; show 2 * ((t + 1 : Nat) : Int) = _; omega⟩
    rw [if_neg (by omega), e1]
    exact l3.trans hw
  · obtain ⟨l1, l2, l3⟩ := tr_lost n hn (show (t : Int) < want n b d by omega)
    have hH : S.H = H1 n (fr (t + 1 : Nat)) := by
      have := h.H
      unfold Env.endH at this
      rw [if_pos l1] at this
      exact this
    have hC : S.cells = C1 := by
      have := h.C
      unfold Env.endC at this
      rw [if_pos l1] at this
      exact this
    refine ⟨⟨h.W, by rw [h.H]; exact hlen, hg, ?_, fun _ => ⟨hC, by rw [if_neg (by omega)]; exact hH⟩, fun h => absurd h (by omega)⟩, by unfold Cm.done; rw [h.st]; rfl, by rw [if_neg hw, hend, h.e, l2], h.victims.trans hv, by rw [hg]; show 2 * ((t + 1 : Nat) : Int) = _; omega⟩
    rw [if_pos (by omega), e1]
    exact l3.trans (by omega)
theorem ownC_cell {w : World} {a c : Nat} {l : List Int} {k : Nat} {x : Int} (h : OwnC w a c l) (hx : l[k]? = some x) : w.cell? ⟨a, k, none⟩ = some (.int .i64 x) := by
  have e : ∀ l : List Int, l.flatMap RowI.cells = l.map (Value.int .i64) := fun l => by
    induction l with
    | nil => rfl
    | cons y l ih => simp [RowI.cells] at ih ⊢; exact ih
  have hlt := (List.getElem?_eq_some_iff.1 hx).1
  exact (World.ownsRow.cellAt h k (by omega)).trans (by rw [e l, List.getElem?_map, hx]; rfl)
theorem may_d (b d : Int) : mayE (cD b d) 0 1 5 [⟨1, 4⟩] = 0 := by kernel_rfl
def Tries (n : Nat) (b d : Int) (wb : World) (z : Sb) (jb t : Nat) (w : World) : Prop := ∃ S dc, Bt wb w z jb (40 + 60 * t) S (cD b d) dc ∧ Ahead n b d t S dc
theorem Tryz.infoSea : (Tryz.prog.info? 79).map (fun i => (i.zero, i.size, i.bytes)) = some (some (.agg #[.bool false, .bool false, .int .i64 0, .int .u64 0, .int .u64 0]), 5, 32) := by kernel_rfl
set_option maxRecDepth 100000 in
set_option maxHeartbeats 8000000 in
theorem walk (bias most many : Int) (w : World) (_ : (Lit.int IntKind.i64 bias).wf = true) (_ : (Lit.int IntKind.i64 most).wf = true) (_ : (Lit.int IntKind.i64 many).wf = true) : Calls Tryz.prog 6 #[.int .i64 bias, .int .i64 most, .int .i64 many] w fun e w' => e = .returned (.bool true) ∧ Below w.heap.size w w' := by
  have HQ := Lib.hid (fun w' => config_any w' 1 7 bias most)
  have hcD : cfgOf 1 7 bias most = cD (bias % 8) (most % 64) := rfl
  rw [hcD] at HQ
  have hok := cfgOf_ok 1 7 bias most
  rw [hcD] at hok
  obtain ⟨b, hb, b0, b7⟩ : ∃ q, bias % 8 = q ∧ 0 ≤ q ∧ q ≤ 7 := ⟨_, rfl, by omega, by omega⟩
  obtain ⟨d, hd, d0, d63⟩ : ∃ q, most % 64 = q ∧ 0 ≤ q ∧ q ≤ 63 := ⟨_, rfl, by omega, by omega⟩
  rw [hb, hd] at HQ hok
  have HOK := Lib.hid hok
  clear hcD hok hb hd
  have m7 := msk7 many
  obtain ⟨n, hn, n7⟩ : ∃ q : Nat, many % 8 = (q : Int) ∧ q ≤ 7 := ⟨(many % 8).toNat, by omega, by omega⟩
  rw [hn] at m7
  clear hn
  obtain ⟨i0, hi, hz0, hz1, hz2⟩ := info_parts Tryz.infoSea
  go_enter Tryz.func6, Tryz.ntmps6
  go_wp2_with fail
  refine (awake13 _).mono ?_
  rintro e w1 ⟨rfl, hk⟩
  have HK := Lib.hid hk
  clear hk
  go_wp2_with fail
  refine (HQ.out _).mono ?_
  rintro e w2 ⟨rfl, hk⟩
  replace HK := Lib.hid (HK.out.trans hk (by simp))
  clear hk HQ
  go_wp2_with fail
  have hka : Keeps [] w2 (w2.alloc (.cells (cD b d).vals 23)) := by simp
  have hba : Blk (w2.alloc (.cells (cD b d).vals 23)) w2.heap.size 23 (cD b d).vals := Blk.new _ _ _
  refine (lives_any _ (cD b d) HOK.out).mono ?_
  rintro e w3 ⟨z, jb, F, rfl, hs, hj, hlo⟩
  obtain ⟨wb, hwb⟩ : ∃ q, w2.alloc (.cells (cD b d).vals 23) = q := ⟨_, rfl⟩
  rw [hwb] at hka hba
  have hs' : SP wb w3 z F (spL (cD b d)) := by rw [← hwb]; exact hs
  have hlo' : wb.heap.size ≤ jb := by rw [← hwb]; exact hlo
  obtain ⟨zc, hzc⟩ : ∃ q, w2.heap.size = q := ⟨_, rfl⟩
  rw [hzc] at hba
  try rw [hzc]
  have HKB := Lib.hid (HK.out.trans hka (by simp))
  have HBA := Lib.hid hba
  have HS := Lib.hid hs'
  have HJ := Lib.hid (And.intro hj hlo')
  clear hs hs' hj hlo hlo' hka hwb HK hba hzc
  go_wp2_with fail
  go_loopw [13, 14] (fun v i wr => ∃ (j : Nat) (vA : Option Addr) (vc : Nat), j ≤ n ∧ i = .int .i64 j ∧ v = .slice vA j vc ∧ wr.ownsRow w3.heap.size 79 5 (.slice vA j vc) j (seaCells (oth j)) ∧ Keeps [] w3 wr) (fun _ i _ => n - (intOf i).toNat)
  case atStart => exact ⟨0, none, 0, Nat.zero_le _, rfl, rfl, ⟨rfl, .inl ⟨rfl, rfl⟩⟩, Keeps.refl _ _⟩
  case round =>
    obtain ⟨j, vA, vc, hj, rfl, rfl, ho, hk⟩ := hrel
    have HO := Lib.hid ho
    have HK := Lib.hid hk
    clear ho hk
    have q0 : (0 : Int) ≤ (j : Int) := by omega
    rename_i wr
    by_cases hlt : j < n
    · have q1 : (j : Int) < (n : Int) := by omega
      have hmx : Hid (j + 1 ≤ maxLen) := by unfold Hid maxLen; omega
      have hby : Hid ((j + 1) * 32 ≤ 140737488355328) := by unfold Hid; omega
      have HO0 := Lib.hid (own_base HO.out (fun _ _ => Nat.zero_le _))
      go_wp2_with (at_builtin; refine wpList_append_row rfl (.tmp 49) (.tmp 53) 63 rfl 79 i0 _ 5 32 Tryz.underlying63 hi hz0 hz1 hz2 rfl (by decide) (.slice vA j vc) j _ rfl (own_keeps HO0.out ((Keeps.refl [] _).alloc _) (by simp)) _ 1 [.bool true, .bool false, .int .i64 j, .int .u64 255, .int .u64 0] rfl (made_row _ _ _ _ rfl) (by simp [Value.oneCell']) hmx.out hby.out ?_; intro v1 w4 hown1 hg1 hat1; have HG := Lib.hid (And.intro hown1 (And.intro hg1 hat1)); clear hown1 hg1 hat1)
      obtain ⟨g1, cc, rfl, _, _⟩ := HG.out.1.form (by omega)
      obtain ⟨r1, r2⟩ := row_grow HO.out HK.out ((Keeps.refl [] _).alloc _) HG.out.1 HG.out.2.1 HG.out.2.2
      rw [← oth_succ] at r1
      exact ⟨⟨j + 1, _, cc, by omega, by simp, rfl, r1, r2⟩, by simp [intOf]; omega⟩
    · obtain rfl : j = n := by omega
      have hsr := HS.out.calm HK.out
      have HJr : Hid (JAt wr jb (cD b d) 0 ∧ wb.heap.size ≤ jb) := ⟨Blk.keeps HJ.out.1 HK.out (by simp), HJ.out.2⟩
      obtain ⟨hcap, hmx⟩ : j ≤ vc ∧ vc ≤ maxLen := by
        obtain ⟨_, A', c', e, hc, hm, _⟩ := SlR.of_own HO.out
        injection e with _ _ e3
        subst e3
        exact ⟨hc, hm⟩
      have QS := Lib.hid (seats_any hsr (spL_fit HOK.out) (by decide) (show (spL (cD b d)).H.length = 8 from (spL_fit HOK.out).slots.trans (by rw [spL_c]; rfl)) vA j vc (oth j) (oth_len j) hcap hmx (fun w' hk => lst_of_own n7 (own_keeps HO.out hk (fun q hq hx => by
        have h1 := (HO.out.lt q hq).1
        have h2 := HS.out.lt q hx
        omega))))
      rw [rnds_eq n7] at QS
      have HSR := Lib.hid hsr
      clear hsr hlt hcap hmx hj HJ HS
      go_wp2_with fail
      refine QS.out.mono ?_
      rintro e w5 ⟨rfl, F5, h5, h6, _⟩
      have HB : Hid (Bt wb w5 z jb 40 (seatsF (spL (cD b d)) (oth j) j) (cD b d) 0) := ⟨⟨F5, h5, Blk.keeps HJr.out.1 h6 (HSR.out.out HJr.out.1 (by decide))⟩, HJr.out.2, (seatsF_fit (spL_fit HOK.out) (oth j) j).wide (by omega), seatsF_wu (spL_wu _) (oth j) (fun p hp => by
        unfold oth at hp
        rw [List.mem_map] at hp
        obtain ⟨i, _, rfl⟩ := hp
        exact ⟨by show (255 : Nat) < _; decide, by show (0 : Nat) < _; decide⟩) j, (seatsF_lay (spL (cD b d)) (oth j) j).c.trans (spL_c _)⟩
      have HA : Hid (Ahead j b d 0 (seatsF (spL (cD b d)) (oth j) j) 0) := by
        obtain ⟨l1, l2⟩ := laid j n7 b d
        obtain ⟨l3, l4⟩ := start_gc b d
        have hl := seatsF_lay (spL (cD b d)) (oth j) j
        have hw : (0 : Int) ≤ want j b d := by unfold want; split <;> omega
        refine ⟨l2, by rw [l1]; simp [H1, hs], hl.g.trans l3, by rw [if_pos (by simpa using hw)]; rfl, fun _ => ⟨hl.C.trans l4, l1⟩, fun h => absurd (by simpa using hw) h⟩
      have e4 : w5.cell? ⟨zc, 4, none⟩ = some (.int .i64 b) := keeps_cell0 HB.out.keep ((HBA.out.cell 4).trans rfl)
      have e5 : w5.cell? ⟨zc, 5, none⟩ = some (.int .i64 d) := keeps_cell0 HB.out.keep ((HBA.out.cell 5).trans rfl)
      obtain ⟨wt, hwt, wt0, wt63⟩ : ∃ q : Nat, want j b d = (q : Int) ∧ 0 ≤ q ∧ q ≤ 63 := by
        unfold want
        split
        · exact ⟨d.toNat, by omega, by omega, by omega⟩
        · exact ⟨0, rfl, by omega, by omega⟩
      have HWT := Lib.hid hwt
      have HT : Hid (Tries j b d wb z jb 0 w5) := ⟨_, _, HB.out, HA.out⟩
      clear h5 h6 HSR HJr QS hwt HO HK HB HA
      go_upto_if 61 with fail
      go_cut [15] (fun v wx => wx = w5 ∧ v = .int .i64 wt)
      case first =>
        by_cases hnb : (j : Int) > b
        · have hw : wt = d := by have := HWT.out; unfold want at this; rw [if_pos hnb] at this; omega
          have q1 : decide (b < (j : Int)) = true := decide_eq_true hnb
          go_wp2_with fail
          go_meet
          exact ⟨rfl, by rw [hw]⟩
        · have hw : wt = 0 := by have := HWT.out; unfold want at this; rw [if_neg hnb] at this; omega
          have q1 : decide (b < (j : Int)) = false := decide_eq_false hnb
          go_wp2_with fail
          go_meet
          exact ⟨rfl, by rw [hw]; rfl⟩
      case rest =>
        obtain ⟨rfl, rfl⟩ := hcut
        go_wp2_with fail
        go_loopw [16] (fun v wr => ∃ t : Nat, t ≤ wt + 1 ∧ v = .int .i64 t ∧ Tries j b d wb z jb t wr) (fun v _ => wt + 1 - (intOf v).toNat)
        case atStart => exact ⟨0, by omega, rfl, HT.out⟩
        case round =>
          obtain ⟨t, htt, rfl, hT⟩ := hrel
          have HTT := Lib.hid hT
          clear hT HT e4 e5
          rename_i wr
          have t0 : (0 : Int) ≤ (t : Int) := by omega
          have w1 : IntKind.i64.wrap ((t : Int) + 1) = (t : Int) + 1 := by rw [IntKind.wrap_i64]; omega
          have w2 : IntKind.i64.wrap (2 * ((t : Int) + 1)) = 2 * ((t : Int) + 1) := by rw [IntKind.wrap_i64]; omega
          by_cases hlt : t ≤ wt
          · have t1 : (t : Int) ≤ (wt : Int) := by omega
            have HTW : Hid ((t : Int) ≤ want j b d) := by unfold Hid; rw [HWT.out]; omega
            go_upto_if 70 with fail
            go_cut [] (fun wx => ∃ S, Bt wb wx z jb (42 + 60 * t) S (cD b d) t ∧ Beg j t S)
            case first =>
              obtain ⟨S, dc, h1, h2⟩ := HTT.out
              have HB := Lib.hid h1
              have HA := Lib.hid h2
              clear h1 h2
              by_cases hz : t = 0
              · subst hz
                obtain ⟨g1, g2⟩ := HA.out.beg0 HTW.out
                have HG := Lib.hid (And.intro g1 g2)
                clear g1 g2
                go_wp2_with fail
                go_meet
                exact ⟨S, by have := HB.out; rw [HG.out.2] at this; exact this.wide (by omega), HG.out.1⟩
              · have q0 : (0 : Int) < (t : Int) := by omega
                obtain ⟨g1, g2, g3, g4⟩ := HA.out.beg (by omega) HTW.out
                have QC := HB.out.claim (by omega) 0 1
                rw [g1] at QC
                have HQC := Lib.hid QC
                have HG := Lib.hid (And.intro g2 (And.intro g3 g4))
                clear g1 g2 g3 g4 QC
                go_wp2_with fail
                refine HB.out.slots.mono ?_
                rintro e wq ⟨rfl, rfl⟩
                go_wp2_with fail
                refine HQC.out.mono ?_
                rintro e w6 ⟨rfl, h6⟩
                have QR := h6.ready (by omega) 0 (t + 1) 5
                rw [HG.out.1] at QR
                have HQR := Lib.hid QR
                have H6 := Lib.hid h6
                clear QR h6 HQC
                go_wp2_with fail
                refine H6.out.slots.mono ?_
                rintro e wq ⟨rfl, rfl⟩
                go_wp2_with fail
                refine HQR.out.mono ?_
                rintro e w7 ⟨rfl, h7⟩
                have H7 := Lib.hid h7
                clear h7 HQR
                go_wp2_with fail
                go_meet
                exact ⟨_, by have := H7.out; rw [HG.out.2.2] at this; exact this.wide (by omega), HG.out.2.1⟩
            case rest =>
              obtain ⟨S, hB, hA⟩ := hcut
              have HB := Lib.hid hB
              have HA := Lib.hid hA
              clear hB hA HTT
              have hrow := made_row wc 67 #[.int .i64 1, .int .i64 4] wc.heap.size rfl
              have hkw : Keeps [] wc (wc.alloc (.cells #[.int .i64 1, .int .i64 4] 67)) := by simp
              have QN := Lib.hid ((HB.out.calm hkw).new_ (n := 8) HA.out.len (by omega) (by omega) 0 (t + 1) 1 5 (some ⟨wc.heap.size, 0, none⟩) 1 [⟨1, 4⟩] (SlR.of_own hrow) (may_d b d))
              have HP0 := Lib.hid (Ph.start (E := tr j b d t) (S := S) HB.out.cc HA.out.W HA.out.g HA.out.H HA.out.C)
              clear hrow hkw
              go_wp2_with fail
              refine QN.out.mono ?_
              rintro e w7 ⟨cb, rfl, hc7⟩
              have HC7 := Lib.hid hc7
              have HALL := Lib.hid (tr_all j n7 b d t)
              clear hc7 QN HB
              go_wp2_with fail
              go_loopw [22] (fun v wr => ∃ (i r : Nat) (S' : Sp) (dc : Int) (x : Cm), i + r = (tr j b d t).all ∧ v = .int .i64 i ∧ CmS wb wr z jb cb 8 (42 + 60 * t + i) S' (cD b d) dc x [] ∧ Ph (tr j b d t) r S' dc x) (fun v _ => 80 - (intOf v).toNat)
              case atStart => exact ⟨0, _, _, _, _, Nat.zero_add _, rfl, HC7.out, HP0.out⟩
              case round =>
                obtain ⟨i, r, S', dc, x, hir, rfl, hc, hp⟩ := hrel
                have HC := Lib.hid hc
                have HP := Lib.hid hp
                have i0' : (0 : Int) ≤ (i : Int) := by omega
                have i80 : (i : Int) < 80 := by have := HALL.out.2; omega
                clear hc hp HC7 HP0
                rename_i wq
                cases r with
                | succ r =>
                  obtain ⟨s1, s2, s3⟩ := HP.out.step (tr_ok j b d t)
                  have QD := HC.out.run.done
                  rw [s1] at QD
                  have HQD := Lib.hid QD
                  have HQS := Lib.hid (HC.out.step (by have := HALL.out.2; omega))
                  have H3 := Lib.hid s3
                  clear s1 s2 s3 QD
                  go_wp2_with fail
                  refine HQD.out.mono ?_
                  rintro e wq' ⟨rfl, rfl⟩
                  go_wp2_with fail
                  refine HQS.out.mono ?_
                  rintro e w8 ⟨rfl, h8, _⟩
                  have H8 := Lib.hid h8
                  clear h8 HQS HQD
                  go_wp2_with fail
                  exact ⟨⟨i + 1, r, _, _, _, by omega, by simp, H8.out, H3.out⟩, by simp [intOf]; omega⟩
                | zero =>
                  have hf1 : ∀ (x0 x1 x2 x3 : Value) (w : World), (Instr.field 45 (.agg #[x0, x1, x2, x3]) 1).run Tryz.prog w = .ok (.agg #[x1, x2]) w := fun x0 x1 x2 x3 w => by kernel_rfl
                  have hf2 : ∀ (x0 x1 : Value) (w : World), (Instr.field 42 (.agg #[x0, x1]) 0).run Tryz.prog w = .ok x0 w := fun x0 x1 w => by kernel_rfl
                  have hfin := HP.out.fin
                  have HAF := Lib.hid (Beg.after n7 d0 HTW.out hfin)
                  have QD := HC.out.run.done
                  rw [HAF.out.2.1] at QD
                  have HQD := Lib.hid QD
                  have QE := HC.out.run.end_
                  rw [HAF.out.2.2.1] at QE
                  have QV := HC.out.run.victims
                  rw [HAF.out.2.2.2.1, vsN_len] at QV
                  have HQV := Lib.hid QV
                  have HFI := Lib.hid hfin
                  have HIR := Lib.hid hir
                  clear QD QV hfin hir
                  by_cases hw : t = wt
                  · have e0 : ((t : Int) == (wt : Int)) = true := by simp [hw]
                    rw [if_pos (by rw [HWT.out, hw])] at QE
                    have HQE := Lib.hid QE
                    clear QE
                    go_wp2_with fail
                    refine HQD.out.mono ?_
                    rintro e wq' ⟨rfl, rfl⟩
                    go_wp2_with fail
                    refine HQD.out.mono ?_
                    rintro e wq' ⟨rfl, rfl⟩
                    go_wp2_with fail
                    refine HQE.out.mono ?_
                    rintro e wq' ⟨rfl, rfl⟩
                    go_wp2_with fail
                    refine HQV.out.mono ?_
                    rintro e w9 ⟨vv, rfl, hown, hk9, _⟩
                    obtain ⟨vA9, vc9, rfl⟩ := own_form hown
                    have HC9 := Lib.hid (HC.out.calm hk9)
                    have QW := (Bt.of_cm HC9.out).view HAF.out.1.len
                    rw [HAF.out.2.2.2.2] at QW
                    have HQW := Lib.hid QW
                    clear QW hown hk9 HC
                    go_wp2_with fail
                    refine HQW.out.mono ?_
                    rintro e w10 ⟨a1, c1, a2, c2, rfl, _, _, _, _, hk10⟩
                    have HB10 := Lib.hid ((Bt.of_cm HC9.out).calm hk10)
                    clear hk10 HQW HC9
                    go_wp2_with fail
                    exact ⟨⟨t + 1, by omega, by first | (simp; done) | (simp; omega), _, _, HB10.out.wide (by have := HALL.out.2; have := HIR.out; omega), HAF.out.1⟩, by simp [intOf]; omega⟩
                  · have e0 : ((t : Int) == (wt : Int)) = false := by simp; omega
                    rw [if_neg (by rw [HWT.out]; omega)] at QE
                    have HQE := Lib.hid QE
                    clear QE
                    go_wp2_with fail
                    refine HQD.out.mono ?_
                    rintro e wq' ⟨rfl, rfl⟩
                    go_wp2_with fail
                    refine HQD.out.mono ?_
                    rintro e wq' ⟨rfl, rfl⟩
                    go_wp2_with fail
                    refine HQE.out.mono ?_
                    rintro e wq' ⟨rfl, rfl⟩
                    go_wp2_with fail
                    refine HQV.out.mono ?_
                    rintro e w9 ⟨vv, rfl, hown, hk9, _⟩
                    obtain ⟨vA9, vc9, rfl⟩ := own_form hown
                    have HC9 := Lib.hid (HC.out.calm hk9)
                    have QW := (Bt.of_cm HC9.out).view HAF.out.1.len
                    rw [HAF.out.2.2.2.2] at QW
                    have HQW := Lib.hid QW
                    clear QW hown hk9 HC
                    go_wp2_with fail
                    refine HQW.out.mono ?_
                    rintro e w10 ⟨a1, c1, a2, c2, rfl, _, _, _, _, hk10⟩
                    have HB10 := Lib.hid ((Bt.of_cm HC9.out).calm hk10)
                    clear hk10 HQW HC9
                    go_wp2_with fail
                    exact ⟨⟨t + 1, by omega, by first | (simp; done) | (simp; omega), _, _, HB10.out.wide (by have := HALL.out.2; have := HIR.out; omega), HAF.out.1⟩, by simp [intOf]; omega⟩
          · obtain rfl : t = wt + 1 := by omega
            obtain ⟨S, dc, hB, hA⟩ := HTT.out
            have hw0 : ¬ ((wt + 1 : Nat) : Int) ≤ want j b d := by rw [HWT.out]; omega
            obtain ⟨hC, u, hH⟩ := hA.off hw0
            have hdc := hA.dd
            rw [if_neg hw0, HWT.out] at hdc
            subst hdc
            have hv := hB.view (n := 8) hA.len
            obtain ⟨we1, we2, we3, we4⟩ := won_end j n7 b d u
            have hl64 : S.cells.length = 64 := by rw [hC]; exact we2
            rw [hl64, hC] at hv
            have HV := Lib.hid hv
            have HB := Lib.hid hB
            have HW4 := Lib.hid (And.intro we1 we4)
            have HHH := Lib.hid (And.intro hH (And.intro (show S.W.length = 2 * S.H.length from hB.fit.words) hA.len))
            clear hB hA hw0 hC hH hv we1 we2 we3 we4 hl64 HTT hlt htt t0 w1 w2
            go_wp2_with fail
            refine HV.out.mono ?_
            rintro e w6 ⟨a1, c1, a2, c2, rfl, h1, h2, _, _, hk6⟩
            have HB6 := Lib.hid (HB.out.calm hk6)
            have HR := Lib.hid (And.intro h1 h2)
            obtain ⟨gn, hgn⟩ : ∃ q, S.gate.number = q := ⟨_, rfl⟩
            obtain ⟨go, hgo⟩ : ∃ q, S.gate.owner = q := ⟨_, rfl⟩
            rw [hgn, hgo]
            clear h1 h2 hk6 HV HB hgn hgo
            go_wp2_with fail
            have hk7 : Keeps [] w6 (w6.alloc (.cells #[.slice (some ⟨a1, 0, none⟩) 64 c1, .int .i64 gn, .int .i64 go, .slice (some ⟨a2, 0, none⟩) 8 c2] 45)) := by simp
            have L7 := Lib.hid (Blk.new w6 45 #[.slice (some ⟨a1, 0, none⟩) 64 c1, .int .i64 gn, .int .i64 go, .slice (some ⟨a2, 0, none⟩) 8 c2])
            have HB7 := Lib.hid (HB6.out.calm hk7)
            have hr1 : OwnC (w6.alloc (.cells #[.slice (some ⟨a1, 0, none⟩) 64 c1, .int .i64 gn, .int .i64 go, .slice (some ⟨a2, 0, none⟩) 8 c2] 45)) a1 c1 (puts C1 [⟨1, 4⟩]) := own_keeps HR.out.1 hk7 (by simp)
            have hr2 : OwnS (w6.alloc (.cells #[.slice (some ⟨a1, 0, none⟩) 64 c1, .int .i64 gn, .int .i64 go, .slice (some ⟨a2, 0, none⟩) 8 c2] 45)) a2 c2 8 (slL S.H S.W) := own_keeps HR.out.2 hk7 (by simp)
            obtain ⟨w7, hw7⟩ : ∃ q, w6.alloc (.cells #[.slice (some ⟨a1, 0, none⟩) 64 c1, .int .i64 gn, .int .i64 go, .slice (some ⟨a2, 0, none⟩) 8 c2] 45) = q := ⟨_, rfl⟩
            rw [hw7] at L7 HB7 hr1 hr2
            try rw [hw7]
            obtain ⟨zv, hzv⟩ : ∃ q, w6.heap.size = q := ⟨_, rfl⟩
            rw [hzv] at L7
            try rw [hzv]
            have HR1 := Lib.hid (ownC_cell hr1 HW4.out.1)
            have HR2 : Hid (∀ k : Nat, 1 ≤ k → k ≤ j → w7.cell? ⟨a2, k * 8 + 4, none⟩ = some (.bool true) ∧ w7.cell? ⟨a2, k * 8 + 5, none⟩ = some (.int .i64 1)) := fun k k1 kj => by
              have hg := slC_get S.H S.W k HHH.out.2.1 (by rw [HHH.out.2.2]; omega)
              have hh : hd S.H (k : Int) = ⟨1, 2, k, k + 1, true, 1⟩ := by
                unfold hd
                rw [Int.toNat_natCast, HHH.out.1, HW4.out.2 k k1 kj]
                rfl
              rw [hh] at hg
              exact ⟨(World.ownsRow.cellAt hr2 (k * 8 + 4) (by omega)).trans hg.2.2.2.2.1, (World.ownsRow.cellAt hr2 (k * 8 + 5) (by omega)).trans hg.2.2.2.2.2.1⟩
            clear hw7 hzv hk7 hr1 hr2 HB6 HR HW4 HHH
            go_loopw [25] (fun v wr => ∃ k : Nat, 1 ≤ k ∧ k ≤ j + 1 ∧ v = .int .i64 k ∧ Keeps [] w7 wr) (fun v _ => j + 1 - (intOf v).toNat)
            case atStart => exact ⟨1, by omega, by omega, rfl, Keeps.refl _ _⟩
            case round =>
              obtain ⟨k, k1, kj, rfl, hkr⟩ := hrel
              have HKR := Lib.hid hkr
              clear hkr
              have k0 : (0 : Int) ≤ (k : Int) := by omega
              by_cases hlt : k ≤ j
              · have q1 : (k : Int) ≤ (j : Int) := by omega
                have q8 : (k : Int) < 8 := by omega
                obtain ⟨x4, x5⟩ := HR2.out k k1 hlt
                replace x4 := keeps_cell0 HKR.out x4
                replace x5 := keeps_cell0 HKR.out x5
                have v3 : wr.cell? ⟨zv, 3, none⟩ = some (.slice (some ⟨a2, 0, none⟩) 8 c2) := keeps_cell0 HKR.out ((L7.out.cell 3).trans rfl)
                go_wp2_with fail
                exact ⟨⟨k + 1, by omega, by omega, by simp, HKR.out⟩, by simp [intOf]; omega⟩
              · have q1 : ¬ (k : Int) ≤ (j : Int) := by omega
                have HC : Hid (∀ w', Keeps [] wr w' → w'.cell? ⟨zv, 0, none⟩ = some (.slice (some ⟨a1, 0, none⟩) 64 c1) ∧ w'.cell? ⟨a1, 1, none⟩ = some (.int .i64 4) ∧ w'.cell? ⟨zc, 5, none⟩ = some (.int .i64 d)) := fun w' hk => ⟨keeps_cell0 (HKR.out.trans hk (by simp)) ((L7.out.cell 0).trans rfl), keeps_cell0 (HKR.out.trans hk (by simp)) HR1.out, keeps_cell0 (HB7.out.keep.trans (HKR.out.trans hk (by simp)) (by simp)) ((HBA.out.cell 5).trans rfl)⟩
                have QD : Hid (∀ w', Keeps [] wr w' → Calls Tryz.prog 38 #[PT jb] w' fun e w'' => e = .returned (.int .i64 wt) ∧ Keeps [] wr w'') := fun w' hk => by
                  obtain ⟨_, _, hj⟩ := (HB7.out.calm (HKR.out.trans hk (by simp))).ex
                  exact (judge_defers hj).mono fun e w'' ⟨he, h2⟩ => ⟨he, h2 ▸ hk⟩
                obtain ⟨pb, hpb⟩ : ∃ q : Bool, decide (d ≤ (wt : Int)) = q := ⟨_, rfl⟩
                have QP : Hid (∀ w', Keeps [] wr w' → Calls Tryz.prog 39 #[PT jb] w' fun e w'' => e = .returned (.bool pb) ∧ Keeps [] wr w'') := fun w' hk => by
                  obtain ⟨_, _, hj⟩ := (HB7.out.calm (HKR.out.trans hk (by simp))).ex
                  have h9 : (decide ((cD b d).tag = 2) && decide ((wt : Int) ≥ (cD b d).defer)) = pb := by
                    rw [← hpb]
                    show (true && decide (d ≤ (wt : Int))) = _
                    simp
                  have := judge_promoted hj
                  rw [h9] at this
                  exact this.mono fun e w'' ⟨he, h2⟩ => ⟨he, hk.trans h2 (by simp)⟩
                have HKX := Lib.hid (HB7.out.keep.trans HKR.out (by simp))
                have hkB : Keeps [] wr wr := Keeps.refl _ _
                clear HR1 HR2 HB7 L7 HKR
                cases pb
                all_goals
                  go_wp2_with fail
                  go_region_held3 (fun w' => w'.cell? ⟨zv, 0, none⟩ = some (.slice (some ⟨a1, 0, none⟩) 64 c1) ∧ w'.cell? ⟨a1, 1, none⟩ = some (.int .i64 4) ∧ w'.cell? ⟨zc, 5, none⟩ = some (.int .i64 d)) (first | with_reducible exact HC.out _ (by first | with_reducible assumption | with_reducible exact Keeps.drew (by with_reducible assumption)) | go_keep) ((first
                    | (go_at_call 38; (with_reducible refine (QD.out _ (by first | with_reducible assumption | with_reducible exact Keeps.drew (by with_reducible assumption))).mono ?_); rintro e wd ⟨rfl, hkd⟩)
                    | (go_at_call 39; (with_reducible refine (QP.out _ (by first | with_reducible assumption | with_reducible exact Keeps.drew (by with_reducible assumption))).mono ?_); rintro e wd ⟨rfl, hkd⟩)))
                  all_goals
                    go_wp2_with fail
                    go_ret
                    exact ⟨rfl, ((HKB.out.trans HKX.out (by simp)).trans (by first | with_reducible assumption | with_reducible exact Keeps.drew (by with_reducible assumption)) (by simp)).below (by simp) (Nat.le_refl _)⟩

theorem own : ownKnob Tryz.prog.godebug = none := by kernel_rfl
theorem laidOut : laidOutB Tryz.prog = true := by kernel_rfl

set_option maxRecDepth 100000 in
theorem lifted (os : Os) (started : os.Started) (H : Type) (enc : TypeId × Value → H) :
    ReturnsInHanded {} Tryz.checked os 6 .any (Rows.commitDefersSpec.pre6 enc Tryz.prog Tryz.f6 Rows.commitDefersRow.domain false) (Rows.commitDefersSpec.post enc Tryz.prog Tryz.f6 false true false false) := by
  refine returnsInHanded_of_change (C := Tryz.checked) own started (by kernel_rfl) Tryz.func6
    (ChangeSpec.witness6 (enc := enc) (C := Tryz.checked) false ⟨#[], #[.int .i64 0, .int .i64 0, .int .i64 0], []⟩ 8 (by kernel_rfl) (by kernel_rfl) (by kernel_rfl) (by kernel_rfl)) ?_
  intro W base args ds gs before hval0 hW hcnd _
  have hval : ∀ (j : Nat) t v, Tryz.f6.params[j]? = some t → args[j]? = some v → Value.okWide Tryz.prog W .any base t v := hval0
  have hW' := hW
  obtain ⟨p, q, hA0, hV, rfl, hfz, hnd⟩ := hW
  have hA : DataW.TrodAll enc Tryz.prog W 0 (fun _ => true) true Tryz.f6.params.toList args.toList ds p := hA0
  rw [Tryz.params6] at hA hval
  obtain ⟨v0, vs0, d0, ds0, p0, q0, hargs, rfl, rfl, h0, r0⟩ := trodAll_cons hA
  obtain ⟨v1, vs1, d1, ds1, p1, q1, rfl, rfl, rfl, h1, r1⟩ := trodAll_cons r0
  obtain ⟨v2, vs2, d2, ds2, p2, q2, rfl, rfl, rfl, h2, r2⟩ := trodAll_cons r1
  obtain ⟨rfl, rfl, rfl⟩ := trodAll_nil r2
  obtain rfl : args = #[v0, v1, v2] := by cases args; simp_all
  obtain ⟨rfl, rfl⟩ := trodVars_none hV
  obtain ⟨a0, rfl, rfl, rfl, w0⟩ := open_int Tryz.underlying3 (hval 0 3 v0 rfl rfl) h0
  obtain ⟨a1, rfl, rfl, rfl, w1⟩ := open_int Tryz.underlying3 (hval 1 3 v1 rfl rfl) h1
  obtain ⟨a2, rfl, rfl, rfl, w2⟩ := open_int Tryz.underlying3 (hval 2 3 v2 rfl rfl) h2
  clear hA0 hval0
  refine (walk a0 a1 a2 W w0 w1 w2).mono fun e W' ⟨he, bel⟩ => ?_
  subst he
  exact ⟨_, rfl, _, _, _, [], _, [], hW', trodAll_mk1 (shut_bool Tryz.underlying4 _), (trodAll_cons_mk (shut_int Tryz.underlying3 w0) (trodAll_cons_mk (shut_int Tryz.underlying3 w1) (trodAll_cons_mk (shut_int Tryz.underlying3 w2) trodAll_mk0))), rfl, bel.frame _, fun h => by cases h⟩

theorem over : Rows.commitDefersRow.holds Tryz.pinned (OpenSpec.ofChange Rows.commitDefersSpec) :=
  OpenClaim.holds_of_wide 6 Tryz.f6 rfl rfl rfl rfl rfl rfl rfl ⟨rfl, rfl, rfl, rfl, rfl⟩ rfl rfl rfl rfl rfl (by kernel_rfl) Tryz.func6 (by kernel_rfl)
    (of_decide_eq_true (by kernel_rfl)) (by unfold Func.isWrapper; first | (rw [if_pos (by decide +kernel)]; kernel_rfl) | (rw [if_neg (by decide +kernel)]; exact ⟨rfl, rfl⟩))
    (fun os started H enc _ => lifted os started H enc)

/-- The statement. -/
theorem proved : Rows.CommitDefersSaid := over
#print axioms proved
end Go.Proofs.YtdhgiohjdhcedaaGreat.commitDefers
