/- StartAll: eight begins at one time: the call returns true for every number and order. -/
import Derived.Test.YtnednminpmiojaaRows
import Derived.Test.YtnednminpmiojaaStartAllW
import Derived.Test.YtnednminpmiojaaSlotsP
import Derived.Test.YtnednminpmiojaaLocal2
import Derived.WalkKit
import Derived.ProofKit
import Derived.OpenShut
import Derived.ShutString
import Derived.ChangeOld
import Derived.Below
import Derived.Carry
namespace Go.Proofs.Ytnednminpmiojaa.startAll
open Go.ChangeShapes Go.WideShapes Go.ChangeAt Go.RowKit
set_option linter.unusedVariables false

open SA
set_option maxRecDepth 100000 in
set_option maxHeartbeats 16000000 in
theorem walk (a0 : Int) (A : Option Addr) (cap : Nat) (xs : List Int) (w : World) (_ : (Lit.int IntKind.i64 a0).wf = true) (hxs : Slc w A xs) :
    Calls Try.prog 5 #[.int .i64 a0, .slice A xs.length cap] w fun e w' => e = .returned (.bool true) ∧ Below w.heap.size w w' := by
  have HX := Lib.hid hxs
  have hand := i64_and7 a0
  obtain ⟨m, hm⟩ : ∃ m : Nat, a0 % 8 = m := ⟨(a0 % 8).toNat, by omega⟩
  rw [hm] at hand
  have hm8 : m < 8 := by omega
  have hsum : IntKind.i64.wrap (1 + (m : Int)) = ((1 + m : Nat) : Int) := by rw [IntKind.wrap_i64]; omega
  obtain ⟨n, hn⟩ : ∃ n, 1 + m = n := ⟨_, rfl⟩
  rw [hn] at hsum
  have hn8 : 1 ≤ n ∧ n ≤ 8 := by omega
  have hml := hxs.1
  clear hxs hm hm8 hn
  go_enter Try.func5, Try.ntmps5
  go_wp2_with fail
  refine (awake10 _).mono ?_
  rintro e w1 ⟨rfl, hk⟩
  have HK := Lib.hid hk
  clear hk
  go_wp2_with fail
  refine (small10 w1 n).mono ?_
  rintro e w2 ⟨rfl, hk⟩
  replace HK := Lib.hid (HK.out.trans hk (by simp))
  clear hk hand hsum
  go_wp2_with fail
  have hok : Cf.ok ⟨1, n, 8, 1, 0, 0⟩ := by unfold Cf.ok; simp; omega
  have hq : Calls Try.prog 12 #[.agg #[.int .i64 1, .int .i64 n, .int .i64 8, .int .i64 1, .int .i64 0, .int .i64 0]] w2 fun e w' => ∃ z F, e = .returned (.tuple #[PT z.p, .int .i64 0]) ∧ SP w2 w' z F (Sp.new ⟨1, n, 8, 1, 0, 0⟩) := sp_new w2 ⟨1, n, 8, 1, 0, 0⟩ hok
  refine hq.mono ?_
  rintro e w3 ⟨z, F, rfl, hs⟩
  have HS := Lib.hid (hs.base HK.out)
  have HF := Lib.hid (Fit.new hok)
  clear hq hs HK hok
  go_wp2_with fail
  have hz : ∃ w4 zb, Arr w4 zb 70 (fun _ => .pointer none) ∧ w3.alloc (.cells #[.pointer none, .pointer none, .pointer none, .pointer none, .pointer none, .pointer none, .pointer none, .pointer none] 70) = w4 ∧ w3.heap.size = zb ∧ Keeps [] w3 w4 := ⟨_, _, Blk.new _ _ _, rfl, rfl, by simp⟩
  obtain ⟨w4, zb, ha, hw4, hzb, hk4⟩ := hz
  rw [hw4, hzb]
  have HA := Lib.hid ha
  have HZB : Hid (w.heap.size ≤ zb) := by have := HS.out.keep.size; unfold Hid; omega
  replace HS := Lib.hid (HS.out.calm hk4)
  clear ha hw4 hzb hk4
  go_loopw [10] (fun i wr => ∃ (m : Nat) (B : Nat → Nat), m ≤ 8 ∧ i = .int .i64 m ∧ SP w wr z F (Sp.new ⟨1, n, 8, 1, 0, 0⟩) ∧ Arr wr zb 70 (fun j => if j < m then PT (B j) else .pointer none) ∧ (∀ i, i < m → StAt wr z (B i) (St.new ((i : Int) + 1) (10 + (i : Int))) ∧ w.heap.size ≤ B i) ∧ (∀ i j, i < m → j < m → i ≠ j → B i ≠ B j)) (fun i _ => 8 - (intOf i).toNat)
  case atStart => exact ⟨0, fun _ => 0, Nat.zero_le _, rfl, HS.out, HA.out.same (fun i hi => by simp), fun i hi => absurd hi (by omega), fun i j hi => absurd hi (by omega)⟩
  case round =>
    obtain ⟨m, B, hm, rfl, h1, h2, h3, h4⟩ := hrel
    have R1 := Lib.hid h1
    have R2 := Lib.hid h2
    have R3 := Lib.hid (And.intro h3 h4)
    clear h1 h2 h3 h4 HS HA
    by_cases hlt : (m : Int) < 8
    · have q1 : IntKind.i64.wrap ((m : Int) + 1) = (m : Int) + 1 := by rw [IntKind.wrap_i64]; omega
      have q2 : IntKind.i64.wrap (10 + (m : Int)) = 10 + (m : Int) := by rw [IntKind.wrap_i64]; omega
      have q0 : (0 : Int) ≤ (m : Int) := by omega
      go_wp2_with fail
      refine (st_new R1.out ((m : Int) + 1) (10 + (m : Int)) (by omega) (by omega) (by omega)).mono ?_
      rintro e w5 ⟨b, rfl, hb, hlb, hk⟩
      have R1b := Lib.hid (R1.out.calm hk)
      have R2b := Lib.hid (R2.out.keeps hk (by simp))
      have hcell : w5.cell? ⟨zb, m, none⟩ = some (.pointer none) := (R2b.out.cell (j := m) (by omega)).trans (by simp)
      have hfro := R2b.out.frozen m
      have hset := R2b.out.set (j := m) (by omega) (PT b) (f' := fun j => if j < m + 1 then PT (if j = m then b else B j) else .pointer none) (fun i hi => by
        by_cases e : i = m
        · subst e; simp
        · simp only [if_neg e]
          by_cases e2 : i < m
          · rw [if_pos e2, if_pos (by omega)]
          · rw [if_neg e2, if_neg (by omega)])
      have hkz : Keeps [zb] w5 (w5.setCell ⟨zb, m, none⟩ (PT b)) := (Keeps.refl _ _).setCell (.inl (by simp)) _
      have hzb5 := R2b.out
      have hbz : b ≠ zb := Blk.ne_ hb hzb5 (by decide)
      have hnew : SP w (w5.setCell ⟨zb, m, none⟩ (PT b)) z F (Sp.new ⟨1, n, 8, 1, 0, 0⟩) := R1b.out.away hkz (fun q hq => by
        simp at hq
        subst hq
        exact ⟨HZB.out, R1b.out.out hzb5 (by decide), fun t' ht' => by rw [Blk.tyOf hzb5] at ht'; injection ht' with ht'; subst ht'; decide⟩)
      have hall : (∀ i, i < m + 1 → StAt (w5.setCell ⟨zb, m, none⟩ (PT b)) z (if i = m then b else B i) (St.new ((i : Int) + 1) (10 + (i : Int))) ∧ w.heap.size ≤ (if i = m then b else B i)) := fun i hi => by
        by_cases e : i = m
        · subst e
          rw [if_pos rfl]
          exact ⟨Blk.keeps hb hkz (by simpa using hbz), Nat.le_trans R1.out.keep.size hlb⟩
        · rw [if_neg e]
          obtain ⟨g1, g2⟩ := R3.out.1 i (by omega)
          have g3 := Blk.keeps g1 hk (by simp)
          exact ⟨Blk.keeps g3 hkz (by have := Blk.ne_ g3 hzb5 (by decide); simpa using this), g2⟩
      have hdif : ∀ i j, i < m + 1 → j < m + 1 → i ≠ j → (if i = m then b else B i) ≠ (if j = m then b else B j) := fun i j hi hj hij => by
        by_cases e : i = m
        · rw [if_pos e]
          have e2 : ¬ j = m := by omega
          rw [if_neg e2]
          have := Blk.lt (R3.out.1 j (by omega)).1
          omega
        · rw [if_neg e]
          by_cases e2 : j = m
          · rw [if_pos e2]
            have := Blk.lt (R3.out.1 i (by omega)).1
            omega
          · rw [if_neg e2]
            exact R3.out.2 i j (by omega) (by omega) hij
      have RN := Lib.hid (And.intro hnew (And.intro hset (And.intro hall hdif)))
      clear hset hkz hzb5 hbz hnew hall hdif hb hlb hk
      go_wp2_with fail
      exact ⟨⟨m + 1, fun j => if j = m then b else B j, by omega, by simp, RN.out.1, RN.out.2.1, RN.out.2.2.1, RN.out.2.2.2⟩, by simp [intOf]; omega⟩
    · obtain rfl : m = 8 := by omega
      have E0 : Hid (Eight w wr z n B (fun _ => .seek 0)) := ⟨⟨F, _, 0, R1.out, HF.out, by rw [SA.msum_start]; omega, SA.inv_start n hn8.1, by simp [Sp.new]; rw [Nat.mul_comm]⟩, fun i hi => ⟨(R3.out.1 i hi).1, (R3.out.1 i hi).2⟩, R3.out.2, hn8.2⟩
      have A0 : Hid (Arr wr zb 70 (fun j => PT (B j))) := R2.out.same (fun i hi => by simp [hi])
      clear R1 R2 R3 HF
      go_wp2_with fail
      go_loopw [13] (fun i wr => ∃ (k : Nat) (P : Nat → Pz), k ≤ xs.length ∧ i = .int .i64 k ∧ Eight w wr z n B P ∧ Arr wr zb 70 (fun j => PT (B j))) (fun i _ => xs.length - (intOf i).toNat)
      case atStart => exact ⟨0, _, Nat.zero_le _, rfl, E0.out, A0.out⟩
      case round =>
        obtain ⟨k, P, hk, rfl, h1, h2⟩ := hrel
        have R1 := Lib.hid h1
        have R2 := Lib.hid h2
        clear h1 h2 E0 A0
        by_cases hlt2 : (k : Int) < (xs.length : Int)
        · have q0 : (0 : Int) ≤ (k : Int) := by omega
          obtain ⟨x, hx⟩ : ∃ x, xs[k]? = some x := ⟨_, List.getElem?_eq_getElem (by omega)⟩
          have hxk := (HX.out.keeps R1.out.keep).2
          rcases hxk with h0 | ⟨ab, off, rfl, _, hc⟩
          · subst h0; simp at hx
          · have c0 := hc k x hx
            have hand := i64_and7 x
            obtain ⟨i, hi⟩ : ∃ i : Nat, x % 8 = i := ⟨(x % 8).toNat, by omega⟩
            rw [hi] at hand
            have hi8 : i < 8 := by omega
            have hi8i : (i : Int) < 8 := by omega
            have hi0 : (0 : Int) ≤ (i : Int) := by omega
            have c1 : wr.cell? ⟨zb, i, none⟩ = some (PT (B i)) := R2.out.cell hi8
            unfold maxLen at hml
            clear hx hc hi
            go_wp2_with fail
            refine (R1.out.step hi8 R2.out (by decide) (by decide)).mono ?_
            rintro e w6 ⟨a, P', rfl, h3, _, _, _, h7⟩
            have S1 := Lib.hid h3
            have S2 := Lib.hid h7
            clear h3 h7 c0 c1 hand
            go_wp2_with fail
            exact ⟨⟨k + 1, P', by omega, by simp, S1.out, S2.out⟩, by simp [intOf]; omega⟩
        · go_wp2_with fail
          obtain ⟨w7, hw7⟩ : ∃ q, q = wr := ⟨_, rfl⟩
          subst hw7
          go_loopw [14] (fun i wr => ∃ (k : Nat) (P : Nat → Pz), k ≤ 8 ∧ i = .int .i64 k ∧ Eight w wr z n B P ∧ Arr wr zb 70 (fun j => PT (B j)) ∧ (∀ q, q < k → mu n (P q) = 0)) (fun i _ => 8 - (intOf i).toNat)
          case atStart => exact ⟨0, P, Nat.zero_le _, rfl, R1.out, R2.out, fun q hq => absurd hq (by omega)⟩
          case round =>
            obtain ⟨k, P, hk, rfl, h1, h2, h3⟩ := hrel
            replace R1 := Lib.hid h1
            replace R2 := Lib.hid h2
            have R3 := Lib.hid h3
            clear h1 h2 h3
            by_cases hlt3 : (k : Int) < 8
            · have q0 : (0 : Int) ≤ (k : Int) := by omega
              have hk8 : k < 8 := by omega
              go_wp2_with fail
              go_loopw [15] (fun i wr => ∃ (g : Nat) (P : Nat → Pz), g ≤ 20 ∧ i = .int .i64 g ∧ Eight w wr z n B P ∧ Arr wr zb 70 (fun j => PT (B j)) ∧ (∀ q, q < k → mu n (P q) = 0) ∧ mu n (P k) + g ≤ 20) (fun i _ => 20 - (intOf i).toNat)
              case atStart => exact ⟨0, P, Nat.zero_le _, rfl, R1.out, R2.out, R3.out, by have := SA.mu_le n (P k); omega⟩
              case round =>
                obtain ⟨g, P, hg, rfl, h1, h2, h3, h4⟩ := hrel
                replace R1 := Lib.hid h1
                replace R2 := Lib.hid h2
                replace R3 := Lib.hid h3
                have c1 : wr.cell? ⟨zb, k, none⟩ = some (PT (B k)) := R2.out.cell hk8
                clear h1 h2 h3
                by_cases hlt4 : (g : Int) < 20
                · have hdn := R1.out.done hk8
                  by_cases hm : mu n (P k) = 0
                  · rw [decide_eq_true hm] at hdn
                    have HD := Lib.hid hdn
                    have HM := Lib.hid hm
                    clear hdn hm h4
                    go_wp2_with fail
                    refine HD.out.mono ?_
                    rintro e wq ⟨rfl, rfl⟩
                    go_wp2_with fail
                    exact ⟨⟨k + 1, P, by omega, by simp, R1.out, R2.out, fun q hq => by
                      by_cases e : q = k
                      · subst e; exact HM.out
                      · exact R3.out q (by omega)⟩, by simp [intOf]; omega⟩
                  · rw [decide_eq_false hm] at hdn
                    have HD := Lib.hid hdn
                    have HM := Lib.hid hm
                    clear hdn hm
                    go_wp2_with fail
                    refine HD.out.mono ?_
                    rintro e wq ⟨rfl, rfl⟩
                    go_wp2_with fail
                    refine (R1.out.step hk8 R2.out (by decide) (by decide)).mono ?_
                    rintro e w8 ⟨a, P', rfl, h5, h6, h7, _, h8⟩
                    have S1 := Lib.hid h5
                    have S2 := Lib.hid h8
                    have S3 := Lib.hid h6
                    have S4 : Hid (mu n (P' k) + (g + 1) ≤ 20) := by have := HM.out; have := h7 (by omega); unfold Hid; omega
                    clear h5 h6 h7 h8 h4
                    go_wp2_with fail
                    exact ⟨⟨g + 1, P', by omega, by simp, S1.out, S2.out, fun q hq => by rw [S3.out q (by omega)]; exact R3.out q hq, S4.out⟩, by simp [intOf]; omega⟩
                · have HM : Hid (mu n (P k) = 0) := by unfold Hid; omega
                  clear h4
                  go_wp2_with fail
                  exact ⟨⟨k + 1, P, by omega, by simp, R1.out, R2.out, fun q hq => by
                    by_cases e : q = k
                    · subst e; exact HM.out
                    · exact R3.out q (by omega)⟩, by simp [intOf]; omega⟩
            · obtain rfl : k = 8 := by omega
              go_wp2_with fail
              have HMU := Lib.hid R3.out
              obtain ⟨⟨F', S, k, g1, g2, g3, g4, g5⟩, g6, g7, g8⟩ := R1.out
              have hka : Keeps [] wr (wr.alloc (.cells #[.bool false, .bool false, .bool false, .bool false, .bool false, .bool false, .bool false, .bool false] 73)) := by simp
              have at9 : Arr (wr.alloc (.cells #[.bool false, .bool false, .bool false, .bool false, .bool false, .bool false, .bool false, .bool false] 73)) wr.heap.size 73 (fun _ => .bool false) := Blk.new _ _ _
              have HS9 := Lib.hid (g1.calm hka)
              have HST := Lib.hid (fun i (hi : i < 8) => Blk.keeps (g6 i hi).1 hka (by simp))
              have HZ9 := Lib.hid (R2.out.keeps hka (by simp))
              have HT9 := Lib.hid at9
              obtain ⟨w9, hw9⟩ : ∃ q, wr.alloc (.cells #[.bool false, .bool false, .bool false, .bool false, .bool false, .bool false, .bool false, .bool false] 73) = q := ⟨_, rfl⟩
              obtain ⟨zt, hzt⟩ : ∃ q, wr.heap.size = q := ⟨_, rfl⟩
              rw [hw9] at HS9 HST HZ9 HT9 ⊢
              rw [hzt] at HT9 ⊢
              have HZT : Hid (w.heap.size ≤ zt) := by have := g1.keep.size; unfold Hid; omega
              clear hka at9 hw9 hzt
              have hSn : S.H.length = n := g4.len
              have hv : Calls Try.prog 17 #[PT z.p] w9 fun e w' => ∃ q1 c1 q2 c2, e = .returned (.agg #[.slice (some ⟨q1, 0, none⟩) S.cells.length c1, .int .i64 S.gate.number, .int .i64 S.gate.owner, .slice (some ⟨q2, 0, none⟩) n c2]) ∧ OwnS w' q2 c2 n (slL S.H S.W) ∧ w9.heap.size ≤ q2 ∧ Keeps [] w9 w' :=
                (sp_view HS9.out g2).mono fun e w' ⟨q1, c1, q2, c2, he, h1, h2, h3, h4, hk⟩ => by
                  rw [hSn] at he h2
                  exact ⟨q1, c1, q2, c2, he, h2, h4, hk⟩
              refine hv.mono ?_
              rintro e w10 ⟨q1, q1c, q2, q2c, rfl, hr2, hq2, hk⟩
              have HR2 : Hid (LocR w10 F' q2 59 8 n q2c ((slL S.H S.W).flatMap Sl.cells)) := ⟨hr2, HS9.out.fresh hq2⟩
              replace HS9 := Lib.hid (HS9.out.calm hk)
              replace HST := Lib.hid (fun i (hi : i < 8) => Blk.keeps (HST.out i hi) hk (by simp))
              replace HZ9 := Lib.hid (HZ9.out.keeps hk (by simp))
              replace HT9 := Lib.hid (HT9.out.keeps hk (by simp))
              have HG := Lib.hid (And.intro g4 (And.intro g5 g8))
              clear hk hv hr2 hq2 g1 g2 g3 g4 g5 g6 g7 g8 hSn R1 R2
              go_wp2_with fail
              have hka : Keeps [] w10 (w10.alloc (.cells #[.slice (some ⟨q1, 0, none⟩) S.cells.length q1c, .int .i64 S.gate.number, .int .i64 S.gate.owner, .slice (some ⟨q2, 0, none⟩) n q2c] 41)) := by simp
              have hbv := Lib.hid (Blk.new w10 41 #[.slice (some ⟨q1, 0, none⟩) S.cells.length q1c, .int .i64 S.gate.number, .int .i64 S.gate.owner, .slice (some ⟨q2, 0, none⟩) n q2c])
              replace HR2 := Lib.hid (HR2.out.calm hka)
              replace HS9 := Lib.hid (HS9.out.calm hka)
              replace HST := Lib.hid (fun i (hi : i < 8) => Blk.keeps (HST.out i hi) hka (by simp))
              replace HZ9 := Lib.hid (HZ9.out.keeps hka (by simp))
              replace HT9 := Lib.hid (HT9.out.keeps hka (by simp))
              obtain ⟨w11, hw11⟩ : ∃ q, w10.alloc (.cells #[.slice (some ⟨q1, 0, none⟩) S.cells.length q1c, .int .i64 S.gate.number, .int .i64 S.gate.owner, .slice (some ⟨q2, 0, none⟩) n q2c] 41) = q := ⟨_, rfl⟩
              obtain ⟨zv, hzv⟩ : ∃ q, w10.heap.size = q := ⟨_, rfl⟩
              rw [hw11] at HR2 HS9 HST HZ9 HT9 hbv ⊢
              rw [hzv] at hbv ⊢
              clear hka hw11 hzv
              have hTb := HT9.out
              unfold Arr at hTb
              have nzt : Hid (zv ≠ zt ∧ zb ≠ zt ∧ q2 ≠ zt ∧ ∀ i, i < 8 → B i ≠ zt) := ⟨Blk.ne_ hbv.out hTb (by decide), Blk.ne_ (cs := _) HZ9.out hTb (by decide), ne_ty HR2.out.ty hTb.tyOf (by decide), fun i hi => Blk.ne_ (HST.out i hi) hTb (by decide)⟩
              clear hTb
              go_loopw [16, 19] (fun g i wr => ∃ (q got : Nat) (T : Nat → Bool), q ≤ 8 ∧ i = .int .i64 q ∧ g = .int .i64 got ∧ Keeps [zt] w11 wr ∧ Arr wr zt 73 (fun j => .bool (T j)) ∧ got = cnt n T ∧ (∀ j, j < n → (T j = true ↔ ∃ k, k < q ∧ P k = .live j)) ∧ ((∀ k, k < q → ∃ s, P k = .live s) → got = q)) (fun _ i _ => 8 - (intOf i).toNat)
              case atStart => exact ⟨0, 0, fun _ => false, Nat.zero_le _, rfl, rfl, Keeps.refl _ _, HT9.out, by rw [cnt_zero], fun j hj => ⟨fun h => (by cases h), fun ⟨k, hk, _⟩ => absurd hk (by omega)⟩, fun _ => rfl⟩
              case round =>
                obtain ⟨q, got, T, hq, rfl, rfl, h1, h2, h3, h4, h5⟩ := hrel
                have R1 := Lib.hid h1
                have R2 := Lib.hid h2
                have R3 := Lib.hid (And.intro h3 (And.intro h4 h5))
                clear h1 h2 h3 h4 h5
                by_cases hlt5 : (q : Int) < 8
                · have q0 : (0 : Int) ≤ (q : Int) := by omega
                  have hq8 : q < 8 := by omega
                  have c1 : wr.cell? ⟨zb, q, none⟩ = some (PT (B q)) := (HZ9.out.keeps R1.out (by simpa using nzt.out.2.1)).cell hq8
                  have hst : StAt wr z (B q) (SA.st n q (P q)) := Blk.keeps (HST.out q hq8) R1.out (by simpa using nzt.out.2.2.2 q hq8)
                  have hcn := cnt_le T n
                  have hgot : got ≤ 8 := by have := R3.out.1; have := HG.out.2.2; omega
                  rcases SA.live_of (HG.out.1.own q hq8) (HMU.out q hq8) with ⟨s, hp, hs, hH⟩ | hp
                  · have hsl : Calls Try.prog 29 #[PT (B q)] wr fun e w' => e = .returned (.tuple #[.int .i64 s, .int .i64 1, .int .i64 0]) ∧ Keeps [] wr w' := by
                      rw [hp] at hst
                      exact st_slot hst
                    have QS := Lib.hid hsl
                    have HT' := Lib.hid hst
                    have HP := Lib.hid (And.intro hp hH)
                    have hTs : T s = false := by
                      rcases e : T s with _ | _
                      · rfl
                      · obtain ⟨k, hk, hpk⟩ := (R3.out.2.1 s hs).1 e
                        have h6 := HG.out.1.own k (by omega)
                        rw [hpk] at h6
                        have := SA.heads_ne (i := q) (k := k) (.inr hH) (.inr h6.2)
                        omega
                    have hsl2 : (slL S.H S.W)[s]? = some ⟨SA.alive q, 0, 0⟩ := slL_get S.H S.W s _ 0 0 hH (by rw [HG.out.2.1, List.getElem?_replicate, if_pos (by omega)]) (by rw [HG.out.2.1, List.getElem?_replicate, if_pos (by omega)])
                    have HSL := Lib.hid hsl2
                    have HTS := Lib.hid hTs
                    clear hsl hst hp hH hsl2
                    go_wp2_with fail
                    refine QS.out.mono ?_
                    rintro e wa ⟨rfl, hk⟩
                    have S1 := Lib.hid (R1.out.trans hk (by simp))
                    have S2 := Lib.hid (R2.out.keeps hk (by simp))
                    have S3 : Hid (StAt wa z (B q) (SA.st n q (P q))) := Blk.keeps HT'.out hk (by simp)
                    have hc1 : wa.cell? ⟨zb, q, none⟩ = some (PT (B q)) := (HZ9.out.keeps S1.out (by simpa using nzt.out.2.1)).cell hq8
                    clear hk c1 QS
                    have hdn : Calls Try.prog 28 #[PT (B q)] wa fun e w' => e = .returned (.bool true) ∧ wa = w' := by
                      have := st_done S3.out
                      rw [HP.out.1] at this
                      exact this
                    have QD := Lib.hid hdn
                    clear hdn
                    go_wp2_with fail
                    refine QD.out.mono ?_
                    rintro e wq ⟨rfl, rfl⟩
                    have hr := HR2.out.far S1.out (by simpa using nzt.out.2.2.1)
                    have hbz := hbv.out.keeps S1.out (by simpa using nzt.out.1)
                    have d3 : wa.cell? ⟨zv, 2 + 1, none⟩ = some (.slice (some ⟨q2, 0, none⟩) n q2c) := (hbz.cell 3).trans rfl
                    have t0 : wa.cell? ⟨zt, s, none⟩ = some (.bool false) := (S2.out.cell (j := s) (by omega)).trans (by rw [HTS.out])
                    have t1 := S2.out.frozen s
                    have y0 : wa.cell? ⟨q2, s * 8, none⟩ = some (.int .i64 1) := hr.cell (sl_get _ s _ HSL.out 0 _ rfl)
                    have y1 : wa.cell? ⟨q2, s * 8 + 1, none⟩ = some (.int .i64 2) := hr.cell (sl_get _ s _ HSL.out 1 _ rfl)
                    have y2 : wa.cell? ⟨q2, s * 8 + 2, none⟩ = some (.int .i64 (10 + (q : Int))) := hr.cell (sl_get _ s _ HSL.out 2 _ rfl)
                    have y3 : wa.cell? ⟨q2, s * 8 + 3, none⟩ = some (.int .i64 ((q : Int) + 1)) := hr.cell (sl_get _ s _ HSL.out 3 _ rfl)
                    have y4 : wa.cell? ⟨q2, s * 8 + 4, none⟩ = some (.bool false) := hr.cell (sl_get _ s _ HSL.out 4 _ rfl)
                    have y5 : wa.cell? ⟨q2, s * 8 + 5, none⟩ = some (.int .i64 0) := hr.cell (sl_get _ s _ HSL.out 5 _ rfl)
                    have y6 : wa.cell? ⟨q2, s * 8 + 6, none⟩ = some (.int .u64 0) := hr.cell (sl_get _ s _ HSL.out 6 _ rfl)
                    have y7 : wa.cell? ⟨q2, s * 8 + 7, none⟩ = some (.int .u64 0) := hr.cell (sl_get _ s _ HSL.out 7 _ rfl)
                    have he : ∀ w, (Op.equalIn 10000 59 (.agg #[.int .i64 1, .int .i64 2, .int .i64 (10 + (q : Int)), .int .i64 ((q : Int) + 1), .bool false, .int .i64 0, .int .u64 0, .int .u64 0]) (.agg #[.int .i64 1, .int .i64 2, .int .i64 (10 + (q : Int)), .int .i64 ((q : Int) + 1), .bool false, .int .i64 0, .int .u64 0, .int .u64 0])).run Try.prog w = .ok true w := fun w => by simp [go_sem, sig_same9]
                    have m1 : IntKind.i64.wrap ((q : Int) + 1) = (q : Int) + 1 := by rw [IntKind.wrap_i64]; omega
                    have m2 : IntKind.i64.wrap (10 + (q : Int)) = 10 + (q : Int) := by rw [IntKind.wrap_i64]; omega
                    have m3 : IntKind.i64.wrap ((got : Int) + 1) = (got : Int) + 1 := by rw [IntKind.wrap_i64]; omega
                    have s0 : (0 : Int) ≤ (s : Int) := by omega
                    have sn : (s : Int) < (n : Int) := by omega
                    have s8 : (s : Int) < 8 := by omega
                    have HSN := Lib.hid hs
                    have RN : Hid (Arr (wa.setCell ⟨zt, s, none⟩ (.bool true)) zt 73 (fun j => .bool (if j = s then true else T j))) := S2.out.set (j := s) (by omega) (.bool true) (fun i hi => by by_cases e : i = s <;> simp [e])
                    have RK : Hid (Keeps [zt] w11 (wa.setCell ⟨zt, s, none⟩ (.bool true))) := S1.out.setCell (.inl (by simp)) _
                    have RC : Hid (got + 1 = cnt n (fun j => if j = s then true else T j)) := by
                      have h6 := cnt_upd T s HTS.out n
                      rw [if_pos hs] at h6
                      have := R3.out.1
                      unfold Hid
                      omega
                    have RT : Hid (∀ j, j < n → ((if j = s then true else T j) = true ↔ ∃ k, k < q + 1 ∧ P k = .live j)) := fun j hj => by
                      by_cases e : j = s
                      · subst e; simp; exact ⟨q, by omega, HP.out.1⟩
                      · rw [if_neg e, R3.out.2.1 j hj]
                        constructor
                        · rintro ⟨k, hk, h7⟩; exact ⟨k, by omega, h7⟩
                        · rintro ⟨k, hk, h7⟩
                          by_cases e2 : k = q
                          · subst e2; rw [HP.out.1] at h7; injection h7 with h7; exact absurd h7.symm e
                          · exact ⟨k, by omega, h7⟩
                    have RL : Hid ((∀ k, k < q + 1 → ∃ s, P k = .live s) → got + 1 = q + 1) := fun hh => by rw [R3.out.2.2 (fun k hk => hh k (by omega))]
                    clear hr hbz hs hcn
                    go_wp2_with fail
                    exact ⟨⟨q + 1, got + 1, fun j => if j = s then true else T j, by omega, by simp, by simp, RK.out, RN.out, RC.out, RT.out, RL.out⟩, by simp [intOf]; omega⟩
                  · have hsl : Calls Try.prog 29 #[PT (B q)] wr fun e w' => e = .returned (.tuple #[.int .i64 0, .int .i64 0, .int .i64 6]) ∧ Keeps [] wr w' := by
                      rw [hp] at hst
                      exact st_slot hst
                    have QS := Lib.hid hsl
                    have HT' := Lib.hid hst
                    have HP := Lib.hid hp
                    clear hsl hst hp
                    go_wp2_with fail
                    refine QS.out.mono ?_
                    rintro e wa ⟨rfl, hk⟩
                    have S1 := Lib.hid (R1.out.trans hk (by simp))
                    have S2 := Lib.hid (R2.out.keeps hk (by simp))
                    have S3 : Hid (StAt wa z (B q) (SA.st n q (P q))) := Blk.keeps HT'.out hk (by simp)
                    have hc1 : wa.cell? ⟨zb, q, none⟩ = some (PT (B q)) := (HZ9.out.keeps S1.out (by simpa using nzt.out.2.1)).cell hq8
                    clear hk c1 QS
                    have hdn : Calls Try.prog 28 #[PT (B q)] wa fun e w' => e = .returned (.bool true) ∧ wa = w' := by
                      have := st_done S3.out
                      rw [HP.out] at this
                      exact this
                    have QD := Lib.hid hdn
                    clear hdn
                    go_wp2_with fail
                    refine QD.out.mono ?_
                    rintro e wq ⟨rfl, rfl⟩
                    have RT : Hid (∀ j, j < n → (T j = true ↔ ∃ k, k < q + 1 ∧ P k = .live j)) := fun j hj => by
                      rw [R3.out.2.1 j hj]
                      constructor
                      · rintro ⟨k, hk, h7⟩; exact ⟨k, by omega, h7⟩
                      · rintro ⟨k, hk, h7⟩
                        by_cases e2 : k = q
                        · subst e2; rw [HP.out] at h7; cases h7
                        · exact ⟨k, by omega, h7⟩
                    have RL : Hid ((∀ k, k < q + 1 → ∃ s, P k = .live s) → got = q + 1) := fun hh => by
                      obtain ⟨s, h7⟩ := hh q (by omega)
                      rw [HP.out] at h7
                      cases h7
                    go_wp2_with fail
                    exact ⟨⟨q + 1, got, T, by omega, by simp, rfl, S1.out, S2.out, R3.out.1, RT.out, RL.out⟩, by simp [intOf]; omega⟩
                · obtain rfl : q = 8 := by omega
                  obtain rfl : got = n := SA.fin HG.out.1 HMU.out HG.out.2.2 R3.out.1 R3.out.2.1 R3.out.2.2
                  go_wp2_with fail
                  go_ret
                  exact ⟨rfl, (HS9.out.keep.trans R1.out (fun q hq => .inr (by simp at hq; subst hq; exact HZT.out))).below (by simp) (Nat.le_refl _)⟩

theorem own : ownKnob Try.prog.godebug = none := by kernel_rfl
theorem laidOut : laidOutB Try.prog = true := by kernel_rfl

set_option maxRecDepth 100000 in
theorem lifted (os : Os) (started : os.Started) (H : Type) (enc : TypeId × Value → H) :
    ReturnsInHanded {} Try.checked os 5 .any (Rows.startAllSpec.pre6 enc Try.prog Try.f5 Rows.startAllRow.domain false) (Rows.startAllSpec.post enc Try.prog Try.f5 false true false false) := by
  refine returnsInHanded_of_change (C := Try.checked) own started (by kernel_rfl) Try.func5
    (ChangeSpec.witness6 (enc := enc) (C := Try.checked) false ⟨#[], #[.int .i64 0, .slice none 0 0], []⟩ 8 (by kernel_rfl) (by kernel_rfl) (by kernel_rfl) (by kernel_rfl)) ?_
  intro W base args ds gs before hval0 hW hcnd _
  have hval : ∀ (j : Nat) t v, Try.f5.params[j]? = some t → args[j]? = some v → Value.okWide Try.prog W .any base t v := hval0
  have hW' := hW
  obtain ⟨p, q, hA0, hV, rfl, hfz, hnd⟩ := hW
  have hA : DataW.TrodAll enc Try.prog W 0 (fun _ => true) true Try.f5.params.toList args.toList ds p := hA0
  rw [Try.params5] at hA hval
  obtain ⟨v0, vs0, d0, ds0, p0, q0, hargs, rfl, rfl, h0, r0⟩ := trodAll_cons hA
  obtain ⟨v1, vs1, d1, ds1, p1, q1, rfl, rfl, rfl, h1, r1⟩ := trodAll_cons r0
  obtain ⟨rfl, rfl, rfl⟩ := trodAll_nil r1
  obtain rfl : args = #[v0, v1] := by cases args; simp_all
  obtain ⟨rfl, rfl⟩ := trodVars_none hV
  obtain ⟨a0, rfl, rfl, rfl, w0⟩ := open_int Try.underlying3 (hval 0 3 v0 rfl rfl) h0
  have k1 := h1
  have lt1 : ∀ x ∈ p1, x.block < W.heap.size := by obtain ⟨m, hm⟩ := k1; exact DataW.trod_lt m _ _ _ hm
  obtain ⟨A1, n1, c1, rfl⟩ := okWide_slice Try.underlying67 (hval 1 67 v1 rfl rfl)
  obtain ⟨fl1, hf1⟩ := h1
  obtain ⟨⟨xs1, s1⟩, z1⟩ := ints_open Try.underlying67 Try.underlying3 (by kernel_rfl) hf1
  obtain rfl := s1.1
  clear hA0 hval0
  refine (walk a0 A1 c1 xs1 W w0 (Slc.of_ints s1)).mono fun e W' ⟨he, bel⟩ => ?_
  subst he
  exact ⟨_, rfl, _, _, _, [], _, [], hW', trodAll_mk1 (shut_bool Try.underlying4 _), (trodAll_cons_mk (shut_int Try.underlying3 w0) (trodAll_cons_mk (Below.trod laidOut (by kernel_rfl) (of_decide_eq_true (by kernel_rfl)) k1 bel lt1) trodAll_mk0)), rfl, bel.frame _, fun h => by cases h⟩

theorem over : Rows.startAllRow.holds Try.pinned (OpenSpec.ofChange Rows.startAllSpec) :=
  OpenClaim.holds_of_wide 5 Try.f5 rfl rfl rfl rfl rfl rfl rfl ⟨rfl, rfl, rfl, rfl, rfl⟩ rfl rfl rfl rfl rfl (by kernel_rfl) Try.func5 (by kernel_rfl)
    (of_decide_eq_true (by kernel_rfl)) (by unfold Func.isWrapper; first | (rw [if_pos (by decide +kernel)]; kernel_rfl) | (rw [if_neg (by decide +kernel)]; exact ⟨rfl, rfl⟩))
    (fun os started H enc _ => lifted os started H enc)

/-- The statement. -/
theorem proved : Rows.StartAllSaid := over
#print axioms proved
end Go.Proofs.Ytnednminpmiojaa.startAll
