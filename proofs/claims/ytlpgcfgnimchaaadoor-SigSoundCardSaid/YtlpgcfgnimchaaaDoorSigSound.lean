/- SigSound -/
import Derived.Test.YtlpgcfgnimchaaaDoorRows
import Derived.Test.YtlpgcfgnimchaaaDoorSigAwake
import Derived.Test.YtlpgcfgnimchaaaDoorSigSoundP
import Derived.Deep.RegionHeld3
import Derived.Test.YtlpgcfgnimchaaaDoorCards
import Derived.Test.YtlpgcfgnimchaaaDoorTie
import Derived.Deep.DeepHandedRow
import Derived.Lib.LaidTab
import Derived.WalkKit
import Derived.ProofKit
import Derived.OpenShut
import Derived.ShutString
import Derived.ChangeOld
import Derived.Below
import Derived.Carry
namespace Go.Proofs.YtlpgcfgnimchaaaDoor.sigSound
open Go.ChangeShapes Go.WideShapes Go.ChangeAt Go.RowKit
set_option linter.unusedVariables false


theorem ints_room {n : Nat} {ws : List Nat} (z : n = 0 ∨ ∃ r, (n + r) * Tryd.prog.bytesOf 3 ∈ ws) (hsz : ∀ q ∈ ws, q ≤ reachBytes) : (n + 2) * 8 ≤ 140737488355328 := by
  rcases z with rfl | ⟨r, hr⟩
  · decide
  · have := hsz _ hr
    rw [show Tryd.prog.bytesOf 3 = 8 by kernel_rfl] at this
    unfold reachBytes at this
    omega
theorem two_cells {w : World} {g : Nat} {t : TypeId} {x y : Value} (h : Blk w g t #[x, y]) : w.cell? ⟨g, 0, none⟩ = some x ∧ w.cell? ⟨g, 1, none⟩ = some y := ⟨(h.cell 0).trans rfl, (h.cell 1).trans rfl⟩
theorem slc_two (w : World) (x y : Int) (k : Nat) (hk : w.heap.size = k) : Slc (w.alloc (.cells #[.int .i64 x, .int .i64 y] 3)) (some ⟨k, 0, none⟩) [x, y] := by
  subst hk
  refine ⟨by show 2 ≤ maxLen; decide, .inr ⟨w.heap.size, 0, rfl, by simp, ?_⟩⟩
  intro j z hz
  have hb := Blk.new w 3 #[.int .i64 x, .int .i64 y]
  match j, hz with
  | 0, hz => simp at hz; subst hz; exact (hb.cell 0).trans rfl
  | 1, hz => simp at hz; subst hz; exact (hb.cell 1).trans rfl
set_option maxRecDepth 100000 in
set_option maxHeartbeats 4000000 in
theorem walk (A : Option Addr) (c : Nat) (xs : List Int) (B : Option Addr) (d : Nat) (ys : List Int) (cell n : Int) (W : World) (hT : Tab W) (sA : Slc W A xs) (lx : (xs.length + 2) * 8 ≤ 140737488355328) (sB : Slc W B ys) (ly : (ys.length + 2) * 8 ≤ 140737488355328) (hwc : (Lit.int IntKind.i64 cell).wf = true) (hwn : (Lit.int IntKind.i64 n).wf = true) :
    Calls Tryd.prog 6 #[.slice A xs.length c, .slice B ys.length d, .int .i64 cell, .int .i64 n] W fun e w' => e = .returned (.bool true) ∧ Below W.heap.size W w' := by
  obtain ⟨i0, hi, hz0, hz1, hz2⟩ := info_parts Tryd.infoInt
  have HA := Lib.hid sA
  have HB := Lib.hid sB
  have HLX := Lib.hid lx
  have HLY := Lib.hid ly
  have hbn := i64_and127 n
  have hbc := i64_and255 cell
  have hm0 : 0 ≤ n % 128 ∧ n % 128 ≤ 127 := by omega
  obtain ⟨n1, hn1⟩ : ∃ m, n % 128 = m := ⟨_, rfl⟩
  rw [hn1] at hbn hm0
  have hmc : 0 ≤ cell % 256 ∧ cell % 256 ≤ 255 := by omega
  obtain ⟨ce, hce⟩ : ∃ m, m255 cell = m := ⟨_, rfl⟩
  have hce2 : cell % 256 = ce := hce
  rw [hce2] at hbc hmc
  have HCE := Lib.hid hce
  obtain ⟨hm1, hm2⟩ := hm0
  obtain ⟨hc1, hc2⟩ := hmc
  obtain ⟨few, hfew⟩ : ∃ s, ofL (1 + n1) (xs.map m255) = s := ⟨_, rfl⟩
  obtain ⟨oth, hoth⟩ : ∃ s, ofL (1 + n1) (ys.map m255) = s := ⟨_, rfl⟩
  have okf : few.ok := hfew ▸ ofL_ok (by omega) (by omega) _
  have oko : oth.ok := hoth ▸ ofL_ok (by omega) (by omega) _
  have r1 := hA_rng ce (1 + n1) (by omega) (by omega)
  have r2 := hB_rng ce (1 + n1) (by omega) (by omega)
  have hh := fun w => hash_ok w ce (1 + n1) hc1 hc2 (by omega) (by omega)
  have q1 := fun w A c (h : Slc w A (xs.map m255)) m (hm : m = (xs.map m255).length) => hm ▸ of_any w A c _ h (1 + n1) (by omega) (by omega)
  have q2 := fun w A c (h : Slc w A (xs.map m255 ++ [ce])) m (hm : m = (xs.map m255 ++ [ce]).length) => hm ▸ of_any w A c _ h (1 + n1) (by omega) (by omega)
  have q3 := fun w A c (h : Slc w A (ys.map m255 ++ [ce])) m (hm : m = (ys.map m255 ++ [ce]).length) => hm ▸ of_any w A c _ h (1 + n1) (by omega) (by omega)
  have ex : xs.map m255 ++ [ce] = (xs ++ [cell]).map m255 := by simp [hce]
  have ey : ys.map m255 ++ [ce] = (ys ++ [cell]).map m255 := by simp [hce]
  have e1 : ofR (1 + n1) (xs.map m255 ++ [ce]) = (few.set (hA ce (1 + n1)).toNat).set (hB ce (1 + n1)).toNat := by rw [ex, ofR_m, ofL_m, hfew, hce]
  have e2 : ofR (1 + n1) (ys.map m255 ++ [ce]) = (oth.set (hA ce (1 + n1)).toNat).set (hB ce (1 + n1)).toNat := by rw [ey, ofR_m, ofL_m, hoth, hce]
  have e3 : ofE (xs.map m255 ++ [ce]) = 0 := by rw [ex]; exact ofE_m _
  have e4 : ofE (ys.map m255 ++ [ce]) = 0 := by rw [ey]; exact ofE_m _
  simp only [ofR_m, ofE_m, hfew] at q1
  simp only [e1, e3] at q2
  simp only [e2, e4] at q3
  generalize hA ce (1 + n1) = one at *
  generalize hB ce (1 + n1) = two at *
  have hfr : ([one, two]).all isBit = true := by simp [isBit]; omega
  have q4 := fun w A c (h : Slc w A [one, two]) => from_any w A c _ h
  have e5 : fromR [one, two] = (Sg.zero.set one.toNat).set two.toNat := by unfold fromR; rw [hfr]; rfl
  have e6 : fromE [one, two] = 0 := by unfold fromE; rw [hfr]; rfl
  simp only [e5, e6] at q4
  obtain ⟨l1, l2, l3, l4⟩ := sound_law few oth one.toNat two.toNat okf oko (by omega) (by omega)
  have oks : ((few.set one.toNat).set two.toNat).ok := Sg.set_ok _ (Sg.set_ok _ okf _ (by omega)) _ (by omega)
  have okt : ((oth.set one.toNat).set two.toNat).ok := Sg.set_ok _ (Sg.set_ok _ oko _ (by omega)) _ (by omega)
  have okw : ((Sg.zero.set one.toNat).set two.toNat).ok := Sg.set_ok _ (Sg.set_ok _ zero_ok _ (by omega)) _ (by omega)
  generalize (few.set one.toNat).set two.toNat = s at *
  generalize (oth.set one.toNat).set two.toNat = t at *
  generalize (Sg.zero.set one.toNat).set two.toNat = own at *
  have m1 := fun w => meets_any w s t oks okt
  have m2 := fun w => within_any w few s okf oks
  have m3 := fun w => within_any w own s okw oks
  have m4 := fun w => join_any w few own okf okw
  rw [l1] at m1
  rw [l2] at m2
  rw [l3] at m3
  rw [l4] at m4
  unfold Sg.val at q1 q2 q3 q4 m1 m2 m3 m4
  have QF := Lib.hid q1
  have QS := Lib.hid q2
  have QT := Lib.hid q3
  have QO := Lib.hid q4
  have QH := Lib.hid hh
  have M1 := Lib.hid m1
  have M2 := Lib.hid m2
  have M3 := Lib.hid m3
  have M4 := Lib.hid m4
  obtain ⟨r1a, r1b⟩ := r1
  obtain ⟨r2a, r2b⟩ := r2
  clear sA sB lx ly hn1 hce hce2 q1 q2 q3 q4 hh m1 m2 m3 m4 l1 l2 l3 l4 e1 e2 e3 e4 e5 e6 ex ey hfew hoth okf oko oks okt okw hfr oth
  go_enter Tryd.func6, Tryd.ntmps6
  go_wp2_with fail
  refine (awake_any _ hT).mono ?_
  rintro e w1 ⟨rfl, k1⟩
  have K1 := Lib.hid k1
  clear k1
  go_wp2_with fail

  go_loopw [11, 13] (fun x i wr => ∃ k : Nat, k ≤ xs.length ∧ i = .int .i64 k ∧ RowAt W wr x ((xs.take k).map m255)) (fun _ i _ => xs.length - (intOf i).toNat)
  case atStart => exact ⟨0, Nat.zero_le _, rfl, RowAt.nil K1.out⟩
  case round =>
    obtain ⟨k, hk, rfl, hrow⟩ := hrel
    have HR := Lib.hid hrow
    skip
    clear hrow
    by_cases hlt : k < xs.length
    · obtain ⟨z, hz⟩ : ∃ z, xs[k]? = some z := ⟨_, List.getElem?_eq_getElem hlt⟩
      rcases (HA.out.keeps (HR.out.2)).2 with h0 | ⟨b, off, rfl, hb, hc⟩
      · subst h0; simp at hlt
      have d1 := hc k z hz
      have HZ := Lib.hid hz
      have hand := i64_and255 z
      have hbd : xs.length ≤ 17592186044414 := by have := HLX.out; omega
      have k0 : (0 : Int) ≤ (k : Int) := by omega
      have k1 : (k : Int) < (xs.length : Int) := by omega
      have hln : ((xs.take k).map m255).length = k := by simp; omega
      have hln1 : ((xs.take k).map m255).length + 1 ≤ xs.length + 1 := by omega
      have hmx : Hid (((xs.take k).map m255).length + 1 ≤ maxLen) := by have := HLX.out; unfold Hid maxLen; omega
      have hby : Hid ((((xs.take k).map m255).length + 1) * 8 ≤ 140737488355328) := by have := HLX.out; unfold Hid; omega
      clear hc hz hln hln1
      go_wp2_with (at_builtin; refine wpList_append_row rfl (.tmp 36) (.tmp 42) 27 rfl 3 i0 _ 1 8 Tryd.underlying27 hi hz0 hz1 hz2 rfl (by decide) _ ((xs.take k).map m255).length (((xs.take k).map m255).map (Value.int .i64)) rfl ((HR.out.keeps ((Keeps.refl [] _).alloc _)).own0 _ rfl) _ 1 ([m255 z].map (Value.int .i64)) rfl (one_row _ _ _ rfl) (one_ints _) hmx.out hby.out ?_; intro v1 w1 hown1 hg1 hat1)
      have HN := Lib.hid (HR.out.snoc ((Keeps.refl [] _).alloc _) (by simp) hown1 hg1 hat1)
      skip
      clear hown1 hg1 hat1
      go_wp2_with fail
      go_roundw
      case rel => exact ⟨k + 1, by omega, by go_num, by rw [map_snoc HZ.out]; exact HN.out⟩
      case measure => simp [intOf]; omega
    · have hge : ¬ ((k : Int) < (xs.length : Int)) := by omega
      have ek : k = xs.length := by omega
      subst ek
      rw [List.take_length] at HR
      have HRX := Lib.hid HR.out


      have hlx : (xs.map m255).length = xs.length := by simp
      obtain ⟨A1, c1, rfl, _, hS1⟩ := Slc.of_own HRX.out.1 (by rw [hlx]; have := HLX.out; unfold maxLen; omega)
      have HRX := Lib.hid (show RowAt W wr (.slice A1 xs.length c1) (xs.map m255) by have := HRX.out; rwa [hlx] at this)
      have S1 := Lib.hid hS1
      clear hS1 hk hlt hge
      go_wp2_with fail
      refine (QF.out _ _ _ S1.out _ (by simp)).mono ?_
      rintro e w2 ⟨rfl, k2⟩
      have bF := Lib.hid (Blk.new w2 31 #[.int .u64 (few.a : Int), .int .u64 (few.b : Int)])
      have X2 := Lib.hid (HRX.out.keeps (k2.alloc (.cells #[.int .u64 (few.a : Int), .int .u64 (few.b : Int)] 31)))
      have hmx : Hid ((xs.map m255).length + 1 ≤ maxLen) := by have := HLX.out; unfold Hid maxLen; omega
      have hby : Hid (((xs.map m255).length + 1) * 8 ≤ 140737488355328) := by have := HLX.out; unfold Hid; omega
      have hown := Lib.hid (fun (k : Nat) (hk : (Value.slice A1 xs.length c1).ownBlock = some k) => Nat.lt_of_lt_of_le (own_lt HRX.out.1 hk) k2.size)
      clear k2
      go_wp2_with (at_builtin; refine wpList_append_row rfl (.tmp 50) (.tmp 53) 27 rfl 3 i0 _ 1 8 Tryd.underlying27 hi hz0 hz1 hz2 rfl (by decide) _ (xs.map m255).length ((xs.map m255).map (Value.int .i64)) rfl ((X2.out.keeps ((Keeps.refl [] _).alloc _)).own0 _ rfl) _ 1 ([ce].map (Value.int .i64)) rfl (one_row _ _ _ (by simp)) (one_ints _) hmx.out hby.out ?_; intro x3 w3 hown1 hg1 hat1)
      have X3 := Lib.hid (X2.out.snoc ((Keeps.refl [] _).alloc _) (by simp) hown1 hg1 hat1)
      have bF3 := Lib.hid ((bF.out.alloc _).grown hg1 (by intro e; have := hown.out _ e.symm; omega))
      clear hown1 hg1 hat1 bF X2 hmx hby hown S1 HRX
      go_wp2_with fail

      go_loopw [12, 16] (fun x i wr => ∃ k : Nat, k ≤ ys.length ∧ i = .int .i64 k ∧ RowAt w3 wr x ((ys.take k).map m255)) (fun _ i _ => ys.length - (intOf i).toNat)
      case atStart => exact ⟨0, Nat.zero_le _, rfl, RowAt.nil (Keeps.refl _ _)⟩
      case round =>
        obtain ⟨k, hk, rfl, hrow⟩ := hrel
        have HR := Lib.hid hrow
        skip
        clear hrow
        by_cases hlt : k < ys.length
        · obtain ⟨z, hz⟩ : ∃ z, ys[k]? = some z := ⟨_, List.getElem?_eq_getElem hlt⟩
          rcases (HB.out.keeps (X3.out.2.trans HR.out.2 (by simp))).2 with h0 | ⟨b, off, rfl, hb, hc⟩
          · subst h0; simp at hlt
          have d1 := hc k z hz
          have HZ := Lib.hid hz
          have hand := i64_and255 z
          have hbd : ys.length ≤ 17592186044414 := by have := HLY.out; omega
          have k0 : (0 : Int) ≤ (k : Int) := by omega
          have k1 : (k : Int) < (ys.length : Int) := by omega
          have hln : ((ys.take k).map m255).length = k := by simp; omega
          have hln1 : ((ys.take k).map m255).length + 1 ≤ ys.length + 1 := by omega
          have hmx : Hid (((ys.take k).map m255).length + 1 ≤ maxLen) := by have := HLY.out; unfold Hid maxLen; omega
          have hby : Hid ((((ys.take k).map m255).length + 1) * 8 ≤ 140737488355328) := by have := HLY.out; unfold Hid; omega
          clear hc hz hln hln1
          go_wp2_with (at_builtin; refine wpList_append_row rfl (.tmp 61) (.tmp 67) 27 rfl 3 i0 _ 1 8 Tryd.underlying27 hi hz0 hz1 hz2 rfl (by decide) _ ((ys.take k).map m255).length (((ys.take k).map m255).map (Value.int .i64)) rfl ((HR.out.keeps ((Keeps.refl [] _).alloc _)).own0 _ rfl) _ 1 ([m255 z].map (Value.int .i64)) rfl (one_row _ _ _ rfl) (one_ints _) hmx.out hby.out ?_; intro v1 w1 hown1 hg1 hat1)
          have HN := Lib.hid (HR.out.snoc ((Keeps.refl [] _).alloc _) (by simp) hown1 hg1 hat1)
          skip
          clear hown1 hg1 hat1
          go_wp2_with fail
          go_roundw
          case rel => exact ⟨k + 1, by omega, by go_num, by rw [map_snoc HZ.out]; exact HN.out⟩
          case measure => simp [intOf]; omega
        · have hge : ¬ ((k : Int) < (ys.length : Int)) := by omega
          have ek : k = ys.length := by omega
          subst ek
          rw [List.take_length] at HR
          have HRY := Lib.hid HR.out

          have hly : (ys.map m255).length = ys.length := by simp
          have hmx : Hid ((ys.map m255).length + 1 ≤ maxLen) := by have := HLY.out; unfold Hid maxLen; omega
          have hby : Hid (((ys.map m255).length + 1) * 8 ≤ 140737488355328) := by have := HLY.out; unfold Hid; omega
          clear hk hlt hge
          go_wp2_with (at_builtin; refine wpList_append_row rfl (.tmp 69) (.tmp 72) 27 rfl 3 i0 _ 1 8 Tryd.underlying27 hi hz0 hz1 hz2 rfl (by decide) _ (ys.map m255).length ((ys.map m255).map (Value.int .i64)) rfl ((HRY.out.keeps ((Keeps.refl [] _).alloc _)).own0 _ rfl) _ 1 ([ce].map (Value.int .i64)) rfl (one_row _ _ _ (by first | rfl | simp)) (one_ints _) hmx.out hby.out ?_; intro y4 w4 hown1 hg1 hat1)
          have Y4 := Lib.hid (HRY.out.snoc ((Keeps.refl [] _).alloc _) (by simp) hown1 hg1 hat1)
          have X4 := Lib.hid (X3.out.keeps Y4.out.2)
          have bF4 := Lib.hid (bF3.out.keeps Y4.out.2 (by simp))
          clear hown1 hg1 hat1 HRY hmx hby X3 bF3
          obtain ⟨A2, c2, rfl, _, hS2⟩ := Slc.of_own X4.out.1 (by simp; have := HLX.out; unfold maxLen; omega)
          obtain ⟨A3, c3, rfl, _, hS3⟩ := Slc.of_own Y4.out.1 (by simp; have := HLY.out; unfold maxLen; omega)
          have S2 := Lib.hid hS2
          have S3 := Lib.hid hS3
          have K4 := Lib.hid X4.out.2
          clear hS2 hS3 X4 Y4
          go_wp2_with fail
          refine (QS.out _ _ _ S2.out _ (by simp)).mono ?_
          rintro e w5 ⟨rfl, k5⟩
          have k5' := k5.alloc (.cells #[.int .u64 (s.a : Int), .int .u64 (s.b : Int)] 31)
          have bS := Lib.hid (Blk.new w5 31 #[.int .u64 (s.a : Int), .int .u64 (s.b : Int)])
          have bF5 := Lib.hid (bF4.out.keeps k5' (by simp))
          have S35 := Lib.hid (S3.out.keeps k5')
          have K5 := Lib.hid (K4.out.trans k5' (by simp))
          clear k5 k5' S2 S3 bF4
          go_wp2_with fail
          refine (QT.out _ _ _ S35.out _ (by simp)).mono ?_
          rintro e w6 ⟨rfl, k6⟩
          have k6' := k6.alloc (.cells #[.int .u64 (t.a : Int), .int .u64 (t.b : Int)] 31)
          have bT := Lib.hid (Blk.new w6 31 #[.int .u64 (t.a : Int), .int .u64 (t.b : Int)])
          have bF6 := Lib.hid (bF5.out.keeps k6' (by simp))
          have bS6 := Lib.hid (bS.out.keeps k6' (by simp))
          have K6 := Lib.hid (K5.out.trans k6' (by simp))
          clear k6 k6' S35 bS bF5
          go_wp2_with fail
          refine (QH.out _).mono ?_
          rintro e wh ⟨rfl, rfl⟩
          go_wp2_with fail
          refine (QO.out _ _ _ (slc_two _ one two _ (by simp))).mono ?_
          rintro e w7 ⟨rfl, k7⟩
          have k7' := (((Keeps.refl [] (w6.alloc (.cells #[.int .u64 (t.a : Int), .int .u64 (t.b : Int)] 31))).alloc _).trans k7 (by simp)).alloc (.cells #[.int .u64 (own.a : Int), .int .u64 (own.b : Int)] 31)
          have bO := Lib.hid (Blk.new w7 31 #[.int .u64 (own.a : Int), .int .u64 (own.b : Int)])
          have bF7 := Lib.hid (bF6.out.keeps k7' (by simp))
          have bS7 := Lib.hid (bS6.out.keeps k7' (by simp))
          have bT7 := Lib.hid (bT.out.keeps k7' (by simp))
          have K7 := Lib.hid (K6.out.trans k7' (by simp))
          clear k7 k7' bF6 bS6 bT QF QS QT QH QO HA HB HLX HLY
          go_wp2_with fail
          generalize w7.alloc (.cells #[.int .u64 (own.a : Int), .int .u64 (own.b : Int)] 31) = wB at *
          have HC := Lib.hid (show ∀ w', Keeps [] wB w' → w'.cell? ⟨w2.heap.size, 0, none⟩ = some (.int .u64 (few.a : Int)) ∧ w'.cell? ⟨w2.heap.size, 1, none⟩ = some (.int .u64 (few.b : Int)) ∧ w'.cell? ⟨w5.heap.size, 0, none⟩ = some (.int .u64 (s.a : Int)) ∧ w'.cell? ⟨w5.heap.size, 1, none⟩ = some (.int .u64 (s.b : Int)) ∧ w'.cell? ⟨w6.heap.size, 0, none⟩ = some (.int .u64 (t.a : Int)) ∧ w'.cell? ⟨w6.heap.size, 1, none⟩ = some (.int .u64 (t.b : Int)) ∧ w'.cell? ⟨w7.heap.size, 0, none⟩ = some (.int .u64 (own.a : Int)) ∧ w'.cell? ⟨w7.heap.size, 1, none⟩ = some (.int .u64 (own.b : Int)) from
            fun w' hk => ⟨(two_cells (bF7.out.keeps hk (by simp))).1, (two_cells (bF7.out.keeps hk (by simp))).2, (two_cells (bS7.out.keeps hk (by simp))).1, (two_cells (bS7.out.keeps hk (by simp))).2, (two_cells (bT7.out.keeps hk (by simp))).1, (two_cells (bT7.out.keeps hk (by simp))).2, (two_cells (bO.out.keeps hk (by simp))).1, (two_cells (bO.out.keeps hk (by simp))).2⟩)
          have hkB : Keeps [] wB wB := Keeps.refl _ _
          obtain ⟨x1, x2, x3, x4, x5, x6, x7, x8⟩ := HC.out _ hkB
          have he := fun w => sig_same w (s.a : Int) (s.b : Int)
          have hE := Lib.hid K7.out
          clear bF7 bS7 bT7 bO K1 K4 K5 K6 K7
          go_region_held3 (fun w' => w'.cell? ⟨w2.heap.size, 0, none⟩ = some (.int .u64 (few.a : Int)) ∧ w'.cell? ⟨w2.heap.size, 1, none⟩ = some (.int .u64 (few.b : Int)) ∧ w'.cell? ⟨w5.heap.size, 0, none⟩ = some (.int .u64 (s.a : Int)) ∧ w'.cell? ⟨w5.heap.size, 1, none⟩ = some (.int .u64 (s.b : Int)) ∧ w'.cell? ⟨w6.heap.size, 0, none⟩ = some (.int .u64 (t.a : Int)) ∧ w'.cell? ⟨w6.heap.size, 1, none⟩ = some (.int .u64 (t.b : Int)) ∧ w'.cell? ⟨w7.heap.size, 0, none⟩ = some (.int .u64 (own.a : Int)) ∧ w'.cell? ⟨w7.heap.size, 1, none⟩ = some (.int .u64 (own.b : Int))) (first | exact HC.out _ (by first | assumption | exact Keeps.drew (by assumption)) | go_keep) ((first
            | (go_at_call 20; refine (Held (wB := wB) (M1.out _) (by first | assumption | exact Keeps.drew (by assumption))).mono ?_; rintro e wc ⟨rfl, hkc⟩)
            | (go_at_call 21; refine (Held (wB := wB) (M2.out _) (by first | assumption | exact Keeps.drew (by assumption))).mono ?_; rintro e wc ⟨rfl, hkc⟩)
            | (go_at_call 21; refine (Held (wB := wB) (M3.out _) (by first | assumption | exact Keeps.drew (by assumption))).mono ?_; rintro e wc ⟨rfl, hkc⟩)
            | (go_at_call 18; refine (Held (wB := wB) (M4.out _) (by first | assumption | exact Keeps.drew (by assumption))).mono ?_; rintro e wc ⟨rfl, hkc⟩)))
          go_wp2_with fail
          go_ret
          exact ⟨rfl, (hE.out.trans (by assumption) (by simp)).below (by simp) (Nat.le_refl _)⟩

theorem own : ownKnob Tryd.prog.godebug = none := by kernel_rfl
theorem laidOut : laidOutB Tryd.prog = true := by kernel_rfl
theorem gTab : Tryd.prog.globalNamed "math/bits.deBruijn64tab" = some 0 := by kernel_rfl
theorem gTabType : (Tryd.prog.globals[0]?).map (·.type) = some 46 := by kernel_rfl
theorem cellsT : Tryd.prog.cellsOf 46 = 64 := by kernel_rfl
theorem cellsE : Tryd.prog.cellsOf 5 = 1 := by kernel_rfl
theorem table {W : World} (h : laidMetH Tryd.prog Rows.sigSoundRow.laid W) : Lib.TabIs Tryd.prog W "math/bits.deBruijn64tab" .u8 (Lib.deBruijn64tab.map (fun k : Nat => (k : Int))) :=
  Lib.tabIs_of_head (rest := []) gTab gTabType Tryd.underlying46 Tryd.underlying5 cellsE cellsT h
theorem tabAt {W : World} (h : laidMetH Tryd.prog Rows.sigSoundRow.laid W) : Tab W := by
  have hc : ∀ j, j < Lib.deBruijn64tab.length → W.cell? ⟨0, j, none⟩ = some (.int .u8 (Lib.deBruijn64tab.getD j 0 : Nat)) := by
    intro j hj
    have := (table h).cell gTab j (by simpa using hj)
    rw [this]
    congr 2
    simp [List.getElem?_eq_getElem hj, List.getD]
  refine ⟨?_, hc⟩
  have h0 := hc 0 (by decide)
  rcases Nat.lt_or_ge 0 W.heap.size with hlt | hge
  · exact hlt
  · rw [World.cell?, Array.getElem?_eq_none (by exact hge)] at h0; cases h0

theorem contract (H : Type) (enc : TypeId × Value → H) (W : World) (base : Nat) (args : Array Value) (ds gs : List (DataW H)) (before : List MemPlace)
    (hval0 : ∀ (j : Nat) t v, Tryd.f6.params[j]? = some t → args[j]? = some v → Value.okWide Tryd.prog W .any base t v)
    (hW : DataW.Whole enc Tryd.prog Tryd.f6.params.toList Rows.sigSoundSpec.vars false W args.toList ds gs before) (hL : laidMetH Tryd.prog Rows.sigSoundRow.laid W)
    (hsz : (DataW.weightsEach Tryd.prog (Tryd.f6.params.toList ++ (OpenSpec.ofChange Rows.sigSoundSpec).bare.plain.varTypes Tryd.prog) (ds ++ gs)).all (· ≤ reachBytes) = true) :
    Calls Tryd.prog 6 args W fun e W' => ∃ v, e = .returned v ∧ Rows.sigSoundSpec.post enc Tryd.prog Tryd.f6 false true false false W args v W' := by
  have hval := hval0
  have hW' := hW
  obtain ⟨p, q, hA0, hV, rfl, hfz, hnd⟩ := hW
  have hA : DataW.TrodAll enc Tryd.prog W 0 (fun _ => true) true Tryd.f6.params.toList args.toList ds p := hA0
  rw [Tryd.params6] at hA hval
  obtain ⟨v0, vs0, d0, ds0, p0, q0, hargs, rfl, rfl, h0, r0⟩ := trodAll_cons hA
  obtain ⟨v1, vs1, d1, ds1, p1, q1, rfl, rfl, rfl, h1, r1⟩ := trodAll_cons r0
  obtain ⟨v2, vs2, d2, ds2, p2, q2, rfl, rfl, rfl, h2, r2⟩ := trodAll_cons r1
  obtain ⟨v3, vs3, d3, ds3, p3, q3, rfl, rfl, rfl, h3, r3⟩ := trodAll_cons r2
  obtain ⟨rfl, rfl, rfl⟩ := trodAll_nil r3
  obtain rfl : args = #[v0, v1, v2, v3] := by cases args; simp_all
  obtain ⟨rfl, rfl⟩ := trodVars_none hV
  have k0 := h0
  have lt0 : ∀ x ∈ p0, x.block < W.heap.size := by obtain ⟨m, hm⟩ := k0; exact DataW.trod_lt m _ _ _ hm
  obtain ⟨A0, n0, c0, rfl⟩ := okWide_slice Tryd.underlying27 (hval 0 27 v0 rfl rfl)
  obtain ⟨fl0, hf0⟩ := h0
  obtain ⟨⟨xs0, s0⟩, z0⟩ := ints_open Tryd.underlying27 Tryd.underlying3 (by kernel_rfl) hf0
  have b0 := ints_room z0 (fun q hq => by have h := List.all_eq_true.1 hsz _ (DataW.weights_mem_each (j := 0) (t := 27) (d := d0) rfl rfl q hq); simpa using h)
  obtain rfl := s0.1
  have k1 := h1
  have lt1 : ∀ x ∈ p1, x.block < W.heap.size := by obtain ⟨m, hm⟩ := k1; exact DataW.trod_lt m _ _ _ hm
  obtain ⟨A1, n1, c1, rfl⟩ := okWide_slice Tryd.underlying27 (hval 1 27 v1 rfl rfl)
  obtain ⟨fl1, hf1⟩ := h1
  obtain ⟨⟨xs1, s1⟩, z1⟩ := ints_open Tryd.underlying27 Tryd.underlying3 (by kernel_rfl) hf1
  have b1 := ints_room z1 (fun q hq => by have h := List.all_eq_true.1 hsz _ (DataW.weights_mem_each (j := 1) (t := 27) (d := d1) rfl rfl q hq); simpa using h)
  obtain rfl := s1.1
  obtain ⟨a2, rfl, rfl, rfl, w2⟩ := open_int Tryd.underlying3 (hval 2 3 v2 rfl rfl) h2
  obtain ⟨a3, rfl, rfl, rfl, w3⟩ := open_int Tryd.underlying3 (hval 3 3 v3 rfl rfl) h3
  clear hA0
  refine (walk A0 c0 xs0 A1 c1 xs1 a2 a3 W (tabAt hL) (Slc.of_ints s0) b0 (Slc.of_ints s1) b1 w2 w3).mono fun e W' ⟨he, bel⟩ => ?_
  subst he
  exact ⟨_, rfl, _, _, _, [], _, [], hW', trodAll_mk1 (shut_bool Tryd.underlying4 _), (trodAll_cons_mk (Below.trod laidOut (by kernel_rfl) (of_decide_eq_true (by kernel_rfl)) k0 bel lt0) (trodAll_cons_mk (Below.trod laidOut (by kernel_rfl) (of_decide_eq_true (by kernel_rfl)) k1 bel lt1) (trodAll_cons_mk (shut_int Tryd.underlying3 w2) (trodAll_cons_mk (shut_int Tryd.underlying3 w3) trodAll_mk0)))), rfl, bel.frame _, fun h => by cases h⟩

/-- A world for the witness: the table holds what its initialiser lays. -/
noncomputable def laidWorld (os : Os) : World :=
  { World.holding Tryd.prog os ⟨#[], #[], []⟩ with heap := (World.holding Tryd.prog os ⟨#[], #[], []⟩).heap.modify 0 fun
      | .cells _ t frozen => .cells (Lib.deBruijn64tab.map (fun k : Nat => Value.int .u8 k)).toArray t frozen
      | o => o }
theorem laid_met (os : Os) : laidMet Tryd.prog Rows.sigSoundRow.laid ((laidWorld os).forCall (fun _ _ => 0) ⟨#[], #[.slice none 0 0, .slice none 0 0, .int .i64 0, .int .i64 0], []⟩).memory :=
  laidMet_of_run' 8 (by kernel_rfl) (by kernel_rfl)
theorem reads (os : Os) {H : Type} (enc : TypeId × Value → H) : ∃ places, DataW.whole enc Tryd.prog ((laidWorld os).forCall (fun _ _ => 0) ⟨#[], #[.slice none 0 0, .slice none 0 0, .int .i64 0, .int .i64 0], []⟩).memory Tryd.f6.params.toList Rows.sigSoundSpec.vars false (#[.slice none 0 0, .slice none 0 0, .int .i64 0, .int .i64 0] : Array Value).toList 8 = some ([.nil, .nil, .lit (.int .i64 0), .lit (.int .i64 0)], [], places) :=
  ⟨[], by kernel_rfl⟩

set_option maxRecDepth 100000 in
theorem lifted (os : Os) (started : os.Started) (H : Type) (enc : TypeId × Value → H) (F : Stop.Interp) :
    ReturnsInHanded {} Tryd.checked os 6 .any ((OpenSpec.ofChange Rows.sigSoundSpec).preRow enc Tryd.prog Tryd.f6 Rows.sigSoundRow.domain false Rows.sigSoundRow.laid) (((OpenSpec.ofChange Rows.sigSoundSpec).at F).post enc Tryd.prog Tryd.f6 false true false false) := by
  obtain ⟨places, hx⟩ := reads os enc
  refine returnsInHanded_of_row (C := Tryd.checked) (s := OpenSpec.ofChange Rows.sigSoundSpec) own started (by kernel_rfl) Tryd.func6
    (witness_row_at (enc := enc) (C := Tryd.checked) false (laidWorld os) #[.slice none 0 0, .slice none 0 0, .int .i64 0, .int .i64 0] rfl (by kernel_rfl) (by kernel_rfl) (by kernel_rfl)
      (OpenSpec.preRow_of_cond 8 hx (by kernel_rfl) (fun k hk => by cases hk) (by kernel_rfl) (laid_met os))) ?_
  intro W base args ds gs before hval hW _ _ hsz hL _ _
  exact contract H enc W base args ds gs before hval hW hL hsz

theorem said : Rows.SigSoundSaid :=
  OpenClaim.holds_of_cond 6 Tryd.f6 rfl rfl rfl rfl rfl rfl rfl ⟨rfl, rfl, rfl, rfl, rfl⟩ rfl rfl rfl rfl rfl (by kernel_rfl) Tryd.func6 (by kernel_rfl)
    (of_decide_eq_true (by kernel_rfl)) (by unfold Func.isWrapper; first | (rw [if_pos (by decide +kernel)]; kernel_rfl) | (rw [if_neg (by decide +kernel)]; exact ⟨rfl, rfl⟩))
    (fun os started H enc _ F => by rw [OpenClaim.pre_eq_preRow]; exact lifted os started H enc F)

theorem plain (f : FuncId) (fn : Func) (hf : Tryd.pinned.checked.prog.funcNamed "quash/quashlaw02.SigSound" = some f) (hfn : Tryd.pinned.checked.prog.funcs[f]? = some fn) :
    false = Tryd.pinned.checked.prog.looks [] ∧ ∀ (j : Nat) t, fn.params[j]? = some t → Tryd.pinned.checked.prog.wantsStandIn t = false := by
  obtain rfl : f = 6 := Option.some.inj ((show Tryd.prog.funcNamed "quash/quashlaw02.SigSound" = some 6 by kernel_rfl).symm.trans hf) |>.symm
  obtain rfl : fn = Tryd.f6 := (Option.some.inj (Tryd.func6.symm.trans hfn)).symm
  refine ⟨by kernel_rfl, fun j t ht => ?_⟩
  rw [Tryd.params6] at ht
  have hm : t = 27 ∨ t = 27 ∨ t = 3 ∨ t = 3 := by simpa using Array.mem_of_getElem? ht
  rcases hm with rfl | rfl | rfl | rfl
  · exact (show Tryd.prog.wantsStandIn 27 = false by kernel_rfl)
  · exact (show Tryd.prog.wantsStandIn 27 = false by kernel_rfl)
  · exact (show Tryd.prog.wantsStandIn 3 = false by kernel_rfl)
  · exact (show Tryd.prog.wantsStandIn 3 = false by kernel_rfl)

/-- The card: the statement. -/
theorem proved : Rows.SigSoundCardSaid :=
  Claim7.holds_tied_plain_at .later [] _ _ _ _ said (fun _ h => by cases h) (by kernel_rfl) (fun _ h => by cases h) sigSound_row_tie rfl ⟨rfl, rfl⟩ (by kernel_rfl) rfl plain (by kernel_rfl)
#print axioms proved
end Go.Proofs.YtlpgcfgnimchaaaDoor.sigSound
