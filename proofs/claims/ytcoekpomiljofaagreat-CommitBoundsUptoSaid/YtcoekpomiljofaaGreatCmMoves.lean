/- quashlaw13.moves: what others do. -/
import Derived.Test.YtcoekpomiljofaaGreatCmBd
import Derived.Test.YtcoekpomiljofaaGreatCmWrs
import Derived.Test.YtcoekpomiljofaaGreatLocal
import Derived.Test.YtcoekpomiljofaaGreatElMov13
namespace Go.Proofs.YtcoekpomiljofaaGreat.bd
open Go.RowKit
set_option linter.unusedVariables false
set_option linter.unusedSimpArgs false
theorem u64_mask (n : Int) (h : isU n) (k : Nat) (m : Int) (hk : k ≤ 8) (hm : (BitVec.ofInt 64 m).toNat = 2 ^ k - 1) : bits .and .u64 n m = n % ((2 ^ k : Nat) : Int) := by
  have key : (BitVec.ofInt 64 n &&& BitVec.ofInt 64 m).toNat = (n % ((2 ^ 64 : Nat) : Int)).toNat % 2 ^ k := by
    rw [BitVec.toNat_and, BitVec.toNat_ofInt, hm, Nat.and_two_pow_sub_one_eq_mod]
  show IntKind.u64.wrap ((BitVec.ofInt 64 n &&& BitVec.ofInt 64 m).toNat : Nat) = _
  rw [key]
  unfold isU at h
  have hq : k = 0 ∨ k = 1 ∨ k = 2 ∨ k = 3 ∨ k = 4 ∨ k = 5 ∨ k = 6 ∨ k = 7 ∨ k = 8 := by omega
  rcases hq with rfl | rfl | rfl | rfl | rfl | rfl | rfl | rfl | rfl <;> simp only [Nat.reducePow] <;> (rw [show ∀ q : Int, IntKind.u64.wrap q = q % 18446744073709551616 from fun q => by simp [IntKind.wrap, IntKind.bits, IntKind.signed]]; omega)
/-- What moves leaves. -/
def Mvd (w0 w w' : World) (z : Sb) (F : List Nat) (k : Nat) (S : Sp) : Prop :=
  ∃ S', Went w0 w w' z F S' ∧ Fit (k + 1) S' ∧ S'.wu ∧ S'.c = S.c ∧ S'.H.length = S.H.length ∧ ∀ a, a ≤ S.met.log.length → Oth a S S'
set_option maxRecDepth 100000 in
set_option maxHeartbeats 4000000 in
theorem moves_any {w0 w : World} {z : Sb} {F : List Nat} {S : Sp} {k : Nat} (hs : SP w0 w z F S) (hf : Fit k S) (hk : k ≤ 1099511627776) (hu : S.wu) (h8 : S.H.length = 8) (p : ElMov13) (hx : isU p.x) :
    Calls Tryz.prog 30 #[PT z.p, .agg #[.bool p.go, .int .i64 p.kind, .int .i64 p.slot, .int .u64 p.x]] w fun e w' => e = .returned (.tuple #[]) ∧ Mvd w0 w w' z F k S := by
  obtain ⟨go, kind, slot, x⟩ := p
  simp only at hx
  have hkb : Keeps [] w (w.alloc (.cells #[.bool go, .int .i64 kind, .int .i64 slot, .int .u64 x] 78)) := by simp
  have hb := Blk.new w 78 #[.bool go, .int .i64 kind, .int .i64 slot, .int .u64 x]
  have HS := Lib.hid (hs.calm hkb)
  have HF := Lib.hid (And.intro hf (And.intro hu h8))
  have HB := Lib.hid (And.intro hb hkb)
  obtain ⟨wb, hwb⟩ : ∃ q, w.alloc (.cells #[.bool go, .int .i64 kind, .int .i64 slot, .int .u64 x] 78) = q := ⟨_, rfl⟩
  obtain ⟨zm, hzm⟩ : ∃ q, w.heap.size = q := ⟨_, rfl⟩
  have hlz := hs.lt
  rw [hzm] at hlz
  rw [hwb] at HS HB
  rw [hzm] at HB
  have b1 : wb.cell? ⟨zm, 1, none⟩ = some (.int .i64 kind) := (HB.out.1.cell 1).trans rfl
  have b2 : wb.cell? ⟨zm, 2, none⟩ = some (.int .i64 slot) := (HB.out.1.cell 2).trans rfl
  have b3 : wb.cell? ⟨zm, 3, none⟩ = some (.int .u64 x) := (HB.out.1.cell 3).trans rfl
  have m7 := msk7 slot
  obtain ⟨s7, hs7, s70, s77⟩ : ∃ q : Int, slot % 8 = q ∧ 0 ≤ q ∧ q ≤ 7 := ⟨_, rfl, by omega, by omega⟩
  rw [hs7] at m7
  have k7 := msk7 kind
  obtain ⟨kd, hkd, kd0, kd7⟩ : ∃ q : Int, kind % 8 = q ∧ 0 ≤ q ∧ q ≤ 7 := ⟨_, rfl, by omega, by omega⟩
  rw [hkd] at k7
  obtain ⟨an, han⟩ : ∃ an : Nat, 1 + s7 % 7 = (an : Int) := ⟨(1 + s7 % 7).toNat, by omega⟩
  have an1 : (1 : Int) ≤ (an : Int) := by omega
  have an8 : (an : Int) < 8 := by omega
  have an0 : (0 : Int) ≤ (an : Int) := by omega
  have HLZ := Lib.hid hlz
  clear hs hf hu h8 hkb hb hs7 hkd hlz
  go_enter Tryz.func30, Tryz.ntmps30
  go_upto_region 1 with fail
  try rw [hwb]
  try rw [hzm]
  clear hwb hzm
  go_wp2_with fail
  refine (sp_slots HS.out).mono ?_
  rintro e wq ⟨rfl, rfl⟩
  go_wp2_with fail
  have QN := tab_now HS.out HF.out.1
  rw [HF.out.2.2] at QN
  have HQN := Lib.hid QN
  clear QN
  refine HQN.out.mono ?_
  rintro e w1 ⟨a, c, rfl, hr, hla, hk1⟩
  obtain ⟨m0, m1, m2, m3, m4, m5, m6, m7'⟩ := fd.slC_get S.H S.W an (by rw [HF.out.2.2]; exact HF.out.1.words.trans (by rw [HF.out.2.2])) (by have := HF.out.2.2; omega)
  have hc : ∀ i u, i < 64 → (fd.slC S.H S.W)[i]? = some u → w1.cell? ⟨a, i, none⟩ = some u := fun i u hi hu => (World.ownsRow.cellAt hr i (by omega)).trans hu
  obtain ⟨x', hx'⟩ : ∃ q, fd.hd S.H (an : Int) = q := ⟨_, rfl⟩
  rw [hx'] at m0 m1 m2 m3 m4 m5
  have c0 := hc _ _ (by omega) m0
  have c1 := hc _ _ (by omega) m1
  have c2 := hc _ _ (by omega) m2
  have c3 := hc _ _ (by omega) m3
  have c4 := hc _ _ (by omega) m4
  have c5 := hc _ _ (by omega) m5
  replace HS := Lib.hid (HS.out.calm hk1)
  have HK1 := Lib.hid (HB.out.2.trans hk1 (by simp))
  replace b1 := keeps_cell0 hk1 b1
  replace b3 := keeps_cell0 hk1 b3
  have HX := Lib.hid hx
  have HN := Lib.hid an1
  clear hc hr hla hk1 hx' m0 m1 m2 m3 m4 m5 m6 m7' HQN b2 hx HB
  go_upto_region 4 with fail
  have hk2 : Keeps [] w1 (w1.alloc (.cells #[.int .i64 x'.gen, .int .i64 x'.state, .int .i64 x'.stamp, .int .i64 x'.thread, .bool x'.doomed, .int .i64 x'.who] 83)) := by simp
  have hb2 := Blk.new w1 83 #[.int .i64 x'.gen, .int .i64 x'.state, .int .i64 x'.stamp, .int .i64 x'.thread, .bool x'.doomed, .int .i64 x'.who]
  have h0 : (w1.alloc (.cells #[.int .i64 x'.gen, .int .i64 x'.state, .int .i64 x'.stamp, .int .i64 x'.thread, .bool x'.doomed, .int .i64 x'.who] 83)).cell? ⟨w1.heap.size, 0, none⟩ = some (.int .i64 x'.gen) := (hb2.cell 0).trans rfl
  replace HS := Lib.hid (HS.out.calm hk2)
  have HKW := Lib.hid (HK1.out.trans hk2 (by simp))
  replace b1 := keeps_cell0 hk2 b1
  replace b3 := keeps_cell0 hk2 b3
  obtain ⟨w2, hw2⟩ : ∃ q, w1.alloc (.cells #[.int .i64 x'.gen, .int .i64 x'.state, .int .i64 x'.stamp, .int .i64 x'.thread, .bool x'.doomed, .int .i64 x'.who] 83) = q := ⟨_, rfl⟩
  obtain ⟨zh, hzh⟩ : ∃ q, w1.heap.size = q := ⟨_, rfl⟩
  rw [hzh, hw2] at h0
  rw [hw2] at HS HKW b1 b3
  try rw [hw2]
  try rw [hzh]
  clear hw2 hzh hk2 hb2 c0 c1 c2 c3 c4 c5 HK1
  have x16 : bits .and .u64 x 15 = x % 16 := u64_mask x HX.out 4 15 (by decide) (by decide)
  have x2 : bits .and .u64 x 1 = x % 2 := u64_mask x HX.out 1 1 (by decide) (by decide)
  have hxr : 0 ≤ x % 16 ∧ x % 16 < 16 ∧ 0 ≤ x % 2 ∧ x % 2 < 2 := by omega
  obtain rfl | rfl | rfl | rfl | rfl | hk57 : kd = 0 ∨ kd = 1 ∨ kd = 2 ∨ kd = 3 ∨ kd = 4 ∨ (5 ≤ kd) := by omega
  · as_aux_lemma =>
      go_wp2_with fail
      refine (sp_free HS.out HF.out.1 hk an x'.gen).mono ?_
      rintro e w4 ⟨rfl, F4, h4, k4, n4⟩
      have HW : Hid (Went w0 w w4 z F _) := ⟨F4, h4, (HKW.out.mono (by simp)).trans k4 (fun q hq => .inl hq), fun q hq => (n4 q hq).imp id (fun h => Nat.le_trans HKW.out.size h)⟩
      clear h4 k4 n4
      go_wp2_with fail
      go_end0
      exact ⟨rfl, _, HW.out, HF.out.1.free an x'.gen, Sp.wu_of HF.out.2.1 (S.free_W an x'.gen).1, (S.free_W an x'.gen).2, (bes_free S an x'.gen).len, fun a ha => .free ha HN.out x'.gen⟩
  · as_aux_lemma =>
      go_wp2_with fail
      refine (sp_claim HS.out HF.out.1 hk an 3).mono ?_
      rintro e w4 ⟨rfl, F4, h4, k4, n4⟩
      have HW : Hid (Went w0 w w4 z F _) := ⟨F4, h4, (HKW.out.mono (by simp)).trans k4 (fun q hq => .inl hq), fun q hq => (n4 q hq).imp id (fun h => Nat.le_trans HKW.out.size h)⟩
      clear h4 k4 n4
      go_wp2_with fail
      go_end0
      exact ⟨rfl, _, HW.out, HF.out.1.claim an 3, Sp.wu_of HF.out.2.1 (S.claim_W an 3).1, (S.claim_W an 3).2, (bes_claim S an 3).len, fun a ha => .claim ha HN.out 3⟩
  · as_aux_lemma =>
      go_wp2_with fail
      refine (sp_claim HS.out HF.out.1 hk an 3).mono ?_
      rintro e w4 ⟨rfl, F4, h4, k4, n4⟩
      have HW : Hid (Went w0 w w4 z F _) := ⟨F4, h4, (HKW.out.mono (by simp)).trans k4 (fun q hq => .inl hq), fun q hq => (n4 q hq).imp id (fun h => Nat.le_trans HKW.out.size h)⟩
      clear h4 k4 n4
      go_wp2_with fail
      go_end0
      exact ⟨rfl, _, HW.out, HF.out.1.claim an 3, Sp.wu_of HF.out.2.1 (S.claim_W an 3).1, (S.claim_W an 3).2, (bes_claim S an 3).len, fun a ha => .claim ha HN.out 3⟩
  · as_aux_lemma =>
      go_wp2_with fail
      refine (sp_ready HS.out HF.out.1 hk an x'.gen (1 + x % 16)).mono ?_
      rintro e w4 ⟨rfl, F4, h4, k4, n4⟩
      have HW : Hid (Went w0 w w4 z F _) := ⟨F4, h4, (HKW.out.mono (by simp)).trans k4 (fun q hq => .inl hq), fun q hq => (n4 q hq).imp id (fun h => Nat.le_trans HKW.out.size h)⟩
      clear h4 k4 n4
      go_wp2_with fail
      go_end0
      exact ⟨rfl, _, HW.out, HF.out.1.ready an x'.gen (1 + x % 16), Sp.wu_of HF.out.2.1 (S.ready_W an x'.gen (1 + x % 16)).1, (S.ready_W an x'.gen (1 + x % 16)).2, (bes_ready S an x'.gen (1 + x % 16)).len, fun a ha => .ready ha HN.out x'.gen (1 + x % 16)⟩
  · as_aux_lemma =>
      go_wp2_with fail
      refine (sp_ready HS.out HF.out.1 hk an x'.gen (1 + x % 16)).mono ?_
      rintro e w4 ⟨rfl, F4, h4, k4, n4⟩
      have HW : Hid (Went w0 w w4 z F _) := ⟨F4, h4, (HKW.out.mono (by simp)).trans k4 (fun q hq => .inl hq), fun q hq => (n4 q hq).imp id (fun h => Nat.le_trans HKW.out.size h)⟩
      clear h4 k4 n4
      go_wp2_with fail
      go_end0
      exact ⟨rfl, _, HW.out, HF.out.1.ready an x'.gen (1 + x % 16), Sp.wu_of HF.out.2.1 (S.ready_W an x'.gen (1 + x % 16)).1, (S.ready_W an x'.gen (1 + x % 16)).2, (bes_ready S an x'.gen (1 + x % 16)).len, fun a ha => .ready ha HN.out x'.gen (1 + x % 16)⟩
  · as_aux_lemma =>
      go_wp2_with fail
      refine (sp_put HS.out HF.out.1 hk an (x % 2) x).mono ?_
      rintro e w4 ⟨rfl, F4, h4, k4, n4⟩
      have HW : Hid (Went w0 w w4 z F _) := ⟨F4, h4, (HKW.out.mono (by simp)).trans k4 (fun q hq => .inl hq), fun q hq => (n4 q hq).imp id (fun h => Nat.le_trans HKW.out.size h)⟩
      clear h4 k4 n4
      go_wp2_with fail
      go_end0
      exact ⟨rfl, _, HW.out, HF.out.1.put an (x % 2) x, (Sp.put_wu HF.out.2.1 an (x % 2) x HX.out).1, (Sp.put_wu HF.out.2.1 an (x % 2) x HX.out).2, (bes_put S an (x % 2) x).len, fun a ha => .put ha an (x % 2) x⟩
end Go.Proofs.YtcoekpomiljofaaGreat.bd
