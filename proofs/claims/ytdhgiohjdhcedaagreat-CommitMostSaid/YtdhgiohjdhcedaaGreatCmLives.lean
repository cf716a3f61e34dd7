/- quashlaw13: thread 1 lives in slot 0. -/
import Derived.Test.YtdhgiohjdhcedaaGreatCmNew
import Derived.Test.YtdhgiohjdhcedaaGreatCmStep
import Derived.Test.YtdhgiohjdhcedaaGreatSpW
namespace Go.Proofs.YtdhgiohjdhcedaaGreat
open Go.RowKit Pol
set_option linter.unusedVariables false
set_option linter.unusedSimpArgs false
/-- The space then. -/
def spL (c : Cf) : Sp := (((Sp.new c).claim 0 1).2.ready 0 1 5).2
def hdL : Hd := ⟨1, 2, 5, 1, false, 0⟩
theorem nth_rep {α : Type} {n : Nat} {a : α} (h : 1 ≤ n) : nth (List.replicate n a) 0 = some a := by
  obtain ⟨m, rfl⟩ : ∃ m, n = m + 1 := ⟨n - 1, by omega⟩
  rfl
theorem new_claim {c : Cf} (h : 1 ≤ c.slots) : (Sp.new c).claim 0 1 = ((1, 0), { (Sp.new c).acc 3 0 3 true with H := (List.replicate c.slots.toNat Hd.zero).set 0 ⟨1, 1, 0, 1, false, 0⟩ }) := by
  have hn : nth (Sp.new c).H 0 = some Hd.zero := nth_rep (by omega)
  unfold Sp.claim
  rw [if_neg (by decide), hn]
  simp [Hd.zero, Sp.new]
theorem spL_is {c : Cf} (h : 1 ≤ c.slots) : ((Sp.new c).claim 0 1).1 = (1, 0) ∧ (((Sp.new c).claim 0 1).2.ready 0 1 5).1 = 0 ∧ spL c = { ((Sp.new c).acc 3 0 3 true).acc 3 0 3 true with H := (List.replicate c.slots.toNat Hd.zero).set 0 hdL } := by
  have hn : nth ((List.replicate c.slots.toNat Hd.zero).set 0 ⟨1, 1, 0, 1, false, 0⟩) 0 = some ⟨1, 1, 0, 1, false, 0⟩ := by
    obtain ⟨m, hm⟩ : ∃ m, c.slots.toNat = m + 1 := ⟨c.slots.toNat - 1, by omega⟩
    rw [hm]
    rfl
  unfold spL
  rw [new_claim h]
  refine ⟨rfl, ?_, ?_⟩
  · unfold Sp.ready
    rw [if_neg (by decide)]
    simp only [hn]
    simp
  · unfold Sp.ready
    rw [if_neg (by decide)]
    simp only [hn]
    simp [hdL, Sp.acc]
theorem spL_fit {c : Cf} (h : c.ok) : Fit 2 (spL c) := ((Fit.new h).claim 0 1).ready 0 1 5
theorem spL_wu (c : Cf) : (spL c).wu := Sp.wu_of (Sp.new_wu c) ((Sp.ready_W _ _ _ _).1.trans (Sp.claim_W _ _ _).1)
theorem spL_c (c : Cf) : (spL c).c = c := (Sp.ready_W _ _ _ _).2.trans (Sp.claim_W _ _ _).2
set_option maxRecDepth 100000 in
set_option maxHeartbeats 2000000 in
theorem lives_any (w : World) (c : Cf) (hc : c.ok) : Calls Tryz.prog 18 #[.agg #[.int .i64 c.cells, .int .i64 c.slots, .int .i64 c.bits, .int .i64 c.tag, .int .i64 c.bias, .int .i64 c.defer]] w fun e w' => ∃ z jb F, e = .returned (.tuple #[PT z.p, PT jb, .bool true]) ∧ SP w w' z F (spL c) ∧ JAt w' jb c 0 ∧ w.heap.size ≤ jb := by
  have hk : Keeps [] w (w.alloc (.cells c.vals 23)) := by simp
  have hb : Blk (w.alloc (.cells c.vals 23)) w.heap.size 23 c.vals := Blk.new _ _ _
  obtain ⟨d0, d1, d2, d3, d4, d5⟩ := cf_cells hb
  have HK := Lib.hid hk
  have HB := Lib.hid hb
  have HCO := Lib.hid hc
  have HQ := Lib.hid (fun w' => sp_new w' c hc)
  have HJ := Lib.hid (fun w' => judge_new w' c hc)
  obtain ⟨s1, s2, s3⟩ := spL_is (c := c) hc.2.1.1
  have HS := Lib.hid (And.intro s1 (And.intro s2 s3))
  clear hk hb hc s1 s2 s3
  unfold Cf.vals at d0 d1 d2 d3 d4 d5
  go_enter Tryz.func18, Tryz.ntmps18
  go_wp2_with fail
  refine (HQ.out _).mono ?_
  rintro e w1 ⟨z, F, rfl, hs⟩
  have HS1 := Lib.hid (hs.base HK.out)
  obtain ⟨d0, d1, d2, d3, d4, d5⟩ := cf_cells (HB.out.keeps hs.keep (by simp))
  have HKW : Hid (Keeps [] w w1) := HK.out.trans hs.keep (by simp)
  clear hs
  go_wp2_with fail
  refine (HJ.out _).mono ?_
  rintro e w2 ⟨jb, rfl, hj, hlo, hk2⟩
  have HS2 := Lib.hid (HS1.out.calm hk2)
  have HJ2 := Lib.hid hj
  have HLO : Hid (w.heap.size ≤ jb) := Nat.le_trans HKW.out.size hlo
  clear hj hlo hk2 d0 d1 d2 d3 d4 d5
  go_wp2_with fail
  refine (sp_slots HS2.out).mono ?_
  rintro e w3 ⟨rfl, rfl⟩
  go_wp2_with fail
  refine (sp_gate HS2.out).mono ?_
  rintro e w3 ⟨rfl, rfl⟩
  go_wp2_with fail
  refine (sp_slots HS2.out).mono ?_
  rintro e w3 ⟨rfl, rfl⟩
  go_wp2_with fail
  refine (sp_claim HS2.out (Fit.new HCO.out) (by decide) 0 1).mono ?_
  rintro e w3 ⟨rfl, F3, h3, k3, n3⟩
  rw [HS.out.1]
  have HS3 := Lib.hid h3
  have HJ3 : Hid (JAt w3 jb c 0) := Blk.keeps HJ2.out k3 (HS2.out.out HJ2.out (by decide))
  clear h3 k3 n3
  go_wp2_with fail
  refine (sp_slots HS3.out).mono ?_
  rintro e w4 ⟨rfl, rfl⟩
  go_wp2_with fail
  refine (sp_ready HS3.out ((Fit.new HCO.out).claim 0 1) (by decide) 0 1 5).mono ?_
  rintro e w4 ⟨rfl, F4, h4, k4, n4⟩
  rw [HS.out.2.1]
  have HS4 := Lib.hid h4
  have HJ4 : Hid (JAt w4 jb c 0) := Blk.keeps HJ3.out k4 (HS3.out.out HJ3.out (by decide))
  clear h4 k4 n4
  go_wp2_with fail
  refine bodyPost_ret (v := .tuple #[PT z.p, PT jb, .bool true]) (by simp [results, Tryz.results18, go_sem]) rfl ?_
  exact ⟨z, jb, F4, rfl, HS4.out, HJ4.out, HLO.out⟩
end Go.Proofs.YtdhgiohjdhcedaaGreat
