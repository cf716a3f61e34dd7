/- Layer 8, the document's side: its space is made. -/
import Derived.Test.YtcoekpomiljofaaGreatRpCheck
import Derived.Test.YtcoekpomiljofaaGreatIs
import Derived.Test.YtcoekpomiljofaaGreatRp
namespace Go.Proofs.YtcoekpomiljofaaGreat
open Go.RowKit
set_option linter.unusedVariables false
set_option linter.unusedSimpArgs false
theorem rp_new_bad (w : World) (c : Cf) (h : ¬ c.ok) : Calls Tryz.prog 36 #[.agg #[.int .i64 c.cells, .int .i64 c.slots, .int .i64 c.bits, .int .i64 c.tag, .int .i64 c.bias, .int .i64 c.defer]] w fun e w' => e = .returned (.tuple #[.pointer none, .int .i64 1]) ∧ Keeps [] w w' := by
  have hk : Keeps [] w (w.alloc (.cells c.vals 30)) := by simp
  have hb : Blk (w.alloc (.cells c.vals 30)) w.heap.size 30 c.vals := Blk.new _ _ _
  obtain ⟨d0, d1, d2, d3, d4, d5⟩ := cf_cells hb
  have HK := Lib.hid hk
  clear hk hb
  unfold Cf.vals at d0 d1 d2 d3 d4 d5
  have HQ : Hid (∀ w : World, Calls Tryz.prog 82 #[.agg #[.int .i64 c.cells, .int .i64 c.slots, .int .i64 c.bits, .int .i64 c.tag, .int .i64 c.bias, .int .i64 c.defer]] w fun e w' => e = .returned (.int .i64 1) ∧ Keeps [] w w') := fun w => by
    have := rp_check w c
    rw [if_neg h] at this
    exact this
  go_enter Tryz.func36, Tryz.ntmps36
  go_wp2_with fail
  refine (HQ.out _).mono ?_
  rintro e w1 ⟨rfl, hk1⟩
  have HK1 := Lib.hid (HK.out.trans hk1 (by simp))
  clear hk1 HQ
  go_wp2_with fail
  go_ret2
  exact ⟨rfl, HK1.out⟩
theorem newRef_int (w : World) (m : Nat) (i : Int) (h1 : 1 ≤ i) (h2 : i ≤ 256) :
    Calls Tryz.prog 84 #[PT m, .int .i64 1, .int .i64 i] w fun e w' => ∃ r b, e = .returned (PT r) ∧ RowI.At RefI.R w' r b 1 (some m) (List.replicate i.toNat 0) ∧ Keeps [] w w' ∧ w.heap.size ≤ b := by
  obtain ⟨n, rfl⟩ : ∃ n : Nat, i = n := ⟨i.toNat, by omega⟩
  exact (RefI.new_ok w m 1 n (by omega) (by omega)).mono fun e w' ⟨he, h3, h4, _⟩ => ⟨_, _, he, by simpa using h3, h4, Nat.le_refl _⟩
theorem newRT_int (w : World) (m : Nat) (i : Int) (h1 : 1 ≤ i) (h2 : i ≤ 8) :
    Calls Tryz.prog 83 #[PT m, .int .i64 i] w fun e w' => ∃ t d, e = .returned (.tuple #[PT t, .int .i64 0]) ∧ RT w' t m d (List.replicate i.toNat Hd.zero) (List.replicate (i.toNat * 2) 0) ∧ Keeps [] w w' ∧ w.heap.size ≤ d := by
  obtain ⟨n, rfl⟩ : ∃ n : Nat, i = n := ⟨i.toNat, by omega⟩
  exact (rt_new w m n (by omega) (by omega)).mono fun e w' ⟨he, h3, h4, _⟩ => ⟨_, _, he, by simpa using h3, h4, Nat.le_refl _⟩
set_option maxRecDepth 100000 in
set_option maxHeartbeats 4000000 in
theorem rp_new (w : World) (c : Cf) (h : c.ok) : Calls Tryz.prog 36 #[.agg #[.int .i64 c.cells, .int .i64 c.slots, .int .i64 c.bits, .int .i64 c.tag, .int .i64 c.bias, .int .i64 c.defer]] w fun e w' => ∃ y G, e = .returned (.tuple #[PT y.p, .int .i64 0]) ∧ RP w w' y G (Sp.new c) := by
  have hk : Keeps [] w (w.alloc (.cells c.vals 30)) := by simp
  have hb : Blk (w.alloc (.cells c.vals 30)) w.heap.size 30 c.vals := Blk.new _ _ _
  obtain ⟨d0, d1, d2, d3, d4, d5⟩ := cf_cells hb
  have HK := Lib.hid hk
  have HB := Lib.hid hb
  clear hk hb
  unfold Cf.vals at d0 d1 d2 d3 d4 d5
  have HQ : Hid (∀ w : World, Calls Tryz.prog 82 #[.agg #[.int .i64 c.cells, .int .i64 c.slots, .int .i64 c.bits, .int .i64 c.tag, .int .i64 c.bias, .int .i64 c.defer]] w fun e w' => e = .returned (.int .i64 0) ∧ Keeps [] w w') := fun w => by
    have := rp_check w c
    rw [if_pos h] at this
    exact this
  have HC := Lib.hid h
  obtain ⟨⟨h1, h2⟩, ⟨h3, h4⟩, _⟩ := h
  go_enter Tryz.func36, Tryz.ntmps36
  go_wp2_with fail
  refine (HQ.out _).mono ?_
  rintro e w1 ⟨rfl, hk1⟩
  have HK1 := Lib.hid (HK.out.trans hk1 (by simp))
  have HB1 := Lib.hid (HB.out.keeps hk1 (by simp))
  clear hk1 HQ d0 d1 d2 d3 d4 d5 HK HB
  obtain ⟨w2, hw2⟩ : ∃ w2, w1.alloc (.cells #[.int .i64 0, .int .i64 0, .int .i64 0, .int .i64 0, .slice none 0 0] XT) = w2 := ⟨_, rfl⟩
  have X2 : Hid (MetAt XT w2 (some w1.heap.size) w1.heap.size MS.zero) := hw2 ▸ ⟨_, Blk.new _ _ _, World.ownsRow_nil _ _ _ _, .inl ⟨rfl, rfl⟩⟩
  have HK2 : Hid (Keeps [] w w2) := hw2 ▸ HK1.out.alloc _
  have HB2 : Hid (Blk w2 w.heap.size 30 c.vals) := hw2 ▸ HB1.out.alloc _
  have HML : Hid (w.heap.size ≤ w1.heap.size) := HK1.out.size
  obtain ⟨m, hm⟩ : ∃ m, w1.heap.size = m := ⟨_, rfl⟩
  obtain ⟨d0, d1, d2, d3, d4, d5⟩ := cf_cells HB2.out
  go_wp2_with fail
  try rw [hw2]
  rw [hm] at X2 HML
  try rw [hm]
  clear hw2 HK1 HB1 hm
  refine (newRT_int w2 m c.slots h3 h4).mono ?_
  rintro e w4 ⟨t, d, rfl, ht, hk4, htd⟩
  have HT := Lib.hid ht
  have HTL : Hid (w.heap.size ≤ d) := by have := HK2.out.size; unfold Hid; omega
  have HM4 := Lib.hid (X2.out.keeps hk4 (by simp))
  have HK4 := Lib.hid (HK2.out.trans hk4 (by simp))
  have HB4 := Lib.hid (HB2.out.keeps hk4 (by simp))
  clear hk4 ht htd X2 HK2 HB2 d0 d1 d2 d3 d4 d5
  have hkB : Keeps [] w4 w4 := Keeps.refl _ _
  have HCL := Lib.hid (show ∀ w', Keeps [] w4 w' → w'.cell? ⟨w.heap.size, 0, none⟩ = some (.int .i64 c.cells) ∧ w'.cell? ⟨w.heap.size, 1, none⟩ = some (.int .i64 c.slots) ∧ w'.cell? ⟨w.heap.size, 2, none⟩ = some (.int .i64 c.bits) ∧ w'.cell? ⟨w.heap.size, 3, none⟩ = some (.int .i64 c.tag) ∧ w'.cell? ⟨w.heap.size, 4, none⟩ = some (.int .i64 c.bias) ∧ w'.cell? ⟨w.heap.size, 5, none⟩ = some (.int .i64 c.defer) from fun w' hk => cf_cells (HB4.out.keeps hk (by simp)))
  have QN : Hid (∀ w', Keeps [] w4 w' → Calls Tryz.prog 84 #[PT m, .int .i64 1, .int .i64 c.cells] w' fun e w'' => (∃ r b, e = .returned (PT r) ∧ RowI.At RefI.R w'' r b 1 (some m) (List.replicate c.cells.toNat 0) ∧ w4.heap.size ≤ b) ∧ Keeps [] w' w'' ∧ Keeps [] w4 w'') := fun w' hk => (newRef_int w' m c.cells h1 h2).mono fun e w'' ⟨r, b, he, g1, g2, g3⟩ => ⟨⟨r, b, he, g1, Nat.le_trans hk.size g3⟩, g2, hk.trans g2 (by simp)⟩
  go_wp2_with fail
  go_region_held3 (fun w' => w'.cell? ⟨w.heap.size, 0, none⟩ = some (.int .i64 c.cells) ∧ w'.cell? ⟨w.heap.size, 1, none⟩ = some (.int .i64 c.slots) ∧ w'.cell? ⟨w.heap.size, 2, none⟩ = some (.int .i64 c.bits) ∧ w'.cell? ⟨w.heap.size, 3, none⟩ = some (.int .i64 c.tag) ∧ w'.cell? ⟨w.heap.size, 4, none⟩ = some (.int .i64 c.bias) ∧ w'.cell? ⟨w.heap.size, 5, none⟩ = some (.int .i64 c.defer)) (first | with_reducible exact HCL.out _ (by first | with_reducible assumption | with_reducible exact Keeps.drew (by with_reducible assumption) | with_reducible exact Keeps.alloc (by with_reducible assumption) _ | with_reducible exact Keeps.drew (Keeps.alloc (by with_reducible assumption) _) | with_reducible exact Keeps.alloc (Keeps.drew (by with_reducible assumption)) _) | with_reducible exact HCL.out _ (Keeps.alloc (by first | with_reducible assumption | with_reducible exact Keeps.drew (by with_reducible assumption) | with_reducible exact Keeps.alloc (by with_reducible assumption) _ | with_reducible exact Keeps.drew (Keeps.alloc (by with_reducible assumption) _) | with_reducible exact Keeps.alloc (Keeps.drew (by with_reducible assumption)) _) _) | go_keep) ((go_at_call 84; (with_reducible refine (QN.out _ (by first | with_reducible assumption | with_reducible exact Keeps.drew (by with_reducible assumption) | with_reducible exact Keeps.alloc (by with_reducible assumption) _ | with_reducible exact Keeps.drew (Keeps.alloc (by with_reducible assumption) _) | with_reducible exact Keeps.alloc (Keeps.drew (by with_reducible assumption)) _)).mono ?_); rintro e w5 ⟨⟨r, b, rfl, hr, hlb⟩, hk5, hkc⟩; have HR5 := Lib.hid hr; clear hr))
  · go_wp2_with fail
    go_ret2
    have hz4 := HK4.out.size
    have hz5 := hkc.size
    have hm0 := HML.out
    have ht0 := HTL.out
    refine ⟨⟨w5.heap.size + 1, m, r, b, w5.heap.size, t, d⟩, _, rfl, ⟨⟨m, .slice none 0 0, ⟨?_, HM4.out.keeps ((hkc.alloc _).alloc _) (by simp), HR5.out.keeps (((Keeps.refl [] w5).alloc _).alloc _) (by simp) (by simp), (Blk.new w5 111 #[PT m, .int .i64 0, .int .i64 0]).alloc _, HT.out.keeps ((hkc.alloc _).alloc _) (by simp) (by simp), World.ownsRow_nil _ _ _ _⟩, rfl⟩, ?_, HK4.out.trans ((hkc.alloc _).alloc _) (by simp)⟩⟩
    · have hb := Blk.new (w5.alloc (.cells #[PT m, .int .i64 0, .int .i64 0] 111)) 109 #[.int .i64 c.cells, .int .i64 c.slots, .int .i64 c.bits, .int .i64 c.tag, .int .i64 c.bias, .int .i64 c.defer, PT m, PT r, PT w5.heap.size, PT t, .slice none 0 0]
      rw [show (w5.alloc (.cells #[PT m, .int .i64 0, .int .i64 0] 111)).heap.size = w5.heap.size + 1 by simp] at hb
      exact hb
    · intro x hx
      simp only [footY, Value.ownBlock, Option.toList, List.mem_cons, List.not_mem_nil, or_false] at hx
      omega
  · go_wp2_with fail
    go_ret2
    have hz4 := HK4.out.size
    have hz5 := hkc.size
    have hm0 := HML.out
    have ht0 := HTL.out
    have hg5 : Blk w5 w4.heap.size 111 #[PT m, .int .i64 0, .int .i64 0] := by
      first
        | exact (Blk.new w4 111 #[PT m, .int .i64 0, .int .i64 0]).keeps hk5 (by simp)
        | exact (Blk.new w4 111 #[PT m, .int .i64 0, .int .i64 0]).drew.keeps hk5 (by simp)
        | exact (Blk.new w4.drew 111 #[PT m, .int .i64 0, .int .i64 0]).keeps hk5 (by simp)
    refine ⟨⟨w5.heap.size, m, r, b, w4.heap.size, t, d⟩, _, rfl, ⟨⟨m, .slice none 0 0, ⟨Blk.new w5 109 #[.int .i64 c.cells, .int .i64 c.slots, .int .i64 c.bits, .int .i64 c.tag, .int .i64 c.bias, .int .i64 c.defer, PT m, PT r, PT w4.heap.size, PT t, .slice none 0 0], HM4.out.keeps (hkc.alloc _) (by simp), HR5.out.keeps ((Keeps.refl [] w5).alloc _) (by simp) (by simp), hg5.alloc _, HT.out.keeps (hkc.alloc _) (by simp) (by simp), World.ownsRow_nil _ _ _ _⟩, rfl⟩, ?_, HK4.out.trans (hkc.alloc _) (by simp)⟩⟩
    intro x hx
    simp only [footY, Value.ownBlock, Option.toList, List.mem_cons, List.not_mem_nil, or_false] at hx
    omega
end Go.Proofs.YtcoekpomiljofaaGreat
