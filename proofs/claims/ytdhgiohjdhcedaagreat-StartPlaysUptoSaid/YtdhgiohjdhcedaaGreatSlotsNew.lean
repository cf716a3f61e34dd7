/- Package slots: New; the closures of Claim, Ready, Doom, Free. -/
import Derived.Test.YtdhgiohjdhcedaaGreatSlots
namespace Go.Proofs.YtdhgiohjdhcedaaGreat
open Go.RowKit
set_option linter.unusedVariables false
theorem slots_new_bad (w : World) (mp : Option Nat) (n : Int) (hn : n < 1 ∨ 8 < n) : Calls Tryz.prog 118 #[PM mp, .int .i64 n] w fun e w' => e = .returned (.tuple #[.pointer none, .int .i64 1]) ∧ w = w' := by
  rcases hn with hn | hn
  · go_enter Tryz.func118, Tryz.ntmps118
    go_wp2
    go_ret2
    exact ⟨rfl, rfl⟩
  · have h1 : ¬ (n < 1) := by omega
    go_enter Tryz.func118, Tryz.ntmps118
    go_wp2
    go_ret2
    exact ⟨rfl, rfl⟩
/-- Where New lays a table in a world of so many blocks. -/
def Tb.new (n : Nat) : Tb := ⟨n + 4, n + 1, n, n + 3, n + 2⟩
theorem slots_new (w : World) (mp : Option Nat) (n : Nat) (h1 : 1 ≤ n) (h2 : n ≤ 8) : Calls Tryz.prog 118 #[PM mp, .int .i64 n] w fun e w' =>
    e = .returned (.tuple #[.pointer (some ⟨w.heap.size + 4, 0, none⟩), .int .i64 0]) ∧ TabAt w' (Tb.new w.heap.size) mp (List.replicate n Hd.zero) (List.replicate (n * 2) 0) ∧ Keeps [] w w' := by
  have hn := Lib.hid (RowH.newRow_ok w mp 3 n h1 (by omega))
  have e1 : ¬ ((n : Int) < 1) := by omega
  have e2 : ¬ ((8 : Int) < (n : Int)) := by omega
  have e3 : Hid ((n : Int) * 2 = ((n * 2 : Nat) : Int)) := by unfold Hid; simp
  go_enter Tryz.func118, Tryz.ntmps118
  go_wp2_with fail
  refine hn.out.mono ?_
  rintro e w1 ⟨rfl, hr, hk, hs⟩
  have HR := Lib.hid hr
  have HK := Lib.hid hk
  have HS := Lib.hid hs
  clear hr hk hs hn
  go_wp2_with fail
  rw [e3.out]
  refine (RowU.newRow_ok w1 mp 4 (n * 2) (by omega) (by omega)).mono ?_
  rintro e w2 ⟨rfl, hr2, hk2, hs2⟩
  have HR2 := Lib.hid hr2
  have HK2 := Lib.hid hk2
  have HS2 := Lib.hid hs2
  clear hr2 hk2 hs2
  go_wp2_with fail
  have E1 : w1.heap.size = w.heap.size + 2 := HS.out
  have E2 : w2.heap.size = w.heap.size + 4 := by rw [HS2.out, E1]
  simp only [E1, E2]
  go_ret2
  have a1 := HR2.out
  rw [E1] at a1
  exact ⟨rfl, ⟨new_at _ _ _ E2, (HR.out.keeps HK2.out (by simp) (by simp)).keeps ((Keeps.refl [] w2).alloc _) (by simp) (by simp), a1.keeps ((Keeps.refl [] w2).alloc _) (by simp) (by simp), by simp; omega, by simpa using h1, by simpa using h2⟩, (HK.out.trans HK2.out (by simp)).alloc _⟩
theorem claim1_yes (w : World) (h : Hd) (h0 : h.state = 0) : Calls Tryz.prog 97 #[.agg #[.int .i64 h.gen, .int .i64 h.state, .int .i64 h.stamp, .int .i64 h.thread, .bool h.doomed, .int .i64 h.who]] w fun e w' => e = .returned (.bool true) ∧ Keeps [] w w' := by
  go_enter Tryz.func97, Tryz.ntmps97
  go_wp2
  go_ret
  exact ⟨by simp [*], by simp⟩
theorem claim1_no (w : World) (h : Hd) (h0 : ¬ h.state = 0) : Calls Tryz.prog 97 #[.agg #[.int .i64 h.gen, .int .i64 h.state, .int .i64 h.stamp, .int .i64 h.thread, .bool h.doomed, .int .i64 h.who]] w fun e w' => e = .returned (.bool false) ∧ Keeps [] w w' := by
  go_enter Tryz.func97, Tryz.ntmps97
  go_wp2
  go_ret
  exact ⟨by simp [*], by simp⟩
theorem ready1_yes (w : World) (h : Hd) (B : Nat) (g : Int) (hB : w.cell? ⟨B, 0, none⟩ = some (.int .i64 g)) (h0 : h.state = 1) (h1 : h.gen = g) : Calls Tryz.prog 99 #[.agg #[.int .i64 h.gen, .int .i64 h.state, .int .i64 h.stamp, .int .i64 h.thread, .bool h.doomed, .int .i64 h.who], .pointer (some ⟨B, 0, none⟩)] w fun e w' => e = .returned (.bool true) ∧ Keeps [] w w' := by
  have hlt := World.block_lt_of_cell? w _ hB
  simp only at hlt
  have hB1 : (w.alloc (.cells #[.int .i64 h.gen, .int .i64 h.state, .int .i64 h.stamp, .int .i64 h.thread, .bool h.doomed, .int .i64 h.who] 55)).cell? ⟨B, 0, none⟩ = some (.int .i64 g) := by rw [World.cell?_alloc_past _ _ _ hlt]; exact hB
  go_enter Tryz.func99, Tryz.ntmps99
  go_wp2
  go_ret
  exact ⟨by simp [*], by simp⟩
theorem ready1_no (w : World) (h : Hd) (B : Nat) (g : Int) (hB : w.cell? ⟨B, 0, none⟩ = some (.int .i64 g)) (h0 : h.state = 1) (h1 : ¬ h.gen = g) : Calls Tryz.prog 99 #[.agg #[.int .i64 h.gen, .int .i64 h.state, .int .i64 h.stamp, .int .i64 h.thread, .bool h.doomed, .int .i64 h.who], .pointer (some ⟨B, 0, none⟩)] w fun e w' => e = .returned (.bool false) ∧ Keeps [] w w' := by
  have hlt := World.block_lt_of_cell? w _ hB
  simp only at hlt
  have hB1 : (w.alloc (.cells #[.int .i64 h.gen, .int .i64 h.state, .int .i64 h.stamp, .int .i64 h.thread, .bool h.doomed, .int .i64 h.who] 55)).cell? ⟨B, 0, none⟩ = some (.int .i64 g) := by rw [World.cell?_alloc_past _ _ _ hlt]; exact hB
  go_enter Tryz.func99, Tryz.ntmps99
  go_wp2
  go_ret
  exact ⟨by simp [*], by simp⟩
theorem ready1_not (w : World) (h : Hd) (B : Nat) (g : Int) (hB : w.cell? ⟨B, 0, none⟩ = some (.int .i64 g)) (h0 : ¬ h.state = 1) : Calls Tryz.prog 99 #[.agg #[.int .i64 h.gen, .int .i64 h.state, .int .i64 h.stamp, .int .i64 h.thread, .bool h.doomed, .int .i64 h.who], .pointer (some ⟨B, 0, none⟩)] w fun e w' => e = .returned (.bool false) ∧ Keeps [] w w' := by
  have hlt := World.block_lt_of_cell? w _ hB
  simp only at hlt
  have hB1 : (w.alloc (.cells #[.int .i64 h.gen, .int .i64 h.state, .int .i64 h.stamp, .int .i64 h.thread, .bool h.doomed, .int .i64 h.who] 55)).cell? ⟨B, 0, none⟩ = some (.int .i64 g) := by rw [World.cell?_alloc_past _ _ _ hlt]; exact hB
  go_enter Tryz.func99, Tryz.ntmps99
  go_wp2
  go_ret
  exact ⟨by simp [*], by simp⟩
theorem doom1_yes (w : World) (h : Hd) (B : Nat) (g : Int) (hB : w.cell? ⟨B, 0, none⟩ = some (.int .i64 g)) (h0 : h.state = 2) (h1 : h.gen = g) : Calls Tryz.prog 93 #[.agg #[.int .i64 h.gen, .int .i64 h.state, .int .i64 h.stamp, .int .i64 h.thread, .bool h.doomed, .int .i64 h.who], .pointer (some ⟨B, 0, none⟩)] w fun e w' => e = .returned (.bool true) ∧ Keeps [] w w' := by
  have hlt := World.block_lt_of_cell? w _ hB
  simp only at hlt
  have hB1 : (w.alloc (.cells #[.int .i64 h.gen, .int .i64 h.state, .int .i64 h.stamp, .int .i64 h.thread, .bool h.doomed, .int .i64 h.who] 55)).cell? ⟨B, 0, none⟩ = some (.int .i64 g) := by rw [World.cell?_alloc_past _ _ _ hlt]; exact hB
  go_enter Tryz.func93, Tryz.ntmps93
  go_wp2
  go_ret
  exact ⟨by simp [*], by simp⟩
theorem doom1_no (w : World) (h : Hd) (B : Nat) (g : Int) (hB : w.cell? ⟨B, 0, none⟩ = some (.int .i64 g)) (h0 : h.state = 2) (h1 : ¬ h.gen = g) : Calls Tryz.prog 93 #[.agg #[.int .i64 h.gen, .int .i64 h.state, .int .i64 h.stamp, .int .i64 h.thread, .bool h.doomed, .int .i64 h.who], .pointer (some ⟨B, 0, none⟩)] w fun e w' => e = .returned (.bool false) ∧ Keeps [] w w' := by
  have hlt := World.block_lt_of_cell? w _ hB
  simp only at hlt
  have hB1 : (w.alloc (.cells #[.int .i64 h.gen, .int .i64 h.state, .int .i64 h.stamp, .int .i64 h.thread, .bool h.doomed, .int .i64 h.who] 55)).cell? ⟨B, 0, none⟩ = some (.int .i64 g) := by rw [World.cell?_alloc_past _ _ _ hlt]; exact hB
  go_enter Tryz.func93, Tryz.ntmps93
  go_wp2
  go_ret
  exact ⟨by simp [*], by simp⟩
theorem doom1_not (w : World) (h : Hd) (B : Nat) (g : Int) (hB : w.cell? ⟨B, 0, none⟩ = some (.int .i64 g)) (h0 : ¬ h.state = 2) : Calls Tryz.prog 93 #[.agg #[.int .i64 h.gen, .int .i64 h.state, .int .i64 h.stamp, .int .i64 h.thread, .bool h.doomed, .int .i64 h.who], .pointer (some ⟨B, 0, none⟩)] w fun e w' => e = .returned (.bool false) ∧ Keeps [] w w' := by
  have hlt := World.block_lt_of_cell? w _ hB
  simp only at hlt
  have hB1 : (w.alloc (.cells #[.int .i64 h.gen, .int .i64 h.state, .int .i64 h.stamp, .int .i64 h.thread, .bool h.doomed, .int .i64 h.who] 55)).cell? ⟨B, 0, none⟩ = some (.int .i64 g) := by rw [World.cell?_alloc_past _ _ _ hlt]; exact hB
  go_enter Tryz.func93, Tryz.ntmps93
  go_wp2
  go_ret
  exact ⟨by simp [*], by simp⟩
theorem free1_yes (w : World) (h : Hd) (B : Nat) (g : Int) (hB : w.cell? ⟨B, 0, none⟩ = some (.int .i64 g)) (h0 : ¬ h.state = 0) (h1 : h.gen = g) : Calls Tryz.prog 95 #[.agg #[.int .i64 h.gen, .int .i64 h.state, .int .i64 h.stamp, .int .i64 h.thread, .bool h.doomed, .int .i64 h.who], .pointer (some ⟨B, 0, none⟩)] w fun e w' => e = .returned (.bool true) ∧ Keeps [] w w' := by
  have hlt := World.block_lt_of_cell? w _ hB
  simp only at hlt
  have hB1 : (w.alloc (.cells #[.int .i64 h.gen, .int .i64 h.state, .int .i64 h.stamp, .int .i64 h.thread, .bool h.doomed, .int .i64 h.who] 55)).cell? ⟨B, 0, none⟩ = some (.int .i64 g) := by rw [World.cell?_alloc_past _ _ _ hlt]; exact hB
  go_enter Tryz.func95, Tryz.ntmps95
  go_wp2
  go_ret
  exact ⟨by simp [*], by simp⟩
theorem free1_no (w : World) (h : Hd) (B : Nat) (g : Int) (hB : w.cell? ⟨B, 0, none⟩ = some (.int .i64 g)) (h0 : ¬ h.state = 0) (h1 : ¬ h.gen = g) : Calls Tryz.prog 95 #[.agg #[.int .i64 h.gen, .int .i64 h.state, .int .i64 h.stamp, .int .i64 h.thread, .bool h.doomed, .int .i64 h.who], .pointer (some ⟨B, 0, none⟩)] w fun e w' => e = .returned (.bool false) ∧ Keeps [] w w' := by
  have hlt := World.block_lt_of_cell? w _ hB
  simp only at hlt
  have hB1 : (w.alloc (.cells #[.int .i64 h.gen, .int .i64 h.state, .int .i64 h.stamp, .int .i64 h.thread, .bool h.doomed, .int .i64 h.who] 55)).cell? ⟨B, 0, none⟩ = some (.int .i64 g) := by rw [World.cell?_alloc_past _ _ _ hlt]; exact hB
  go_enter Tryz.func95, Tryz.ntmps95
  go_wp2
  go_ret
  exact ⟨by simp [*], by simp⟩
theorem free1_not (w : World) (h : Hd) (B : Nat) (g : Int) (hB : w.cell? ⟨B, 0, none⟩ = some (.int .i64 g)) (h0 : h.state = 0) : Calls Tryz.prog 95 #[.agg #[.int .i64 h.gen, .int .i64 h.state, .int .i64 h.stamp, .int .i64 h.thread, .bool h.doomed, .int .i64 h.who], .pointer (some ⟨B, 0, none⟩)] w fun e w' => e = .returned (.bool false) ∧ Keeps [] w w' := by
  have hlt := World.block_lt_of_cell? w _ hB
  simp only at hlt
  have hB1 : (w.alloc (.cells #[.int .i64 h.gen, .int .i64 h.state, .int .i64 h.stamp, .int .i64 h.thread, .bool h.doomed, .int .i64 h.who] 55)).cell? ⟨B, 0, none⟩ = some (.int .i64 g) := by rw [World.cell?_alloc_past _ _ _ hlt]; exact hB
  go_enter Tryz.func95, Tryz.ntmps95
  go_wp2
  go_ret
  exact ⟨by simp [*], by simp⟩
theorem claim2 (w : World) (h : Hd) (B : Nat) (g : Int) (hB : w.cell? ⟨B, 0, none⟩ = some (.int .i64 g))  : Calls Tryz.prog 98 #[.agg #[.int .i64 h.gen, .int .i64 h.state, .int .i64 h.stamp, .int .i64 h.thread, .bool h.doomed, .int .i64 h.who], .pointer (some ⟨B, 0, none⟩)] w fun e w' => e = .returned (.agg #[.int .i64 (wrap64 (h.gen + 1)), .int .i64 1, .int .i64 0, .int .i64 g, .bool false, .int .i64 0]) ∧ Keeps [] w w' := by
  have hlt := World.block_lt_of_cell? w _ hB
  simp only at hlt
  have hB1 : ((w.alloc (.cells #[.int .i64 h.gen, .int .i64 h.state, .int .i64 h.stamp, .int .i64 h.thread, .bool h.doomed, .int .i64 h.who] 55)).alloc (.cells #[.int .i64 0, .int .i64 0, .int .i64 0, .int .i64 0, .bool false, .int .i64 0] 55)).cell? ⟨B, 0, none⟩ = some (.int .i64 g) := by rw [World.cell?_alloc_past _ _ _ (by simp; omega), World.cell?_alloc_past _ _ _ hlt]; exact hB
  go_enter Tryz.func98, Tryz.ntmps98
  go_wp2
  refine bodyPost_ret (v := .agg #[.int .i64 (wrap64 (h.gen + 1)), .int .i64 1, .int .i64 0, .int .i64 g, .bool false, .int .i64 0]) (by simp [results, Tryz.results98, go_sem]) rfl ⟨rfl, ?_⟩
  simp
theorem ready2 (w : World) (h : Hd) (B : Nat) (g : Int) (hB : w.cell? ⟨B, 0, none⟩ = some (.int .i64 g))  : Calls Tryz.prog 100 #[.agg #[.int .i64 h.gen, .int .i64 h.state, .int .i64 h.stamp, .int .i64 h.thread, .bool h.doomed, .int .i64 h.who], .pointer (some ⟨B, 0, none⟩)] w fun e w' => e = .returned (.agg #[.int .i64 h.gen, .int .i64 2, .int .i64 g, .int .i64 h.thread, .bool h.doomed, .int .i64 h.who]) ∧ Keeps [] w w' := by
  have hlt := World.block_lt_of_cell? w _ hB
  simp only at hlt
  have hB1 : ((w.alloc (.cells #[.int .i64 h.gen, .int .i64 h.state, .int .i64 h.stamp, .int .i64 h.thread, .bool h.doomed, .int .i64 h.who] 55)).alloc (.cells #[.int .i64 0, .int .i64 0, .int .i64 0, .int .i64 0, .bool false, .int .i64 0] 55)).cell? ⟨B, 0, none⟩ = some (.int .i64 g) := by rw [World.cell?_alloc_past _ _ _ (by simp; omega), World.cell?_alloc_past _ _ _ hlt]; exact hB
  go_enter Tryz.func100, Tryz.ntmps100
  go_wp2
  go_region
  all_goals go_wp2
  all_goals refine bodyPost_ret (v := .agg #[.int .i64 h.gen, .int .i64 2, .int .i64 g, .int .i64 h.thread, .bool h.doomed, .int .i64 h.who]) (by simp [results, Tryz.results100, go_sem]) rfl ⟨rfl, ?_⟩
  all_goals exact (((Keeps.refl _ _).alloc _).alloc _).drew
theorem doom2_new (w : World) (h : Hd) (B : Nat) (g : Int) (hB : w.cell? ⟨B, 0, none⟩ = some (.int .i64 g)) (hd : h.doomed = false) : Calls Tryz.prog 94 #[.agg #[.int .i64 h.gen, .int .i64 h.state, .int .i64 h.stamp, .int .i64 h.thread, .bool h.doomed, .int .i64 h.who], .pointer (some ⟨B, 0, none⟩)] w fun e w' => e = .returned (.agg #[.int .i64 h.gen, .int .i64 h.state, .int .i64 h.stamp, .int .i64 h.thread, .bool true, .int .i64 g]) ∧ Keeps [] w w' := by
  have hlt := World.block_lt_of_cell? w _ hB
  simp only at hlt
  have hB1 : ((w.alloc (.cells #[.int .i64 h.gen, .int .i64 h.state, .int .i64 h.stamp, .int .i64 h.thread, .bool h.doomed, .int .i64 h.who] 55)).alloc (.cells #[.int .i64 0, .int .i64 0, .int .i64 0, .int .i64 0, .bool false, .int .i64 0] 55)).cell? ⟨B, 0, none⟩ = some (.int .i64 g) := by rw [World.cell?_alloc_past _ _ _ (by simp; omega), World.cell?_alloc_past _ _ _ hlt]; exact hB
  go_enter Tryz.func94, Tryz.ntmps94
  go_wp2
  go_region
  all_goals go_wp2
  all_goals refine bodyPost_ret (v := .agg #[.int .i64 h.gen, .int .i64 h.state, .int .i64 h.stamp, .int .i64 h.thread, .bool true, .int .i64 g]) (by simp [results, Tryz.results94, go_sem]) rfl ⟨rfl, ?_⟩
  all_goals exact (((Keeps.refl _ _).alloc _).alloc _).drew
theorem doom2_old (w : World) (h : Hd) (B : Nat) (g : Int) (hB : w.cell? ⟨B, 0, none⟩ = some (.int .i64 g)) (hd : h.doomed = true) : Calls Tryz.prog 94 #[.agg #[.int .i64 h.gen, .int .i64 h.state, .int .i64 h.stamp, .int .i64 h.thread, .bool h.doomed, .int .i64 h.who], .pointer (some ⟨B, 0, none⟩)] w fun e w' => e = .returned (.agg #[.int .i64 h.gen, .int .i64 h.state, .int .i64 h.stamp, .int .i64 h.thread, .bool h.doomed, .int .i64 h.who]) ∧ Keeps [] w w' := by
  have hlt := World.block_lt_of_cell? w _ hB
  simp only at hlt
  have hB1 : ((w.alloc (.cells #[.int .i64 h.gen, .int .i64 h.state, .int .i64 h.stamp, .int .i64 h.thread, .bool h.doomed, .int .i64 h.who] 55)).alloc (.cells #[.int .i64 0, .int .i64 0, .int .i64 0, .int .i64 0, .bool false, .int .i64 0] 55)).cell? ⟨B, 0, none⟩ = some (.int .i64 g) := by rw [World.cell?_alloc_past _ _ _ (by simp; omega), World.cell?_alloc_past _ _ _ hlt]; exact hB
  go_enter Tryz.func94, Tryz.ntmps94
  go_wp2
  refine bodyPost_ret (v := .agg #[.int .i64 h.gen, .int .i64 h.state, .int .i64 h.stamp, .int .i64 h.thread, .bool h.doomed, .int .i64 h.who]) (by simp [results, Tryz.results94, go_sem, hd]) rfl ⟨rfl, ?_⟩
  simp
theorem free2 (w : World) (h : Hd)  : Calls Tryz.prog 96 #[.agg #[.int .i64 h.gen, .int .i64 h.state, .int .i64 h.stamp, .int .i64 h.thread, .bool h.doomed, .int .i64 h.who]] w fun e w' => e = .returned (.agg #[.int .i64 h.gen, .int .i64 0, .int .i64 0, .int .i64 0, .bool false, .int .i64 0]) ∧ Keeps [] w w' := by
  go_enter Tryz.func96, Tryz.ntmps96
  go_wp2
  refine bodyPost_ret (v := .agg #[.int .i64 h.gen, .int .i64 0, .int .i64 0, .int .i64 0, .bool false, .int .i64 0]) (by simp [results, Tryz.results96, go_sem]) rfl ⟨rfl, ?_⟩
  simp
end Go.Proofs.YtdhgiohjdhcedaaGreat
