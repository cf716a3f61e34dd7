/- Layer 13: a commit dooms. -/
import Derived.Test.YtdhgiohjdhcedaaGreatCmTake
import Derived.Test.YtdhgiohjdhcedaaGreatCmGo
import Derived.Test.YtdhgiohjdhcedaaGreatLookE
import Derived.Test.YtdhgiohjdhcedaaGreatLookV
namespace Go.Proofs.YtdhgiohjdhcedaaGreat
open Go.RowKit Pol
set_option linter.unusedVariables false
set_option linter.unusedSimpArgs false
section
variable {w0 w w' : World} {z : Sb} {F H : List Nat} {S S' : Sp} {k jb cb dp : Nat} {x x' : Cm} {nv : Value} {c : Cf} {d d' : Int}
theorem dm_behind {G : List Nat} {y : Dm} (h : DM w0 w z F dp G y) : Calls Tryz.prog 271 #[.agg #[PT dp]] w fun e w' => e = .returned (stgVal dp (if y.left = [] then .write 0 else .doom)) ∧ Keeps [] w w' := by
  have HQ := Lib.hid (fun (w' : World) (hk' : Keeps [] w w') => show Calls Tryz.prog 152 #[PT dp] w' fun e w'' => e = .returned (.bool y.left.isEmpty) ∧ w' = w'' by
    obtain ⟨⟨lv, dv, h1, _⟩, _, _⟩ := h.calm hk'
    exact dm_done h1)
  have hkB : Keeps [] w (w.alloc (.cells #[PT dp] 363)) := by simp
  have b0 : (w.alloc (.cells #[PT dp] 363)).cell? ⟨w.heap.size, 0, none⟩ = some (PT dp) := (Blk.cell (Blk.new w 363 #[PT dp]) 0).trans rfl
  clear h
  cases hy : y.left with
  | nil =>
    rw [hy] at HQ
    rw [if_pos rfl]
    clear hy
    go_enter Tryz.func271, Tryz.ntmps271
    go_wp2_with fail
    refine (HQ.out _ hkB).mono ?_
    rintro e w1 ⟨rfl, rfl⟩
    go_wp2_with fail
    try go_quiet (fail)
    try go_wp2_with fail
    go_ret
    exact ⟨by first | rfl | simp [stgVal], by first | exact hkB | exact hkB.drewN _⟩
  | cons v t =>
    rw [hy] at HQ
    rw [if_neg (by simp)]
    clear hy
    go_enter Tryz.func271, Tryz.ntmps271
    go_wp2_with fail
    refine (HQ.out _ hkB).mono ?_
    rintro e w1 ⟨rfl, rfl⟩
    go_wp2_with fail
    try go_quiet (fail)
    try go_wp2_with fail
    go_ret
    exact ⟨by first | rfl | simp [stgVal], by first | exact hkB | exact hkB.drewN _⟩
set_option maxRecDepth 100000 in
set_option maxHeartbeats 4000000 in
theorem cm_doom (h : CmTrio w0 w z F H jb cb dp nv S c d x) (hf : Fit k S) (hk : k ≤ 1099511627776) {y : Dm} (hy : x.dm = some y) (hsum : y.doomed.length + y.left.length ≤ 8) : Calls Tryz.prog 274 #[.agg #[PT dp], PT cb] w fun e w' => e = .returned (.tuple #[.int .i64 1, stgVal dp (x.doom_ y S).1.st]) ∧ WentC w0 w w' z F H jb cb dp nv (x.doom_ y S).2 c d (x.doom_ y S).1 := by
  have hkB : Keeps [] w (w.alloc (.cells #[PT dp] 363)) := by simp
  have bb := Blk.new w 363 #[PT dp]
  obtain ⟨wB, hwB⟩ : ∃ q, w.alloc (.cells #[PT dp] 363) = q := ⟨_, rfl⟩
  rw [hwB] at hkB bb
  have hB := h.calm hkB
  obtain ⟨G, hd, hGH, hgo⟩ := hB.dm hy
  have hbq : Hid (w.heap.size ∉ G ++ F) := fun hx => (List.mem_append.1 hx).elim (fun e => Nat.lt_irrefl _ (h.cm.lt _ (hGH _ e))) (fun e => Nat.lt_irrefl _ (h.sp.lt _ e))
  have HQ := Lib.hid (dm_step hB.sp hf hk hd (by omega))
  have HGO := Lib.hid (hgo)
  have b0 : wB.cell? ⟨w.heap.size, 0, none⟩ = some (PT dp) := (Blk.cell bb 0).trans rfl
  have HB := Lib.hid bb
  have HKB := Lib.hid hkB
  unfold Cm.doom_
  rw [Cm.doomed_is]
  obtain ⟨y', hy'⟩ : ∃ q, (y.step S).2.1 = q := ⟨_, rfl⟩
  obtain ⟨S', hS'⟩ : ∃ q, (y.step S).2.2 = q := ⟨_, rfl⟩
  obtain ⟨an, han⟩ : ∃ q, (y.step S).1 = q := ⟨_, rfl⟩
  rw [hy', hS', han] at HQ
  rw [hy', hS']
  have est : (({ x with dm := some y' } : Cm).at_ (if y'.left = [] then .write 0 else .doom)).st = (if y'.left = [] then .write 0 else .doom) := rfl
  rw [est]
  have QB := Lib.hid (fun (w1 : World) (F1 G1 : List Nat) (hd : DM w0 w1 z F1 dp G1 y') => dm_behind hd)
  obtain ⟨sg, hsg⟩ : ∃ q, (if y'.left = [] then Stg.write 0 else Stg.doom) = q := ⟨_, rfl⟩
  rw [hsg] at QB ⊢
  clear est hsg hy' hS' han h hf hk hy hsum hB hd hGH hgo bb hkB
  go_enter Tryz.func274, Tryz.ntmps274
  go_wp2_with fail
  try rw [hwB]
  refine HQ.out.mono ?_
  rintro e w1 ⟨rfl, hW⟩
  have hWC := HGO.out w1 S' y' hW
  obtain ⟨F', G', a1, a2, a3, a4, a5⟩ := hW
  have HW1 : Hid (WentC w0 w w1 z F H jb cb dp nv S' c d { x with dm := some y' }) := WentC.trans (HKB.out.mono (by simp)) (fun q hq => .inl hq) (fun q hq => .inl hq) hWC
  have b1 : w1.cell? ⟨w.heap.size, 0, none⟩ = some (PT dp) := (Blk.cell (HB.out.keeps a3 hbq.out) 0).trans rfl
  have HQ2 := Lib.hid (QB.out _ _ _ a2)
  clear hWC a1 a2 a3 a4 a5 hwB b0
  go_wp2_with fail
  refine HQ2.out.mono ?_
  rintro e w2 ⟨rfl, hk2⟩
  go_wp2_with fail
  go_ret2
  exact ⟨rfl, (HW1.out.calm hk2).st _⟩
end
end Go.Proofs.YtdhgiohjdhcedaaGreat
