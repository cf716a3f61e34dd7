/- LookDooms' plain law: what a dooming does to heads. No program in sight. -/
import Derived.Test.YtnednminpmiojaaFindP
namespace Go.Proofs.Ytnednminpmiojaa.fd
open Go.RowKit
set_option linter.unusedVariables false
theorem slC_set : ∀ (H : List Hd) (W : List Int) (i : Nat) (y : Hd), W.length = 2 * H.length → i < H.length →
    slC (H.set i y) W = ((((((slC H W).set (i * 8) (.int .i64 y.gen)).set (i * 8 + 1) (.int .i64 y.state)).set (i * 8 + 2) (.int .i64 y.stamp)).set (i * 8 + 3) (.int .i64 y.thread)).set (i * 8 + 4) (.bool y.doomed)).set (i * 8 + 5) (.int .i64 y.who)
  | [], _, i, y, _, h => by simp at h
  | x :: H, a :: b :: W, 0, y, hw, h => rfl
  | x :: H, a :: b :: W, i + 1, y, hw, h => by
    simp at h hw
    have ih := slC_set H W i y (by omega) (by omega)
    have e : ∀ k, (i + 1) * 8 + k = i * 8 + k + 8 := fun k => by omega
    have e0 : (i + 1) * 8 = i * 8 + 8 := by omega
    rw [e, e, e, e, e, e0]
    show Sl.cells ⟨x, a, b⟩ ++ slC (H.set i y) W = _
    rw [ih]
    rfl
  | x :: H, [], _, _, hw, _ => by simp at hw
  | x :: H, [a], _, _, hw, _ => by simp at hw; omega
theorem doom_at {S : Sp} {H : List Hd} (hH : S.H = H) (hl : H.length = 8) {sl g who : Int} (v0 : 0 ≤ sl) (v8 : sl < 8) (w1 : 1 ≤ who) (w8 : who ≤ 8) :
    S.doom sl g who = if (hd H sl).state = 2 ∧ (hd H sl).gen = g then (0, { S.acc 3 sl 3 true with H := H.set sl.toNat ((hd H sl).doom who) }) else (4, S.acc 3 sl 3 false) := by
  have hx : nth S.H sl = some (hd H sl) := by
    unfold nth
    rw [if_pos v0, hH]
    unfold hd
    rw [List.getElem?_eq_getElem (by omega)]
    rfl
  unfold Sp.doom
  rw [if_neg (by omega), hx]
  simp only [hH]
theorem hd_same {H : List Hd} {sn : Nat} (h : sn < H.length) : H.set sn (hd H (sn : Int)) = H := by
  unfold hd
  rw [Int.toNat_natCast, List.getElem?_eq_getElem h]
  simp
/-- The victims of the call, their slots taken round. -/
def turned (p : Int × Int × Int × Int) : Vc := ⟨p.1 % 8, p.2.1, p.2.2.1, p.2.2.2⟩
end Go.Proofs.Ytnednminpmiojaa.fd
