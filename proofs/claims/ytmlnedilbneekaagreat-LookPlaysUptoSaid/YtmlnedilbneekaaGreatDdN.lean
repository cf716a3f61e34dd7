/- Layer 12: the document's NewDoom. -/
import Derived.Test.YtmlnedilbneekaaGreatDdS
import Derived.Test.YtmlnedilbneekaaGreatDmBad
namespace Go.Proofs.YtmlnedilbneekaaGreat
open Go.RowKit
set_option linter.unusedVariables false
namespace Ld
section
variable {w0 w w' : World} {y : Rb} {G X : List Nat} {S : Sp} {n b k c : Nat} {x : Dm} {A : Option Addr} {L : List Vc} {dv : Value}
theorem rthread (w : World) (who : Int) : Calls Tryz.prog 70 #[.int .i64 who] w fun e w' => e = .returned (.bool (!decide (who < 1 ∨ 8 < who))) ∧ Keeps [] w w' := by
  by_cases h1 : 1 ≤ who
  · by_cases h2 : who ≤ 8
    · rw [decide_eq_false (by omega : ¬ (who < 1 ∨ 8 < who))]
      have d1 : decide (who ≥ 1) = true := decide_eq_true h1
      have d2 : decide (who ≤ 8) = true := decide_eq_true h2
      clear h1 h2
      go_enter Tryz.func70, Tryz.ntmps70
      go_wp2_with fail
      go_ret
      exact ⟨rfl, by simp⟩
    · rw [decide_eq_true (by omega : (who < 1 ∨ 8 < who))]
      have d1 : decide (who ≥ 1) = true := decide_eq_true h1
      have d2 : decide (who ≤ 8) = false := decide_eq_false h2
      clear h1 h2
      go_enter Tryz.func70, Tryz.ntmps70
      go_wp2_with fail
      go_ret
      exact ⟨rfl, by simp⟩
  · rw [decide_eq_true (by omega : (who < 1 ∨ 8 < who))]
    have d1 : decide (who ≥ 1) = false := decide_eq_false h1
    clear h1
    go_enter Tryz.func70, Tryz.ntmps70
    go_wp2_with fail
    go_ret
    exact ⟨rfl, by simp⟩
set_option maxRecDepth 100000 in
set_option maxHeartbeats 4000000 in
theorem newDoom (h : RP w0 w y G S) (hn : S.c.slots = (n : Int)) (hv : Vs w A L) (hc : L.length ≤ c ∧ c ≤ maxLen) (hl : L.length ≤ 1099511627776) (who : Int) :
    Calls Tryz.prog 49 #[PT y.p, .int .i64 who, .slice A L.length c] w fun e w' => (dmE n who L = 0 → ∃ b, e = .returned (.tuple #[PT b, .int .i64 0]) ∧ DAt w' y b (Dm.new who L) A c L (.slice none 0 0) ∧ w.heap.size ≤ b) ∧ (dmE n who L ≠ 0 → e = .returned (.tuple #[.pointer none, .int .i64 (dmE n who L)])) ∧ Keeps [] w w' := by
  have HR := Lib.hid h
  have HV := Lib.hid hv
  have HC := Lib.hid hc
  have HNN := Lib.hid hn
  have QT := Lib.hid (rthread w who)
  by_cases hw : who < 1 ∨ 8 < who
  · have hE : dmE n who L = 1 := by unfold dmE; rw [if_pos hw]
    rw [hE]
    rw [decide_eq_true hw] at QT
    clear h hn hv hc hl hw hE
    go_enter Tryz.func49, Tryz.ntmps49
    go_wp2_with fail
    refine QT.out.mono ?_
    rintro e w1 ⟨rfl, hk⟩
    go_wp2_with fail
    go_ret2
    exact ⟨by simp, by simp, hk⟩
  · rw [decide_eq_false hw] at QT
    obtain ⟨m, hm⟩ : ∃ m, L.length = m := ⟨_, rfl⟩
    have HM := Lib.hid hm
    have HE : Hid (∀ b : Bool, L.any (Vc.off n) = b → dmE n who L = if b = true then 2 else 0) := fun b hb => by unfold dmE; rw [if_neg hw, hb]
    rw [hm] at hl ⊢
    have hmi : (m : Int) ≤ 1099511627776 := by omega
    clear h hn hv hc hw hm
    go_enter Tryz.func49, Tryz.ntmps49
    go_wp2_with fail
    refine QT.out.mono ?_
    rintro e w1 ⟨rfl, hk1⟩
    have HK1 := Lib.hid hk1
    clear hk1
    go_wp2_with fail
    go_loopw [8] (fun i wr => ∃ j : Nat, j ≤ m ∧ i = .int .i64 j ∧ Keeps [] w wr ∧ ∀ q v, q < j → L[q]? = some v → Vc.off n v = false) (fun i _ => m - (intOf i).toNat)
    case atStart => exact ⟨0, Nat.zero_le _, rfl, HK1.out, fun q v hq => absurd hq (by omega)⟩
    case round =>
      obtain ⟨j, hj, rfl, hk, hsf⟩ := hrel
      have HK := Lib.hid hk
      have HSF := Lib.hid hsf
      clear hk hsf
      by_cases hlt : (j : Int) < (m : Int)
      · have q0 : (0 : Int) ≤ (j : Int) := by omega
        obtain ⟨v, hv⟩ : ∃ v, L[j]? = some v := ⟨_, List.getElem?_eq_getElem (by have := HM.out; omega)⟩
        have HVJ := Lib.hid hv
        obtain ⟨q, off, rfl, hcell⟩ := (HV.out.keeps HK.out (by simp)) (by have := HM.out; omega)
        obtain ⟨v0, v1, v2, v3⟩ := vc_at L j v hv
        have t0 : wr.cell? ⟨q, off + j * 4, none⟩ = some (.int .i64 v.slot) := hcell _ _ v0
        have c1 : wr.cell? ⟨y.p, 1, none⟩ = some (.int .i64 (n : Int)) := by have := (HR.out.calm HK.out).cells.2.1; rw [HNN.out] at this; exact this
        have hw : IntKind.i64.wrap ((j : Int) + 1) = (j : Int) + 1 := by rw [IntKind.wrap_i64]; omega
        clear hv hcell v0 v1 v2 v3
        by_cases k0' : v.slot < 0
        · have k0 : decide (v.slot < 0) = true := decide_eq_true k0'
          have hE : Hid (L.any (Vc.off n) = true) := List.any_eq_true.2 ⟨v, List.mem_of_getElem? HVJ.out, by simp [Vc.off, k0]⟩
          clear k0'
          go_wp2_with fail
          go_quiet (fail)
          go_wp2_with fail
          go_ret2
          rw [HE.out true hE.out]
          exact ⟨by simp, by simp, HK.out.drewN _⟩
        · have k0 : decide (v.slot < 0) = false := decide_eq_false k0'
          by_cases k1' : (n : Int) ≤ v.slot
          · have k1 : decide (v.slot ≥ (n : Int)) = true := decide_eq_true k1'
            have hE : Hid (L.any (Vc.off n) = true) := List.any_eq_true.2 ⟨v, List.mem_of_getElem? HVJ.out, by simp [Vc.off, k1']⟩
            clear k0' k1'
            go_wp2_with fail
            go_quiet (fail)
            go_wp2_with fail
            go_ret2
            rw [HE.out true hE.out]
            exact ⟨by simp, by simp, HK.out.drewN _⟩
          · have k1 : decide (v.slot ≥ (n : Int)) = false := decide_eq_false k1'
            have hof : Hid (Vc.off n v = false) := by unfold Hid Vc.off; simp; omega
            clear k0' k1'
            go_wp2_with fail
            go_quiet (fail)
            go_wp2_with fail
            exact ⟨⟨j + 1, by omega, by simp, HK.out.drewN _, fun q u hq hu => by
              rcases Nat.lt_or_ge q j with h1 | h1
              · exact HSF.out q u h1 hu
              · have h2 : q = j := by omega
                subst h2
                rw [HVJ.out] at hu
                injection hu with hu
                subst hu
                exact hof.out⟩, by simp [intOf]; omega⟩
      · obtain rfl : j = m := by omega
        clear hlt
        go_wp2_with fail
        go_ret2
        have hE : L.any (Vc.off n) = false := by
          cases he : L.any (Vc.off n) with
          | false => rfl
          | true =>
            obtain ⟨v, hv, ho⟩ := List.any_eq_true.1 he
            obtain ⟨q, hq⟩ := List.getElem?_of_mem hv
            have hql := (List.getElem?_eq_some_iff.1 hq).1
            rw [HSF.out q v (by have := HM.out; omega) hq] at ho
            cases ho
        rw [HE.out false hE]
        have hz := HK.out.size
        have hkz : Keeps [] wr (wr.alloc (.cells #[PT y.p, .int .i64 who, .slice A j c, .int .i64 0, .slice none 0 0] 142)) := (Keeps.refl _ _).alloc _
        refine ⟨fun _ => ⟨_, rfl, ⟨⟨0, Nat.zero_le _, rfl, ?_⟩, World.ownsRow_nil _ _ _ _, HV.out.keeps (HK.out.trans hkz (by simp)) (by simp), HC.out⟩, hz⟩, by simp, HK.out.trans hkz (by simp)⟩
        rw [HM.out]
        exact Blk.new _ _ _
end
end Ld
end Go.Proofs.YtmlnedilbneekaaGreat
