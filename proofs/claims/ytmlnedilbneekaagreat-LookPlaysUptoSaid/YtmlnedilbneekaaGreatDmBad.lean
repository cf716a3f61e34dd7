/- Layer 12: look.NewDoom refused. -/
import Derived.Test.YtmlnedilbneekaaGreatLookE
import Derived.Deep.QuietTactic
import Derived.BigQuiet
namespace Go.Proofs.YtmlnedilbneekaaGreat
open Go.RowKit
set_option linter.unusedVariables false
attribute [local go_sem ↓] Go.wp_at_zero Go.wp_at_succ
/-- A victim that is at no place. -/
def Vc.off (n : Int) (v : Vc) : Bool := decide (v.slot < 0) || decide (n ≤ v.slot)
/-- What NewDoom answers. -/
def dmE (n who : Int) (L : List Vc) : Int := if who < 1 ∨ 8 < who then 1 else if L.any (Vc.off n) = true then 2 else 0
theorem dmE_zero {n who : Int} {L : List Vc} (h : dmE n who L = 0) : 1 ≤ who ∧ who ≤ 8 ∧ ∀ v, v ∈ L → 0 ≤ v.slot ∧ v.slot < n := by
  unfold dmE at h
  split at h
  · cases h
  · split at h
    · cases h
    · rename_i h1 h2
      refine ⟨by omega, by omega, fun v hv => ?_⟩
      have h3 : Vc.off n v = false := by
        cases he : Vc.off n v with
        | false => rfl
        | true => exact absurd (List.any_eq_true.2 ⟨v, hv, he⟩) h2
      simp [Vc.off] at h3
      omega
section
variable {w0 w w' w'' : World} {z : Sb} {F G : List Nat} {S S' : Sp} {k j b : Nat} {x x' : Lk} {y : Dm} {X : List Nat} {tv wv vv lv dv : Value}
theorem dm_new_who (w : World) (z : Sb) (who : Int) (vv : Value) (hb : who < 1 ∨ 8 < who) :
    Calls Tryz.prog 34 #[PT z.p, .int .i64 who, vv] w fun e w' => e = .returned (.tuple #[.pointer none, .int .i64 1]) ∧ Keeps [] w w' := by
  by_cases b1 : who < 1
  · have d1 : decide (who < 1) = true := decide_eq_true b1
    clear hb b1
    go_enter Tryz.func34, Tryz.ntmps34
    go_wp2_with fail
    go_ret2
    exact ⟨rfl, by simp⟩
  · have d1 : decide (who < 1) = false := decide_eq_false b1
    have d2 : decide (who > 8) = true := decide_eq_true (by omega)
    clear hb b1
    go_enter Tryz.func34, Tryz.ntmps34
    go_wp2_with fail
    go_ret2
    exact ⟨rfl, by simp⟩
set_option maxRecDepth 100000 in
set_option maxHeartbeats 4000000 in
theorem dm_new_place (h : SP w0 w z F S) (hf : Fit k S) (vs : List Vc) (hvs : w.ownsRow 0 113 4 vv vs.length (vcCells vs)) (who : Int) (h1 : 1 ≤ who) (h8 : who ≤ 8) (hr : vs.any (Vc.off S.H.length) = true) (hl : vs.length ≤ 1099511627776) :
    Calls Tryz.prog 34 #[PT z.p, .int .i64 who, vv] w fun e w' => e = .returned (.tuple #[.pointer none, .int .i64 2]) ∧ Keeps [] w w' := by
  obtain ⟨A, c, rfl, hcap, hcm⟩ : ∃ A c, vv = .slice A vs.length c ∧ vs.length ≤ c ∧ c ≤ maxLen := by
    obtain ⟨_, A, c, e, h1, h2, _⟩ := SlR.of_own hvs
    exact ⟨A, c, e, h1, h2⟩
  have HV := Lib.hid hvs
  have HR := Lib.hid hr
  have HH := Lib.hid h
  obtain ⟨n, hn⟩ : ∃ n, vs.length = n := ⟨_, rfl⟩
  have HN := Lib.hid hn
  obtain ⟨m, hm⟩ : ∃ m, S.H.length = m := ⟨_, rfl⟩
  have HM := Lib.hid hm
  rw [hn] at hcap ⊢
  have HNB : Hid (n ≤ 1099511627776) := by unfold Hid; omega
  have b1 : decide (who < 1) = false := by simp; omega
  have b2 : decide (who > 8) = false := by simp; omega
  clear hvs hr h hl hn hm hf
  go_enter Tryz.func34, Tryz.ntmps34
  go_wp2_with fail
  go_loopw [18] (fun i wr => ∃ j : Nat, j ≤ n ∧ i = .int .i64 j ∧ Keeps [] w wr ∧ ∀ q v, q < j → vs[q]? = some v → Vc.off S.H.length v = false) (fun i _ => n - (intOf i).toNat)
  case atStart => exact ⟨0, Nat.zero_le _, rfl, Keeps.refl _ _, fun q v hq => absurd hq (by omega)⟩
  case round =>
    obtain ⟨j, hj, rfl, hk, hsf⟩ := hrel
    have HSF := Lib.hid hsf
    clear hsf
    have HK := Lib.hid hk
    clear hk
    by_cases hlt : (j : Int) < (n : Int)
    · have q0 : (0 : Int) ≤ (j : Int) := by omega
      obtain ⟨v, hv⟩ : ∃ v, vs[j]? = some v := ⟨_, List.getElem?_eq_getElem (by have := HN.out; omega)⟩
      have HVJ := Lib.hid hv
      have hvsl := SlR.of_own HV.out
      rw [HN.out] at hvsl
      obtain ⟨g, off, c', he, _, _, hcell⟩ := hvsl.spot_pos (by omega)
      injection he with he1 _ he3
      subst he1 he3
      have hgl : g < w.heap.size := tyOf_lt (hvsl.ty g (by simp [vblk, Value.ownBlock]))
      obtain ⟨v0, v1, v2, v3⟩ := vc_at vs j v hv
      have hkc : ∀ i u, (vcCells vs)[i]? = some u → wr.cell? ⟨g, off + i, none⟩ = some u := fun i u hu => (keeps_cell HK.out (p := ⟨g, off + i, none⟩) hgl (by simp)).trans (hcell i u hu)
      obtain ⟨t0, t1, t2, t3⟩ : wr.cell? ⟨g, off + j * 4, none⟩ = some (.int .i64 v.slot) ∧ wr.cell? ⟨g, off + j * 4 + 1, none⟩ = some (.int .i64 v.gen) ∧ wr.cell? ⟨g, off + j * 4 + 2, none⟩ = some (.int .i64 v.stamp) ∧ wr.cell? ⟨g, off + j * 4 + 3, none⟩ = some (.int .i64 v.thread) := ⟨hkc _ _ v0, hkc _ _ v1, hkc _ _ v2, hkc _ _ v3⟩
      have hk2 : Keeps [] w (wr.alloc (.cells #[.int .i64 v.slot, .int .i64 v.gen, .int .i64 v.stamp, .int .i64 v.thread] 113)) := HK.out.alloc _
      have hp2 : Blk (wr.alloc (.cells #[.int .i64 v.slot, .int .i64 v.gen, .int .i64 v.stamp, .int .i64 v.thread] 113)) wr.heap.size 113 #[.int .i64 v.slot, .int .i64 v.gen, .int .i64 v.stamp, .int .i64 v.thread] := Blk.new _ _ _
      have hs2 := HH.out.calm hk2
      have QS := Lib.hid (fun w' (hk : Keeps [] (wr.alloc (.cells #[.int .i64 v.slot, .int .i64 v.gen, .int .i64 v.stamp, .int .i64 v.thread] 113)) w') => slots_held hs2 hk)
      have QL := Lib.hid (fun w' (hk : Keeps [] (wr.alloc (.cells #[.int .i64 v.slot, .int .i64 v.gen, .int .i64 v.stamp, .int .i64 v.thread] 113)) w') => len_heldS hs2 hk)
      rw [HM.out] at QL
      have HP2 := Lib.hid hp2
      have HK2 := Lib.hid hk2
      have KK := Lib.hid hkc
      have hkB : Keeps [] (wr.alloc (.cells #[.int .i64 v.slot, .int .i64 v.gen, .int .i64 v.stamp, .int .i64 v.thread] 113)) (wr.alloc (.cells #[.int .i64 v.slot, .int .i64 v.gen, .int .i64 v.stamp, .int .i64 v.thread] 113)) := Keeps.refl _ _
      clear hv hvsl hcell v0 v1 v2 v3 hkc hk2 hp2 hs2 hgl
      go_wp2_with fail
      clear t0 t1 t2 t3
      obtain ⟨wB, hwB⟩ : ∃ q, wr.alloc (.cells #[.int .i64 v.slot, .int .i64 v.gen, .int .i64 v.stamp, .int .i64 v.thread] 113) = q := ⟨_, rfl⟩
      obtain ⟨p, hp⟩ : ∃ q, wr.heap.size = q := ⟨_, rfl⟩
      rw [hwB] at QS QL HP2 HK2 hkB ⊢
      rw [hp] at HP2 ⊢
      have HC := Lib.hid (show ∀ w', Keeps [] wB w' → w'.cell? ⟨p, 0, none⟩ = some (.int .i64 v.slot) from fun w' hk => ((Blk.keeps HP2.out hk (by simp)).cell 0).trans rfl)
      clear hwB hp
      by_cases k0' : v.slot < 0
      · have k0 : decide (v.slot < 0) = true := decide_eq_true k0'
        have c0 := HC.out wB (Keeps.refl _ _)
        have hkz := HK2.out
        clear k0'
        go_quiet (fail)
        go_wp2_with fail
        go_ret2
        exact ⟨rfl, by first | exact hkz | exact hkz.drew | exact hkz.drewN _⟩
      · have k0 : decide (v.slot < 0) = false := decide_eq_false k0'
        by_cases k1' : (m : Int) ≤ v.slot
        · have k1 : decide (v.slot ≥ (m : Int)) = true := decide_eq_true k1'
          clear k0' k1'
          go_region_held3 (fun w' => w'.cell? ⟨p, 0, none⟩ = some (.int .i64 v.slot)) (first | with_reducible exact HC.out _ (by first | assumption | exact Keeps.drew (by assumption)) | go_keep) ((first
            | (go_at_call 25; refine (QS.out _ (by first | assumption | exact Keeps.drew (by assumption))).mono ?_; rintro e wc ⟨rfl, hkc⟩)
            | (go_at_call 106; refine (QL.out _ (by first | assumption | exact Keeps.drew (by assumption))).mono ?_; rintro e wd ⟨rfl, hkd⟩)))
          all_goals
            go_wp2_with fail
            go_ret2
            exact ⟨rfl, HK2.out.trans hkd (by simp)⟩
        · have k1 : decide (v.slot ≥ (m : Int)) = false := decide_eq_false k1'
          have hof : Hid (Vc.off S.H.length v = false) := by unfold Hid Vc.off; rw [HM.out]; simp; omega
          clear k0' k1'
          go_region_held3 (fun w' => w'.cell? ⟨p, 0, none⟩ = some (.int .i64 v.slot)) (first | with_reducible exact HC.out _ (by first | assumption | exact Keeps.drew (by assumption)) | go_keep) ((first
            | (go_at_call 25; refine (QS.out _ (by first | assumption | exact Keeps.drew (by assumption))).mono ?_; rintro e wc ⟨rfl, hkc⟩)
            | (go_at_call 106; refine (QL.out _ (by first | assumption | exact Keeps.drew (by assumption))).mono ?_; rintro e wd ⟨rfl, hkd⟩)))
          have hw : IntKind.i64.wrap ((j : Int) + 1) = (j : Int) + 1 := by have := HNB.out; rw [IntKind.wrap_i64]; omega
          all_goals
            go_wp2_with fail
            exact ⟨⟨j + 1, by omega, by simp, HK2.out.trans hkd (by simp), fun q u hq hu => by
              rcases Nat.lt_or_ge q j with h1 | h1
              · exact HSF.out q u h1 hu
              · have h2 : q = j := by omega
                subst h2
                rw [HVJ.out] at hu
                injection hu with hu
                subst hu
                exact hof.out⟩, by simp [intOf]; omega⟩
    · exfalso
      obtain ⟨v, hv, ho⟩ := List.any_eq_true.1 HR.out
      obtain ⟨q, hq⟩ := List.getElem?_of_mem hv
      have hql := (List.getElem?_eq_some_iff.1 hq).1
      have := HSF.out q v (by have := HN.out; omega) hq
      rw [this] at ho
      cases ho
end
end Go.Proofs.YtmlnedilbneekaaGreat
