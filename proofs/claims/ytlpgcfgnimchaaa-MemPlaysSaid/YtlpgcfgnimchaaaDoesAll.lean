/- quashlaw01.does: Begin, All, and what is no step. -/
import Derived.Test.YtlpgcfgnimchaaaDoes1
import Derived.Test.YtlpgcfgnimchaaaSameRow
namespace Go.Proofs.Ytlpgcfgnimchaaa
open Go.RowKit
set_option linter.unusedVariables false

section
variable {w : World} {g lb gx lbx r b ry bx : Nat} {kind : Int} {l : List Int} {s : MS} (h : Pair w g lb gx lbx r b ry bx kind l s) (hl : s.log.length < 2199023255552)
include h

theorem Pair.begun {w1 w2 : World} (t : Int) (h1 : MetAt MT w1 (some g) lb (s.begin t)) (k1 : Keeps (foot (some g) lb) w w1) (h2 : RowI.At RefI.R w1 ry bx kind (some gx) l → MetAt XT w1 (some gx) lbx s → MetAt XT w2 (some gx) lbx (s.begin t) ∧ Keeps [gx, lbx] w1 w2) :
    Stepped g lb gx lbx r b ry bx kind l s w w2 := by
  have hL : RowI.Left RowI.R MT r b kind (some g) l lb (s.begin t) w w1 := ⟨h.row.keeps k1 (h.row.foot RowI.ty h.met).1 (h.row.foot RowI.ty h.met).2, lb, h1, k1.mono (by simp +contextual), .inl rfl⟩
  have hF := h.first hL
  obtain ⟨h3, k3⟩ := h2 hF.1 hF.2
  have hM : RowI.Left RefI.R XT ry bx kind (some gx) l lbx (s.begin t) w1 w2 := ⟨hF.1.keeps k3 (hF.1.foot RefI.ty hF.2).1 (hF.1.foot RefI.ty hF.2).2, lbx, h3, k3.mono (by simp [foot]), .inl rfl⟩
  exact h.second hL hM rfl (by simp [MS.begin])

set_option maxRecDepth 100000 in
theorem does_begin (other : Bool) (i x old : Int) (A : Option Addr) (n cap : Nat) :
    Calls Try.prog 26 (doesArgs g gx r ry other 1 i x old A n cap) w fun e w' => e = .returned (.bool true) ∧ Stepped g lb gx lbx r b ry bx kind l s w w' := by
  have H0 := Lib.hid h
  have H := Lib.hid (h.alloc (.cells #[.bool other, .int .i64 1, .int .i64 i, .int .i64 x, .int .i64 old, .slice A n cap] 49))
  clear h
  unfold doesArgs
  go_enter Try.func26, Try.ntmps26
  go_wp2_with fail
  refine (begin_any _ (some g) lb s H.out.met i).mono ?_
  rintro e w1 ⟨rfl, h1, k1⟩
  have hlt := H0.out.lt
  have hbx : Blk w1 w.heap.size 49 #[.bool other, .int .i64 1, .int .i64 i, .int .i64 x, .int .i64 old, .slice A n cap] := (Blk.new w _ _).keeps k1 (by simp [foot]; omega)
  have b2 : w1.cell? ⟨w.heap.size, 2, none⟩ = some (.int .i64 i) := (hbx.cell 2).trans rfl
  have H1 := Lib.hid h1
  have K1 := Lib.hid k1
  clear h1 k1 hbx hlt
  go_wp2_with fail
  refine (RefM.begin_any w1 gx lbx s ?hx i).mono ?_
  case hx =>
    have hL : RowI.Left RowI.R MT r b kind (some g) l lb (s.begin i) _ w1 := ⟨H.out.row.keeps K1.out (H.out.row.foot RowI.ty H.out.met).1 (H.out.row.foot RowI.ty H.out.met).2, lb, H1.out, K1.out.mono (by simp +contextual), .inl rfl⟩
    exact (H.out.first hL).2
  rintro e w2 ⟨rfl, h2, k2⟩
  have H2 := Lib.hid (And.intro h2 k2)
  clear h2 k2
  go_wp2_with fail
  go_ret
  exact ⟨rfl, Stepped.of_alloc _ (H.out.begun i H1.out K1.out (fun _ _ => H2.out))⟩

set_option maxRecDepth 100000 in
theorem does_none (other : Bool) (kd i x old : Int) (A : Option Addr) (n cap : Nat) (hk : kd < 1 ∨ 6 < kd) :
    Calls Try.prog 26 (doesArgs g gx r ry other kd i x old A n cap) w fun e w' => e = .returned (.bool true) ∧ Stepped g lb gx lbx r b ry bx kind l s w w' := by
  have H0 := Lib.hid h
  clear h
  have e1 : (kd == 1) = false := by simp; omega
  have e2 : (kd == 2) = false := by simp; omega
  have e3 : (kd == 3) = false := by simp; omega
  have e4 : (kd == 4) = false := by simp; omega
  have e5 : (kd == 5) = false := by simp; omega
  have e6 : (kd == 6) = false := by simp; omega
  clear hk
  unfold doesArgs
  go_enter Try.func26, Try.ntmps26
  go_wp2_with fail
  go_ret
  exact ⟨rfl, Stepped.rest H0.out (by simp)⟩

set_option maxRecDepth 100000 in
set_option maxHeartbeats 400000 in
theorem does_all (hpos : 0 < l.length) (other : Bool) (i x old : Int) (A : Option Addr) (n cap : Nat) :
    Calls Try.prog 26 (doesArgs g gx r ry other 6 i x old A n cap) w fun e w' => e = .returned (.bool true) ∧ Stepped g lb gx lbx r b ry bx kind l s w w' := by
  have H0 := Lib.hid h
  have H := Lib.hid (h.alloc (.cells #[.bool other, .int .i64 6, .int .i64 i, .int .i64 x, .int .i64 old, .slice A n cap] 49))
  have hfit := h.row.fits
  clear h
  unfold doesArgs
  go_enter Try.func26, Try.ntmps26
  go_wp2_with fail
  refine (RowI.all_any _ r b kind (some g) l H.out.row).mono ?_
  rintro e w1 ⟨v, rfl, hown, hk1⟩
  obtain ⟨gl, cl, hv, hgl, _⟩ := hown.form hpos
  subst hv
  have hK1 : Keeps [] w w1 := ((Keeps.refl _ _).alloc _).trans hk1 (by simp)
  have hrx := H0.out.rox.keeps hK1 (by simp) (by simp)
  have x2 : w1.cell? ⟨ry, 2, none⟩ = some (.slice (some ⟨bx, 0, none⟩) l.length l.length) := (hrx.blk.cell 2).trans rfl
  have hs1 : Slc w1 (some ⟨gl, 0, none⟩) l := by
    obtain ⟨A', c', e1, e2, e3⟩ := Slc.of_own hown (by unfold maxLen; omega)
    simp at e1
    obtain ⟨rfl, rfl⟩ := e1
    exact e3
  have hs2 : Slc w1 (some ⟨bx, 0, none⟩) l := Slc.of_blk hrx.row (by unfold maxLen; omega)
  have HS := Lib.hid (And.intro hs1 hs2)
  have hgw : w.heap.size ≤ gl := by simp at hgl; omega
  have HW := Lib.hid (And.intro hown (And.intro hK1 hgw))
  clear hown hk1 hK1 hrx hs1 hs2 hgl hgw
  go_wp2_with fail
  refine (sameRow_yes w1 _ _ l _ _ HS.out.1 HS.out.2).mono ?_
  rintro e w2 ⟨rfl, hk2⟩
  have HR : Hid (w2.ownsRow w.heap.size 2 1 (.slice (some ⟨gl, 0, none⟩) l.length cl) l.length (l.map (Value.int .i64)) ∧ Keeps [] w w2 ∧ w.heap.size ≤ gl) := by
    refine ⟨?_, HW.out.2.1.trans hk2 (by simp), HW.out.2.2⟩
    have := own_keeps HW.out.1 hk2 (by simp)
    rw [RowI.cells_map] at this
    exact own_base this (by simp [Value.ownBlock]; exact HW.out.2.2)
  clear hk2 HS HW x2
  have hli : (l.length : Int) ≤ 4096 := by omega
  go_wp2_with fail
  go_loopw [29] (fun j wr => ∃ (k : Nat) (zs : List Int), k ≤ l.length ∧ j = .int .i64 k ∧ zs.length = l.length ∧ wr.ownsRow w.heap.size 2 1 (.slice (some ⟨gl, 0, none⟩) l.length cl) l.length (zs.map (Value.int .i64)) ∧ Keeps [] w wr) (fun j _ => l.length - (intOf j).toNat)
  case atStart => exact ⟨0, l, Nat.zero_le _, rfl, rfl, HR.out.1, HR.out.2.1⟩
  case round =>
    obtain ⟨k, zs, hk, rfl, hz, hown, hkr⟩ := hrel
    have HO := Lib.hid hown
    have HK := Lib.hid hkr
    have HZ := Lib.hid hz
    clear hown hkr hz
    by_cases hlt : k < l.length
    · obtain ⟨z, hzk⟩ : ∃ z, zs[k]? = some z := ⟨_, List.getElem?_eq_getElem (by rw [HZ.out]; exact hlt)⟩
      have d1 : wr.cell? ⟨gl, k, none⟩ = some (.int .i64 z) := (HO.out.cellAt k (by omega)).trans (by rw [List.getElem?_map, hzk]; rfl)
      have d2 := HO.out.frozenAt k
      have g1 : (0 : Int) ≤ (k : Int) := by omega
      have g2 : (k : Int) < (l.length : Int) := by omega
      clear hzk
      go_wp2_with fail
      go_roundw
      case rel =>
        refine ⟨k + 1, zs.set k (bits BinOp.xor IntKind.i64 z 1), by omega, by go_num, by simp [HZ.out], ?_, HK.out.setCell (.inr HR.out.2.2) _⟩
        rw [List.map_set]
        exact (HO.out.stored k _).1
      case measure => simp [intOf]; omega
    · have hge : ¬ ((k : Int) < (l.length : Int)) := by omega
      obtain ⟨i0, hi, hz0, hz1, hz2⟩ := info_parts RowI.Try.infoI
      have hmx : Hid (l.length + 1 ≤ maxLen) := by unfold Hid maxLen; omega
      have hby : Hid ((l.length + 1) * 8 ≤ 140737488355328) := by unfold Hid; omega
      have hbs := HK.out.size
      go_wp2_with (at_builtin; refine wpList_append_own _ rfl (.tmp 211) (.tmp 212) 47 rfl w.heap.size 2 i0 _ 1 8 Try.underlying47 hi hz0 hz1 hz2 rfl (by decide) (.slice (some ⟨gl, 0, none⟩) l.length cl) l.length _ rfl (HO.out.alloc _) ⟨wr.heap.size, 0, none⟩ 1 1 [.int .i64 5] rfl rfl (cell_one_new _ _ _) (by simp [Value.oneCell']) hmx.out hby.out (by simp; omega) ?_; intro v3 w3 hown3 hgrow3 _)
      go_ret
      refine ⟨rfl, Stepped.rest H0.out ?_⟩
      exact (HK.out.alloc _).grown hgrow3 (by simp [Value.ownBlock]; exact HR.out.2.2)
end
end Go.Proofs.Ytlpgcfgnimchaaa
