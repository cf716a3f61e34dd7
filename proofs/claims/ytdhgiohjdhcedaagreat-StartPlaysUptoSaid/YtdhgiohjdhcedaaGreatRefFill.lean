/- The document's Fill. -/
import Derived.Test.YtdhgiohjdhcedaaGreatRefRow
import Derived.Test.YtdhgiohjdhcedaaGreatSrc
import Derived.Test.YtdhgiohjdhcedaaGreatSlc
import Derived.BigQuiet
import Derived.Deep.QuietTactic
import Derived.Outline
import Derived.Handy
import Derived.RegionTactic
import Derived.BigRegion
namespace Go.Proofs.YtdhgiohjdhcedaaGreat
namespace RefI
open Go.RowKit RowI
set_option linter.unusedVariables false

theorem fill_many (w : World) (r b : Nat) (kind : Int) (mp : Option Nat) (l : List Int) (hr : At R w r b kind mp l) (A : Option Addr) (n c : Nat) (hn : l.length < n) (hm : n ≤ maxLen) :
    Calls Tryz.prog 75 #[.pointer (some ⟨r, 0, none⟩), .slice A n c] w fun e w' => e = .returned (.int .i64 3) ∧ w = w' := by
  have c2 : w.cell? ⟨r, 2, none⟩ = some (.slice (some ⟨b, 0, none⟩) l.length l.length) := (hr.blk.cell 2).trans rfl
  have hf := hr.fits
  unfold maxLen at hm
  clear hr
  go_enter Tryz.func75, Tryz.ntmps75
  go_wp2
  go_ret
  exact ⟨rfl, rfl⟩

theorem At_set {R : TypeId} {w : World} {r b : Nat} {kind : Int} {mp : Option Nat} {l : List Int} (hRE : R ≠ 2) (h : At R w r b kind mp l) {k : Nat} (x : Int) : At R (w.setCell ⟨b, k, none⟩ (.int .i64 x)) r b kind mp (l.set k x) := by
  have hne : r ≠ b := h.blk.ne_ h.row hRE
  refine ⟨?_, ?_, by simpa using h.fits⟩
  · have := h.blk.far (p := ⟨b, k, none⟩) hne (.int .i64 x)
    simpa using this
  · have := h.row.set_ k (.int .i64 x)
    rwa [cells_set] at this
theorem At_drew {R : TypeId} {w : World} {r b : Nat} {kind : Int} {mp : Option Nat} {l : List Int} (h : At R w r b kind mp l) : At R w.drew r b kind mp l := h.keeps (S := []) (Keeps.refl _ _).drew (by simp) (by simp)

theorem splice_set (xs l : List Int) (k : Nat) (x : Int) (hx : xs[k]? = some x) (hk : k < l.length) : (xs.take k ++ l.drop k).set k x = xs.take (k + 1) ++ l.drop (k + 1) := by
  have hkx : k < xs.length := (List.getElem?_eq_some_iff.1 hx).1
  have e : (xs.take k).length = k := by simp; omega
  rw [List.set_append_right _ _ (by omega), e, Nat.sub_self, List.drop_eq_getElem_cons hk, List.set_cons_zero, List.take_add_one, hx]
  simp

theorem fill_ok (w : World) (r b : Nat) (kind : Int) (mp : Option Nat) (l : List Int) (hr : At R w r b kind mp l) (A : Option Addr) (c : Nat) (xs : List Int) (hA : Slc w A xs) (hne : 0 < xs.length → ∀ ad, A = some ad → ad.block ≠ b)
    (hn : xs.length ≤ l.length) :
    Calls Tryz.prog 75 #[.pointer (some ⟨r, 0, none⟩), .slice A xs.length c] w fun e w' => e = .returned (.int .i64 0) ∧ At R w' r b kind mp (xs ++ l.drop xs.length) ∧ Keeps [b] w w' := by
  have c2 : w.cell? ⟨r, 2, none⟩ = some (.slice (some ⟨b, 0, none⟩) l.length l.length) := (hr.blk.cell 2).trans rfl
  have hf := hr.fits
  have HR := Lib.hid hr
  have HA := Lib.hid hA
  have HN := Lib.hid hne
  have hnm : (xs.length : Int) ≤ (l.length : Int) := by omega
  have hd : decide (l.length < xs.length) = false := by simp; omega
  clear hr hA hne
  go_enter Tryz.func75, Tryz.ntmps75
  go_wp2
  clear c2
  go_loopw [5] (fun i wr => ∃ k : Nat, k ≤ xs.length ∧ i = .int .i64 k ∧ At R wr r b kind mp (xs.take k ++ l.drop k) ∧ Keeps [b] w wr) (fun i _ => xs.length - (intOf i).toNat)
  case atStart => exact ⟨0, Nat.zero_le _, rfl, by simpa using HR.out, Keeps.refl _ _⟩
  case round =>
    obtain ⟨k, hk, rfl, har, hkr⟩ := hrel
    have hlen : (xs.take k ++ l.drop k).length = l.length := by simp; omega
    have c2 : wr.cell? ⟨r, 2, none⟩ = some (.slice (some ⟨b, 0, none⟩) l.length l.length) := (har.blk.cell 2).trans (by rw [hlen]; rfl)
    have HR2 := Lib.hid har
    have HK := Lib.hid hkr
    have HLN := Lib.hid hlen
    clear har hkr hlen
    by_cases hlt : k < xs.length
    · obtain ⟨x, hx⟩ : ∃ x, xs[k]? = some x := ⟨_, List.getElem?_eq_getElem hlt⟩
      have HX := Lib.hid hx
      rcases HA.out.2 with h0 | ⟨b', off, rfl, hb, hc⟩
      · subst h0; simp at hlt
      have hbb : b' ≠ b := HN.out (by omega) _ rfl
      have d1 : wr.cell? ⟨b', off + k, none⟩ = some (.int .i64 x) := (keeps_cell HK.out hb (by simpa using hbb)).trans (hc k x hx)
      obtain ⟨y, hy⟩ : ∃ y, (xs.take k ++ l.drop k)[k]? = some y := ⟨_, List.getElem?_eq_getElem (by rw [HLN.out]; omega)⟩
      have d2 : wr.cell? ⟨b, k, none⟩ = some (.int .i64 y) := HR2.out.cell hy
      have d3 : wr.frozen? ⟨b, k, none⟩ = false := HR2.out.row.frozen k
      clear hc hx hy
      have g1 : (0 : Int) ≤ (k : Int) := by omega
      have g2 : (k : Int) < (xs.length : Int) := by omega
      have g3 : (k : Int) < (l.length : Int) := by omega
      go_wp2
      go_region
      go_wp2
      go_roundw
      case rel =>
        refine ⟨k + 1, by omega, by go_num, ?_, (HK.out.setCell (.inl (by simp)) _).drew⟩
        have := At_set (by decide) HR2.out (k := k) x
        rw [splice_set xs l k x HX.out (by omega)] at this
        exact At_drew this
      case measure => simp [intOf]; omega
    · have hge : ¬ ((k : Int) < (xs.length : Int)) := by omega
      go_wp2
      go_ret
      have e : k = xs.length := by omega
      subst e
      exact ⟨rfl, by simpa using HR2.out, HK.out⟩
end RefI
end Go.Proofs.YtdhgiohjdhcedaaGreat
