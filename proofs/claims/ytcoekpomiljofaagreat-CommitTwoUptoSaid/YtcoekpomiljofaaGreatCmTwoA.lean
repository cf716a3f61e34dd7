/- quashlaw13.apart: the stores of two threads stand apart. -/
import Derived.Test.YtcoekpomiljofaaGreatCmTwB
import Derived.Test.YtcoekpomiljofaaGreatCmMost
import Derived.WalkKit
namespace Go.Proofs.YtcoekpomiljofaaGreat
open Go.RowKit
set_option linter.unusedVariables false
set_option linter.unusedSimpArgs false
open tw
theorem logCells_get (l : List Acc) (k : Nat) (x : Acc) (hx : l[k]? = some x) (j : Nat) (u : Value) (hu : x.cells[j]? = some u) : (logCells l)[k * 6 + j]? = some u := by
  induction l generalizing k with
  | nil => simp at hx
  | cons y l ih =>
    have hj : j < 6 := by have := (List.getElem?_eq_some_iff.1 hu).1; simpa [Acc.cells] using this
    have e : logCells (y :: l) = y.cells ++ logCells l := by simp [logCells]
    rw [e]
    cases k with
    | zero =>
      simp at hx
      subst hx
      rw [Nat.zero_mul, Nat.zero_add, List.getElem?_append_left (by simpa [Acc.cells] using hj)]
      exact hu
    | succ k =>
      rw [List.getElem?_append_right (by simp [Acc.cells]; omega)]
      have := ih k (by simpa using hx)
      have e2 : (k + 1) * 6 + j - y.cells.length = k * 6 + j := by simp [Acc.cells]; omega
      rw [e2]
      exact this
theorem log_at {w : World} {base n c : Nat} {A : Option Addr} {l : List Acc} (h : w.ownsRow base 81 6 (.slice A n c) n (logCells l)) (hn : l.length = n) {k : Nat} {e : Acc} (he : l[k]? = some e) : ∃ b, A = some ⟨b, 0, none⟩ ∧ w.cell? ⟨b, k * 6 + 1, none⟩ = some (.int .i64 e.thread) ∧ w.cell? ⟨b, k * 6 + 2, none⟩ = some (.int .i64 e.kind) ∧ w.cell? ⟨b, k * 6 + 4, none⟩ = some (.int .i64 e.op) := by
  have hk := (List.getElem?_eq_some_iff.1 he).1
  obtain ⟨g, cc, e1, _, _⟩ := h.form (by omega)
  injection e1 with e1
  subst e1
  have hc : ∀ j u, j < 6 → e.cells[j]? = some u → w.cell? ⟨g, k * 6 + j, none⟩ = some u := fun j u hj hu => (World.ownsRow.cellAt h (k * 6 + j) (by omega)).trans (logCells_get l k e he j u hu)
  exact ⟨g, rfl, hc 1 _ (by omega) rfl, hc 2 _ (by omega) rfl, hc 4 _ (by omega) rfl⟩
def nine (f : Nat → Bool) : Array Value := #[.bool (f 0), .bool (f 1), .bool (f 2), .bool (f 3), .bool (f 4), .bool (f 5), .bool (f 6), .bool (f 7), .bool (f 8)]
theorem nine_get (f : Nat → Bool) {t : Nat} (ht : t ≤ 8) : (nine f)[t]? = some (.bool (f t)) := by
  have : t = 0 ∨ t = 1 ∨ t = 2 ∨ t = 3 ∨ t = 4 ∨ t = 5 ∨ t = 6 ∨ t = 7 ∨ t = 8 := by omega
  rcases this with rfl | rfl | rfl | rfl | rfl | rfl | rfl | rfl | rfl <;> rfl
theorem nine_set (f : Nat → Bool) {t : Nat} (ht : t ≤ 8) : (nine f).setIfInBounds t (.bool true) = nine (fun i => if i = t then true else f i) := by
  have : t = 0 ∨ t = 1 ∨ t = 2 ∨ t = 3 ∨ t = 4 ∨ t = 5 ∨ t = 6 ∨ t = 7 ∨ t = 8 := by omega
  rcases this with rfl | rfl | rfl | rfl | rfl | rfl | rfl | rfl | rfl <;> rfl
def sthL (l : List Acc) : List Int := (l.filter isSt).map Acc.thread
theorem sthL_cons (l : List Acc) {k : Nat} {e : Acc} (he : l[k]? = some e) : sthL (l.drop k) = if isSt e then e.thread :: sthL (l.drop (k + 1)) else sthL (l.drop (k + 1)) := by
  have hk := (List.getElem?_eq_some_iff.1 he).1
  have e1 : l.drop k = e :: l.drop (k + 1) := by
    rw [List.drop_eq_getElem_cons hk]
    congr 1
    exact (List.getElem?_eq_some_iff.1 he).2
  unfold sthL
  rw [e1, List.filter_cons]
  cases isSt e <;> simp
set_option maxRecDepth 100000 in
set_option maxHeartbeats 4000000 in
theorem apart_yes {w0 w : World} {z : Sb} {F : List Nat} {S : Sp} (hs : SP w0 w z F S) (hL : S.met.log.length ≤ 1099511627776) (hg : GoodT (sth S) 0 (fun _ => false)) :
    Calls Tryz.prog 26 #[PT z.p] w fun e w' => e = .returned (.bool true) ∧ Keeps [] w w' := by
  have HQ := Lib.hid (sp_log hs (by omega))
  have hcell := hs.cells.1
  have HG := Lib.hid (show GoodT (sthL (S.met.log.drop 0)) 0 (fun _ => false) from hg)
  obtain ⟨l, hl⟩ : ∃ q, S.met.log = q := ⟨_, rfl⟩
  rw [hl] at HQ HG hL
  obtain ⟨L, hLl⟩ : ∃ q, l.length = q := ⟨_, rfl⟩
  rw [hLl] at HQ hL
  have HL := Lib.hid hLl
  clear hs hg hl hLl
  go_enter Tryz.func26, Tryz.ntmps26
  go_wp2_with fail
  refine HQ.out.mono ?_
  rintro e w1 ⟨v, rfl, hown, hk1⟩
  obtain ⟨A, cc, rfl⟩ := own_form hown
  have hown0 := own_base hown (fun _ _ => Nat.zero_le _)
  have hka : Keeps [] w1 (w1.alloc (.cells #[.bool false, .bool false, .bool false, .bool false, .bool false, .bool false, .bool false, .bool false, .bool false] 175)) := by simp
  have hba : Blk (w1.alloc (.cells #[.bool false, .bool false, .bool false, .bool false, .bool false, .bool false, .bool false, .bool false, .bool false] 175)) w1.heap.size 175 (nine (fun _ => false)) := Blk.new _ _ _
  obtain ⟨w2, hw2⟩ : ∃ q, w1.alloc (.cells #[.bool false, .bool false, .bool false, .bool false, .bool false, .bool false, .bool false, .bool false, .bool false] 175) = q := ⟨_, rfl⟩
  rw [hw2] at hka hba
  have HO := Lib.hid (And.intro hown0 (And.intro hk1 (And.intro hka hba)))
  clear hown hown0 hk1 hka hba HQ hcell
  go_wp2_with fail
  try rw [hw2]
  obtain ⟨ob, hob⟩ : ∃ q, w1.heap.size = q := ⟨_, rfl⟩
  rw [hob] at HO
  try rw [hob]
  go_loopw [4, 6] (fun lv iv wr => ∃ (i : Nat) (a : Int) (f : Nat → Bool), i ≤ L ∧ iv = .int .i64 i ∧ lv = .int .i64 a ∧ 0 ≤ a ∧ a ≤ 8 ∧ GoodT (sthL (l.drop i)) a f ∧ Blk wr ob 175 (nine f) ∧ Keeps [] w1 wr) (fun _ iv _ => L - (intOf iv).toNat)
  case atStart => exact ⟨0, 0, _, Nat.zero_le _, rfl, rfl, by omega, by omega, HG.out, HO.out.2.2.2, HO.out.2.2.1⟩
  case round =>
    obtain ⟨i, a, f, hi, rfl, rfl, ha0, ha8, hgd, hblk, hkr⟩ := hrel
    have HGD := Lib.hid hgd
    have HB := Lib.hid hblk
    have HKR := Lib.hid hkr
    have hobl : w1.heap.size ≤ ob := Nat.le_of_eq hob
    clear hgd hblk hkr hob hw2
    have i0 : (0 : Int) ≤ (i : Int) := by omega
    have hwi : IntKind.i64.wrap ((i : Int) + 1) = (i : Int) + 1 := by rw [IntKind.wrap_i64]; omega
    by_cases hlt : i < L
    · have i1 : (i : Int) < (L : Int) := by omega
      obtain ⟨ev, hev⟩ : ∃ ev, l[i]? = some ev := ⟨_, List.getElem?_eq_getElem (by have := HL.out; omega)⟩
      obtain ⟨b, rfl, d1, d2, d4⟩ := log_at (own_keeps HO.out.1 HKR.out (by simp)) HL.out hev
      have hcons := sthL_cons l hev
      have hgo : ¬ (ev.kind = 1 ∧ ev.op = 2) → Hid (GoodT (sthL (l.drop (i + 1))) a f) := fun hn => by
        have : isSt ev = false := by
          unfold isSt
          simp
          exact fun h1 h2 => hn ⟨h1, h2⟩
        rw [this] at hcons
        have := HGD.out
        rw [hcons] at this
        exact this
      by_cases hkd : ev.kind = 1
      · by_cases hop : ev.op = 2
        · have hst : isSt ev = true := by unfold isSt; rw [hkd, hop]; rfl
          have hgd := HGD.out
          rw [hcons, hst] at hgd
          simp only [if_true] at hgd
          obtain ⟨t0, t8, hft, hrest⟩ := hgd
          obtain ⟨t, ht, ht8⟩ : ∃ t : Nat, ev.thread = (t : Int) ∧ t ≤ 8 := ⟨ev.thread.toNat, by omega, by omega⟩
          rw [ht] at d1 hrest hft
          rw [Int.toNat_natCast] at hft
          rw [hkd] at d2
          rw [hop] at d4
          have hc := (HB.out.cell t).trans (nine_get f ht8)
          rw [hft] at hc
          have HR := Lib.hid hrest
          have tt0 : (0 : Int) ≤ (t : Int) := by omega
          have tt9 : (t : Int) < 9 := by omega
          have tn0 : ¬ (t : Int) < 0 := by omega
          have tn8 : ¬ (t : Int) > 8 := by omega
          obtain ⟨an, rfl⟩ : ∃ an : Nat, a = (an : Int) := ⟨a.toNat, by omega⟩
          have a9 : (an : Int) < 9 := by omega
          clear hev hcons hgo hrest t0 t8 hkd hop hst ht hft HGD
          by_cases hz : (an : Int) = 0
          · have hz' : ((an : Int) != 0) = false := by simp [hz]
            have hr := HR.out
            rw [if_neg (fun h => h.1 hz)] at hr
            have HR2 := Lib.hid hr
            clear hr HR
            go_wp2_with fail
            exact ⟨⟨i + 1, t, f, by omega, by simp, rfl, by omega, by omega, HR2.out, HB.out, HKR.out⟩, by simp [intOf]; omega⟩
          · have hz' : ((an : Int) != 0) = true := by simp; omega
            by_cases hat : (an : Int) = (t : Int)
            · have hat' : ((an : Int) != (t : Int)) = false := by simp; omega
              have hr := HR.out
              rw [if_neg (fun h => h.2 hat)] at hr
              have HR2 := Lib.hid hr
              clear hr HR
              go_wp2_with fail
              exact ⟨⟨i + 1, t, f, by omega, by simp, rfl, by omega, by omega, HR2.out, HB.out, HKR.out⟩, by simp [intOf]; omega⟩
            · have hat' : ((an : Int) != (t : Int)) = true := by simp; omega
              have hr := HR.out
              rw [if_pos ⟨hz, hat⟩, Int.toNat_natCast] at hr
              have HR2 := Lib.hid hr
              have hfz := HB.out.frozen an
              have hcA := (HB.out.cell an).trans (nine_get f (by omega))
              have FIN : Hid (Blk (wr.setCell ⟨ob, an, none⟩ (.bool true)) ob 175 (nine (fun i => if i = an then true else f i)) ∧ Keeps [] w1 (wr.setCell ⟨ob, an, none⟩ (.bool true))) := ⟨by rw [← nine_set f (by omega)]; exact HB.out.set_ an _, HKR.out.setCell (.inr hobl) _⟩
              clear hr HR
              go_wp2_with fail
              exact ⟨⟨i + 1, t, _, by omega, by simp, rfl, by omega, by omega, HR2.out, FIN.out.1, FIN.out.2⟩, by simp [intOf]; omega⟩
        · have HG2 := hgo (fun h => hop h.2)
          have hop' : (ev.op != 2) = true := by simp [hop]
          rw [hkd] at d2
          clear hev hcons hgo
          go_wp2_with fail
          exact ⟨⟨i + 1, a, f, by omega, by simp, rfl, ha0, ha8, HG2.out, HB.out, HKR.out⟩, by simp [intOf]; omega⟩
      · have HG2 := hgo (fun h => hkd h.1)
        have hkd' : (ev.kind != 1) = true := by simp [hkd]
        clear hev hcons hgo
        go_wp2_with fail
        exact ⟨⟨i + 1, a, f, by omega, by simp, rfl, ha0, ha8, HG2.out, HB.out, HKR.out⟩, by simp [intOf]; omega⟩
    · obtain rfl : L = i := by omega
      go_wp2_with fail
      go_ret
      exact ⟨rfl, HO.out.2.1.trans HKR.out (by simp)⟩
end Go.Proofs.YtcoekpomiljofaaGreat
