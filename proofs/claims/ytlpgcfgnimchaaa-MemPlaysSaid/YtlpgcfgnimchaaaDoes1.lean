/- quashlaw01.does: a step over a row and over the document's row: both say the same and stay the same. -/
import Derived.Test.YtlpgcfgnimchaaaMemSt
import Derived.Test.YtlpgcfgnimchaaaRefRow
import Derived.Test.YtlpgcfgnimchaaaOpen
namespace Go.Proofs.Ytlpgcfgnimchaaa
open Go.RowKit
set_option linter.unusedVariables false

/-- A row and the document's, of a meter and the document's: both hold the same. -/
structure Pair (w : World) (g lb gx lbx r b ry bx : Nat) (kind : Int) (l : List Int) (s : MS) : Prop where
  row : RowI.At RowI.R w r b kind (some g) l
  rox : RowI.At RefI.R w ry bx kind (some gx) l
  met : MetAt MT w (some g) lb s
  mex : MetAt XT w (some gx) lbx s
  ne : lb ≠ lbx
  nb : b ≠ bx

/-- What a step leaves. -/
def Stepped (g lb gx lbx r b ry bx : Nat) (kind : Int) (l : List Int) (s : MS) (w w' : World) : Prop :=
  ∃ lb' lbx' l' s', Pair w' g lb' gx lbx' r b ry bx kind l' s' ∧ Keeps [b, bx, g, lb, gx, lbx] w w' ∧ (lb' = lb ∨ w.heap.size ≤ lb') ∧ (lbx' = lbx ∨ w.heap.size ≤ lbx') ∧ l'.length = l.length ∧ s'.log.length ≤ s.log.length + 1

theorem Pair.lt {w : World} {g lb gx lbx r b ry bx : Nat} {kind : Int} {l : List Int} {s : MS} (h : Pair w g lb gx lbx r b ry bx kind l s) : g < w.heap.size ∧ lb < w.heap.size ∧ gx < w.heap.size ∧ lbx < w.heap.size ∧ b < w.heap.size ∧ bx < w.heap.size :=
  ⟨foot_lt h.met (by simp [foot]), foot_lt h.met (by simp [foot]), foot_lt h.mex (by simp [foot]), foot_lt h.mex (by simp [foot]), h.row.row.lt, h.rox.row.lt⟩

/-- The program's part of a step leaves the document's side alone. -/
theorem Pair.first {w w1 : World} {g lb gx lbx r b ry bx : Nat} {kind : Int} {l l1 : List Int} {s s1 : MS} (h : Pair w g lb gx lbx r b ry bx kind l s)
    (hL : RowI.Left RowI.R MT r b kind (some g) l1 lb s1 w w1) : RowI.At RefI.R w1 ry bx kind (some gx) l ∧ MetAt XT w1 (some gx) lbx s := by
  obtain ⟨h1, lb1, h2, h3, h4⟩ := hL
  have hf := h.rox.foot (T := MT) (R := RefI.R) ⟨by decide, by decide, by decide, by decide, by decide⟩ h.met
  have hlt := h.lt
  obtain ⟨vx, hx⟩ := h.mex
  obtain ⟨vm, hm⟩ := h.met
  have e1 : gx ≠ g := hx.blk.ne_ hm.blk (by decide)
  have e2 : gx ≠ b := hx.blk.ne_ h.row.row (by decide)
  have e3 : gx ≠ lb := by
    rcases hm.loc with ⟨_, hc⟩ | hc
    · rw [hc]; exact e1
    · intro e; exact own_blk_ne hm.own hx.blk (by decide) (by rw [hc, e])
  have e4 : lbx ≠ g := by
    rcases hx.loc with ⟨_, hc⟩ | hc
    · rw [hc]; exact e1
    · intro e; exact own_blk_ne hx.own hm.blk (by decide) (by rw [hc, e])
  have e5 : lbx ≠ b := by
    rcases hx.loc with ⟨_, hc⟩ | hc
    · rw [hc]; exact e2
    · intro e; exact own_blk_ne hx.own h.row.row (by decide) (by rw [hc, e])
  have e6 : ry ≠ b := h.rox.blk.ne_ h.row.row (by decide)
  exact ⟨h.rox.keeps h3 (by simp [e6, hf.1]) (by simp [Ne.symm h.nb, hf.2]), ⟨vx, hx.keeps h3 (by simp [foot, e1, e2, e3]) (by simp [foot, e4, e5, Ne.symm h.ne])⟩⟩

theorem Pair.second {w w1 w2 : World} {g lb gx lbx r b ry bx : Nat} {kind : Int} {l l1 : List Int} {s s1 : MS} (h : Pair w g lb gx lbx r b ry bx kind l s)
    (hL : RowI.Left RowI.R MT r b kind (some g) l1 lb s1 w w1) (hM : RowI.Left RefI.R XT ry bx kind (some gx) l1 lbx s1 w1 w2) (hll : l1.length = l.length) (hsl : s1.log.length ≤ s.log.length + 1) :
    Stepped g lb gx lbx r b ry bx kind l s w w2 := by
  have hlt := h.lt
  have hF := h.first hL
  obtain ⟨a1, lb1, a2, a3, a4⟩ := hL
  obtain ⟨b1, lbx1, b2, b3, b4⟩ := hM
  have hsz := a3.size
  have hf := a1.foot (T := XT) (R := RowI.R) ⟨by decide, by decide, by decide, by decide, by decide⟩ hF.2
  have hlb1 : lb1 < w1.heap.size := foot_lt a2 (by simp [foot])
  have hne1 : lb1 ≠ lbx := by
    rcases a4 with a4 | a4
    · exact a4 ▸ h.ne
    · omega
  obtain ⟨vx, hx⟩ := hF.2
  obtain ⟨vm, hm⟩ := a2
  have e1 : g ≠ gx := hm.blk.ne_ hx.blk (by decide)
  have e2 : g ≠ bx := hm.blk.ne_ hF.1.row (by decide)
  have e3 : g ≠ lbx := by
    rcases hx.loc with ⟨_, hc⟩ | hc
    · rw [hc]; exact e1
    · intro e; exact own_blk_ne hx.own hm.blk (by decide) (by rw [hc, e])
  have e4 : lb1 ≠ gx := by
    rcases hm.loc with ⟨_, hc⟩ | hc
    · rw [hc]; exact e1
    · intro e; exact own_blk_ne hm.own hx.blk (by decide) (by rw [hc, e])
  have e5 : lb1 ≠ bx := by
    rcases hm.loc with ⟨_, hc⟩ | hc
    · rw [hc]; exact e2
    · intro e; exact own_blk_ne hm.own hF.1.row (by decide) (by rw [hc, e])
  have e6 : r ≠ bx := a1.blk.ne_ hF.1.row (by decide)
  refine ⟨lb1, lbx1, l1, s1, ⟨a1.keeps b3 (by simp [e6, hf.1]) (by simp [h.nb, hf.2]), b1, ⟨vm, hm.keeps b3 (by simp [foot, e1, e2, e3]) (by simp [foot, e4, e5, hne1])⟩, b2, ?_, h.nb⟩, ?_, a4, ?_, hll, hsl⟩
  · rcases b4 with b4 | b4
    · rw [b4]; exact hne1
    · omega
  · refine (a3.mono (T := [b, bx, g, lb, gx, lbx]) ?_).trans b3 ?_
    · intro x hx; simp [foot] at hx; rcases hx with rfl | rfl | rfl <;> simp
    · intro x hx; simp [foot] at hx; rcases hx with rfl | rfl | rfl <;> simp
  · rcases b4 with b4 | b4
    · exact .inl b4
    · exact .inr (by omega)

theorem Pair.alloc {w : World} {g lb gx lbx r b ry bx : Nat} {kind : Int} {l : List Int} {s : MS} (h : Pair w g lb gx lbx r b ry bx kind l s) (o : Obj) : Pair (w.alloc o) g lb gx lbx r b ry bx kind l s :=
  ⟨h.row.keeps (S := []) (by simp) (by simp) (by simp), h.rox.keeps (S := []) (by simp) (by simp) (by simp), h.met.alloc o, h.mex.alloc o, h.ne, h.nb⟩
theorem Stepped.of_alloc {w w' : World} {g lb gx lbx r b ry bx : Nat} {kind : Int} {l : List Int} {s : MS} (o : Obj) (h : Stepped g lb gx lbx r b ry bx kind l s (w.alloc o) w') : Stepped g lb gx lbx r b ry bx kind l s w w' := by
  obtain ⟨lb', lbx', l', s', h1, h2, h3, h4, h5, h6⟩ := h
  simp only [World.size_alloc] at h3 h4
  exact ⟨lb', lbx', l', s', h1, ((Keeps.refl [b, bx, g, lb, gx, lbx] w).alloc o).trans h2 (fun x hx => .inl hx), by omega, by omega, h5, h6⟩

theorem Stepped.rest {w w' : World} {g lb gx lbx r b ry bx : Nat} {kind : Int} {l : List Int} {s : MS} (h : Pair w g lb gx lbx r b ry bx kind l s) (hk : Keeps [] w w') : Stepped g lb gx lbx r b ry bx kind l s w w' :=
  ⟨lb, lbx, l, s, ⟨h.row.keeps hk (by simp) (by simp), h.rox.keeps hk (by simp) (by simp), h.met.keeps hk (by simp), h.mex.keeps hk (by simp), h.ne, h.nb⟩, hk.mono (by simp), .inl rfl, .inl rfl, rfl, by omega⟩

/-- The step's own box keeps through a call on the row. -/
theorem box_left {w w1 : World} {g lb gx lbx r b ry bx : Nat} {kind : Int} {l l1 : List Int} {s s1 : MS} (h : Pair w g lb gx lbx r b ry bx kind l s) {T : TypeId} {cs : Array Value}
    (hL : RowI.Left RowI.R MT r b kind (some g) l1 lb s1 (w.alloc (.cells cs T)) w1) : Blk w1 w.heap.size T cs := by
  obtain ⟨_, _, _, hk, _⟩ := hL
  have hlt := h.lt
  exact (Blk.new w T cs).keeps hk (by simp [foot]; omega)

/-- The step's arguments. -/
def doesArgs (g gx r ry : Nat) (other : Bool) (kind i x old : Int) (A : Option Addr) (n cap : Nat) : Array Value :=
  #[.pointer (some ⟨g, 0, none⟩), .pointer (some ⟨gx, 0, none⟩), .pointer (some ⟨r, 0, none⟩), .pointer (some ⟨ry, 0, none⟩), .agg #[.bool other, .int .i64 kind, .int .i64 i, .int .i64 x, .int .i64 old, .slice A n cap]]

section
variable {w : World} {g lb gx lbx r b ry bx : Nat} {kind : Int} {l : List Int} {s : MS} (h : Pair w g lb gx lbx r b ry bx kind l s) (hl : s.log.length < 2199023255552)
include h hl

set_option maxRecDepth 100000 in
theorem does_load (other : Bool) (i x old : Int) (A : Option Addr) (n cap : Nat) :
    Calls Try.prog 26 (doesArgs g gx r ry other 2 i x old A n cap) w fun e w' => e = .returned (.bool true) ∧ Stepped g lb gx lbx r b ry bx kind l s w w' := by
  have H0 := Lib.hid h
  have H := Lib.hid (h.alloc (.cells #[.bool other, .int .i64 2, .int .i64 i, .int .i64 x, .int .i64 old, .slice A n cap] 49))
  have HL := Lib.hid hl
  have hkeep : Hid (Keeps [] w (w.alloc (.cells #[.bool other, .int .i64 2, .int .i64 i, .int .i64 x, .int .i64 old, .slice A n cap] 49))) := (Keeps.refl _ _).alloc _
  clear h hl
  unfold doesArgs
  by_cases hi : 0 ≤ i ∧ i < l.length
  · obtain ⟨h0, h1⟩ := hi
    obtain ⟨k, rfl⟩ := Int.eq_ofNat_of_zero_le h0
    obtain ⟨y, hy⟩ : ∃ y, l[k]? = some y := ⟨_, List.getElem?_eq_getElem (by omega)⟩
    have hk : k < l.length := by omega
    have HY := Lib.hid hy
    clear hy
    go_enter Try.func26, Try.ntmps26
    go_wp2_with fail
    refine (RowI.load_at _ r b kind (some g) l H.out.row lb s H.out.met (fun _ => HL.out) k y HY.out).mono ?_
    rintro e w1 ⟨rfl, hL⟩
    have HLf := Lib.hid hL
    have hbx := box_left H0.out hL
    have b2 : w1.cell? ⟨w.heap.size, 2, none⟩ = some (.int .i64 (k : Int)) := (hbx.cell 2).trans rfl
    have b3 : w1.cell? ⟨w.heap.size, 3, none⟩ = some (.int .i64 x) := (hbx.cell 3).trans rfl
    have b4 : w1.cell? ⟨w.heap.size, 4, none⟩ = some (.int .i64 old) := (hbx.cell 4).trans rfl
    have HF := Lib.hid (H.out.first hL)
    clear hL hbx
    go_wp2_with fail
    refine (RefI.load_at _ ry bx kind gx l HF.out.1 lbx s HF.out.2 (fun _ => HL.out) k y HY.out).mono ?_
    rintro e w2 ⟨rfl, hM⟩
    have HM := Lib.hid hM
    clear hM
    go_wp2_with fail
    go_ret
    exact ⟨rfl, Stepped.of_alloc _ (H.out.second HLf.out HM.out (by simp) (by simp [MS.note]))⟩
  · have hi' : i < 0 ∨ (l.length : Int) ≤ i := by omega
    have HI := Lib.hid hi'
    clear hi hi'
    go_enter Try.func26, Try.ntmps26
    go_wp2_with fail
    refine (RowI.load_no _ r b kind (some g) l H.out.row i HI.out).mono ?_
    rintro e w1 ⟨rfl, rfl⟩
    go_wp2_with fail
    refine (RefI.load_no _ ry bx kind (some gx) l H.out.rox i HI.out).mono ?_
    rintro e w1 ⟨rfl, rfl⟩
    go_wp2_with fail
    go_ret
    exact ⟨rfl, Stepped.rest H0.out hkeep.out⟩

set_option maxRecDepth 100000 in
theorem does_store (other : Bool) (i x old : Int) (A : Option Addr) (n cap : Nat) :
    Calls Try.prog 26 (doesArgs g gx r ry other 3 i x old A n cap) w fun e w' => e = .returned (.bool true) ∧ Stepped g lb gx lbx r b ry bx kind l s w w' := by
  have H0 := Lib.hid h
  have H := Lib.hid (h.alloc (.cells #[.bool other, .int .i64 3, .int .i64 i, .int .i64 x, .int .i64 old, .slice A n cap] 49))
  have HL := Lib.hid hl
  have hkeep : Hid (Keeps [] w (w.alloc (.cells #[.bool other, .int .i64 3, .int .i64 i, .int .i64 x, .int .i64 old, .slice A n cap] 49))) := (Keeps.refl _ _).alloc _
  clear h hl
  unfold doesArgs
  by_cases hi : 0 ≤ i ∧ i < l.length
  · obtain ⟨h0, h1⟩ := hi
    obtain ⟨k, rfl⟩ := Int.eq_ofNat_of_zero_le h0
    obtain ⟨y, hy⟩ : ∃ y, l[k]? = some y := ⟨_, List.getElem?_eq_getElem (by omega)⟩
    have hk : k < l.length := by omega
    have HY := Lib.hid hy
    clear hy
    go_enter Try.func26, Try.ntmps26
    go_wp2_with fail
    refine (RowI.store_at _ r b kind (some g) l H.out.row lb s H.out.met (fun _ => HL.out) k x hk).mono ?_
    rintro e w1 ⟨rfl, hL⟩
    have HLf := Lib.hid hL
    have hbx := box_left H0.out hL
    have b2 : w1.cell? ⟨w.heap.size, 2, none⟩ = some (.int .i64 (k : Int)) := (hbx.cell 2).trans rfl
    have b3 : w1.cell? ⟨w.heap.size, 3, none⟩ = some (.int .i64 x) := (hbx.cell 3).trans rfl
    have b4 : w1.cell? ⟨w.heap.size, 4, none⟩ = some (.int .i64 old) := (hbx.cell 4).trans rfl
    have HF := Lib.hid (H.out.first hL)
    clear hL hbx
    go_wp2_with fail
    refine (RefI.store_at _ ry bx kind gx l HF.out.1 lbx s HF.out.2 (fun _ => HL.out) k y x HY.out).mono ?_
    rintro e w2 ⟨rfl, hM⟩
    have HM := Lib.hid hM
    clear hM
    go_wp2_with fail
    go_ret
    exact ⟨rfl, Stepped.of_alloc _ (H.out.second HLf.out HM.out (by simp) (by simp [MS.note]))⟩
  · have hi' : i < 0 ∨ (l.length : Int) ≤ i := by omega
    have HI := Lib.hid hi'
    clear hi hi'
    go_enter Try.func26, Try.ntmps26
    go_wp2_with fail
    refine (RowI.store_no _ r b kind (some g) l H.out.row i x HI.out).mono ?_
    rintro e w1 ⟨rfl, rfl⟩
    go_wp2_with fail
    refine (RefI.store_no _ ry bx kind (some gx) l H.out.rox i x HI.out).mono ?_
    rintro e w1 ⟨rfl, rfl⟩
    go_wp2_with fail
    go_ret
    exact ⟨rfl, Stepped.rest H0.out hkeep.out⟩

set_option maxRecDepth 100000 in
theorem does_trade (other : Bool) (i x old : Int) (A : Option Addr) (n cap : Nat) :
    Calls Try.prog 26 (doesArgs g gx r ry other 4 i x old A n cap) w fun e w' => e = .returned (.bool true) ∧ Stepped g lb gx lbx r b ry bx kind l s w w' := by
  have H0 := Lib.hid h
  have H := Lib.hid (h.alloc (.cells #[.bool other, .int .i64 4, .int .i64 i, .int .i64 x, .int .i64 old, .slice A n cap] 49))
  have HL := Lib.hid hl
  have hkeep : Hid (Keeps [] w (w.alloc (.cells #[.bool other, .int .i64 4, .int .i64 i, .int .i64 x, .int .i64 old, .slice A n cap] 49))) := (Keeps.refl _ _).alloc _
  clear h hl
  unfold doesArgs
  by_cases hi : 0 ≤ i ∧ i < l.length
  · obtain ⟨h0, h1⟩ := hi
    obtain ⟨k, rfl⟩ := Int.eq_ofNat_of_zero_le h0
    obtain ⟨y, hy⟩ : ∃ y, l[k]? = some y := ⟨_, List.getElem?_eq_getElem (by omega)⟩
    have hk : k < l.length := by omega
    have HY := Lib.hid hy
    clear hy
    by_cases he : y = old
    · subst he
      go_enter Try.func26, Try.ntmps26
      go_wp2_with fail
      refine (RowI.trade_yes _ r b kind (some g) l H.out.row lb s H.out.met (fun _ => HL.out) k y x HY.out).mono ?_
      rintro e w1 ⟨rfl, hL⟩
      have HLf := Lib.hid hL
      have hbx := box_left H0.out hL
      have b2 : w1.cell? ⟨w.heap.size, 2, none⟩ = some (.int .i64 (k : Int)) := (hbx.cell 2).trans rfl
      have b3 : w1.cell? ⟨w.heap.size, 3, none⟩ = some (.int .i64 x) := (hbx.cell 3).trans rfl
      have b4 : w1.cell? ⟨w.heap.size, 4, none⟩ = some (.int .i64 y) := (hbx.cell 4).trans rfl
      have HF := Lib.hid (H.out.first hL)
      clear hL hbx
      go_wp2_with fail
      refine (RefI.trade_yes _ ry bx kind gx l HF.out.1 lbx s HF.out.2 (fun _ => HL.out) k y x HY.out).mono ?_
      rintro e w2 ⟨rfl, hM⟩
      have HM := Lib.hid hM
      clear hM
      go_wp2_with fail
      go_ret
      exact ⟨rfl, Stepped.of_alloc _ (H.out.second HLf.out HM.out (by simp) (by simp [MS.note]))⟩
    · have HE := Lib.hid (show (y == old) = false by simpa using he)
      clear he
      go_enter Try.func26, Try.ntmps26
      go_wp2_with fail
      refine (RowI.trade_not _ r b kind (some g) l H.out.row lb s H.out.met (fun _ => HL.out) k y old x HY.out HE.out).mono ?_
      rintro e w1 ⟨rfl, hL⟩
      have HLf := Lib.hid hL
      have hbx := box_left H0.out hL
      have b2 : w1.cell? ⟨w.heap.size, 2, none⟩ = some (.int .i64 (k : Int)) := (hbx.cell 2).trans rfl
      have b3 : w1.cell? ⟨w.heap.size, 3, none⟩ = some (.int .i64 x) := (hbx.cell 3).trans rfl
      have b4 : w1.cell? ⟨w.heap.size, 4, none⟩ = some (.int .i64 old) := (hbx.cell 4).trans rfl
      have HF := Lib.hid (H.out.first hL)
      clear hL hbx
      go_wp2_with fail
      refine (RefI.trade_not _ ry bx kind gx l HF.out.1 lbx s HF.out.2 (fun _ => HL.out) k y old x HY.out HE.out).mono ?_
      rintro e w2 ⟨rfl, hM⟩
      have HM := Lib.hid hM
      clear hM
      go_wp2_with fail
      go_ret
      exact ⟨rfl, Stepped.of_alloc _ (H.out.second HLf.out HM.out (by simp) (by simp [MS.note]))⟩
  · have hi' : i < 0 ∨ (l.length : Int) ≤ i := by omega
    have HI := Lib.hid hi'
    clear hi hi'
    go_enter Try.func26, Try.ntmps26
    go_wp2_with fail
    refine (RowI.trade_no _ r b kind (some g) l H.out.row i old x HI.out).mono ?_
    rintro e w1 ⟨rfl, rfl⟩
    go_wp2_with fail
    refine (RefI.trade_no _ ry bx kind (some gx) l H.out.rox i old x HI.out).mono ?_
    rintro e w1 ⟨rfl, rfl⟩
    go_wp2_with fail
    go_ret
    exact ⟨rfl, Stepped.rest H0.out hkeep.out⟩

end
end Go.Proofs.Ytlpgcfgnimchaaa
