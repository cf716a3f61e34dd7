/- Rows of thing: Trade. -/
import Derived.Test.YtlpgcfgnimchaaaNote
import Derived.Test.YtlpgcfgnimchaaaMake
import Derived.Test.YtlpgcfgnimchaaaRowS
import Derived.Test.YtlpgcfgnimchaaaThing
import Derived.Deep.RegionHeld3
import Derived.RegionTactic
import Derived.BigRegion
import Derived.Outline
import Derived.Handy
import Derived.Laws.StructEq
import Derived.WideShapes
namespace Go.Proofs.Ytlpgcfgnimchaaa
namespace RowS
open Go.RowKit
set_option linter.unusedVariables false
attribute [local go_sem ↓] Go.wp_at_zero Go.wp_at_succ
attribute [local go_sem] td_c0 td_c1 td_c2 td_free Option.isSome_some Option.getD_some

theorem pair_eqF (f : Nat) (w : World) (a b c d : Int) : (Op.equalIn (f + 2) 29 (.agg #[.int .i64 a, .int .i64 b]) (.agg #[.int .i64 c, .int .i64 d])).run Try.prog w = .ok (a == c && b == d) w := by
  have hu : Try.prog.underlying 29 = some (.array 2 3) := by kernel_rfl
  have hp (x y : Value) : ∀ w, (part 3 #[x, y] 0).run Try.prog w = .ok x w := fun _ => by kernel_rfl
  have hq (x y : Value) : ∀ w, (part 3 #[x, y] 1).run Try.prog w = .ok y w := fun _ => by kernel_rfl
  have hs : ∀ w, (sizeOf 3).run Try.prog w = .ok 1 w := fun _ => by kernel_rfl
  have hi (x y : Int) : ∀ w, (Op.equalIn (f + 1) 3 (.int .i64 x) (.int .i64 y)).run Try.prog w = .ok (x == y) w := fun w => run_equalIn_int w f 3 .i64 .i64 x y (by kernel_rfl)
  unfold Op.equalIn
  simp only [Sem.run_bind, run_underlying hu, Result.andThen_ok, hs]
  simp
  have hr : List.range' 0 2 = [0, 1] := by decide
  rw [hr]
  simp only [List.forIn_cons, List.forIn_nil, Sem.run_bind, hp, hi, Result.andThen_ok]
  cases h1 : (a == c) <;> cases h2 : (b == d) <;> simp [Sem.run_bind, hq, hi, h2]
theorem pair_eq9 (w : World) (a b c d : Int) : (Op.equalIn 9999 29 (.agg #[.int .i64 a, .int .i64 b]) (.agg #[.int .i64 c, .int .i64 d])).run Try.prog w = .ok (a == c && b == d) w := pair_eqF 9997 w a b c d
theorem bytes_iff (a b : ByteArray) : (a.toList = b.toList) ↔ a = b := ⟨fun h => WideShapes.bytes_inj (by simpa [ByteArray.toList_eq] using h), fun h => by rw [h]⟩
theorem eq_run (w : World) (x y : Th) : (Op.equalIn 10000 31 (.agg #[.string x.s, .int .i64 x.a, .int .i64 x.b]) (.agg #[.string y.s, .int .i64 y.a, .int .i64 y.b])).run Try.prog w = .ok (decide (x = y)) w := by
  have e : decide (x = y) = (decide (x.s = y.s) && ((x.a == y.a) && (x.b == y.b))) := by
    obtain ⟨x0, x1, x2⟩ := x
    obtain ⟨y0, y1, y2⟩ := y
    by_cases h0 : x0 = y0 <;> by_cases h1 : x1 = y1 <;> by_cases h2 : x2 = y2 <;> simp [h0, h1, h2]
  rw [e]
  by_cases h0 : x.s = y.s <;> by_cases h1 : x.a = y.a <;> by_cases h2 : x.b = y.b <;> simp [h0, h1, h2, go_sem, pair_eq9, bytes_iff]
/-- The world in which the blocks of a trade were made. -/
def TW (w : World) (old new x : Th) : World := ((((w.alloc (.cells #[.string old.s, .int .i64 old.a, .int .i64 old.b] 31)).alloc (.cells #[.string new.s, .int .i64 new.a, .int .i64 new.b] 31)).alloc (.cells #[.string ⟨#[]⟩, .int .i64 0, .int .i64 0] 31)).alloc (.cells #[.string ⟨#[]⟩, .int .i64 0, .int .i64 0] 31)).alloc (.cells #[.string x.s, .int .i64 x.a, .int .i64 x.b] 31)
theorem TW.rds (w : World) (old new x : Th) : td (TW w old new x) w.heap.size = some old ∧ td (TW w old new x) (w.heap.size + 1) = some new ∧ td (TW w old new x) (w.heap.size + 1 + 1) = some Th.zero ∧ td (TW w old new x) (w.heap.size + 1 + 1 + 1 + 1) = some x :=
  ⟨td_of (((((Blk.new _ _ _).alloc _).alloc _).alloc _).alloc _), td_of (((Blk.alloc (new_at _ _ _ (by simp)) _).alloc _).alloc _), td_of ((Blk.alloc (new_at _ _ _ (by simp)) _).alloc _), td_of (new_at _ _ _ (by simp))⟩
theorem td_noted {T' : TypeId} {mp : Option Nat} {lb : Nat} {s s0 : MS} {w0 w w1 : World} {z : Nat} {x : Th} (hm : MetAt T' w0 mp lb s0) (hn : Noted T' mp lb s w w1) (h : td w z = some x) (hz : w0.heap.size ≤ z) : td w1 z = some x := td_iff.2 (kept_note hm hn (td_iff.1 h) hz)
set_option maxHeartbeats 4000000 in
theorem trade_not (w : World) (r b : Nat) (kind : Int) (mp : Option Nat) (l : List Th) (hr : At R w r b kind mp l) (lb : Nat) (s : MS) (hm : MetAt MT w mp lb s) (hl : Room mp s)
    (k : Nat) (x old new : Th) (hx : l[k]? = some x) (hne : x ≠ old) :
    Calls Try.prog 11 #[.pointer (some ⟨r, 0, none⟩), .int .i64 k, .agg #[.string old.s, .int .i64 old.a, .int .i64 old.b], .agg #[.string new.s, .int .i64 new.a, .int .i64 new.b]] w fun e w' =>
      e = .returned (.tuple #[.agg #[.string x.s, .int .i64 x.a, .int .i64 x.b], .bool false, .int .i64 0]) ∧ Left R MT r b kind mp l lb (s.note kind k 3 false) w w' := by
  have hk : k < l.length := (List.getElem?_eq_some_iff.1 hx).1
  have he : ∀ w, (Op.equalIn 10000 31 (.agg #[.string x.s, .int .i64 x.a, .int .i64 x.b]) (.agg #[.string old.s, .int .i64 old.a, .int .i64 old.b])).run Try.prog w = .ok false w := fun w => by rw [eq_run, decide_eq_false hne]
  have kw4 : Keeps [] w ((((w.alloc (.cells #[.string old.s, .int .i64 old.a, .int .i64 old.b] 31)).alloc (.cells #[.string new.s, .int .i64 new.a, .int .i64 new.b] 31)).alloc (.cells #[.string ⟨#[]⟩, .int .i64 0, .int .i64 0] 31)).alloc (.cells #[.string ⟨#[]⟩, .int .i64 0, .int .i64 0] 31)) := ((((Keeps.refl [] w).alloc _).alloc _).alloc _).alloc _
  have kwa : Keeps [] w (TW w old new x) := kw4.alloc _
  have bT := Lib.hid (TW.rds w old new x)
  have a2 : ((((w.alloc (.cells #[.string old.s, .int .i64 old.a, .int .i64 old.b] 31)).alloc (.cells #[.string new.s, .int .i64 new.a, .int .i64 new.b] 31)).alloc (.cells #[.string ⟨#[]⟩, .int .i64 0, .int .i64 0] 31)).alloc (.cells #[.string ⟨#[]⟩, .int .i64 0, .int .i64 0] 31)).cell? ⟨r, 2, none⟩ = some (.slice (some ⟨b, 0, none⟩) l.length l.length) := ((hr.keeps kw4 (by simp) (by simp)).blk.cell 2).trans rfl
  obtain ⟨q0, q1, q2⟩ := (hr.keeps kw4 (by simp) (by simp)).cell hx
  have HR1 := Lib.hid (hr.keeps kwa (by simp) (by simp))
  have HM1 := Lib.hid (hm.keeps kwa (by simp))
  have KWA := Lib.hid kwa
  have HR := Lib.hid hr
  have HM := Lib.hid hm
  have HL := Lib.hid hl
  have HX := Lib.hid hx
  have hf := hr.fits
  have hki : (k : Int) < (l.length : Int) := by omega
  clear hr hm hl hx kwa kw4
  go_enter Try.func11, Try.ntmps11
  go_wp2
  clear a2 q0 q1 q2
  rw [show ((((w.alloc (.cells #[.string old.s, .int .i64 old.a, .int .i64 old.b] 31)).alloc (.cells #[.string new.s, .int .i64 new.a, .int .i64 new.b] 31)).alloc (.cells #[.string ⟨#[]⟩, .int .i64 0, .int .i64 0] 31)).alloc (.cells #[.string ⟨#[]⟩, .int .i64 0, .int .i64 0] 31)).alloc (.cells #[.string x.s, .int .i64 x.a, .int .i64 x.b] 31) = TW w old new x from rfl]
  have hsz : Hid (w.heap.size + 1 + 1 < (TW w old new x).heap.size) := by unfold Hid TW; simp <;> omega
  generalize TW w old new x = wa at *
  have HC := Lib.hid (show ∀ w', Keeps [] wa w' → w'.cell? ⟨r, 0, none⟩ = some (PM mp) ∧ w'.cell? ⟨r, 1, none⟩ = some (.int .i64 kind) ∧ td w' w.heap.size = some old ∧ td w' (w.heap.size + 1 + 1 + 1 + 1) = some x from fun w' hk' => ⟨((HR1.out.blk.keeps hk' (by simp)).cell 0).trans rfl, ((HR1.out.blk.keeps hk' (by simp)).cell 1).trans rfl, td_keeps bT.out.1 hk' (by simp), td_keeps bT.out.2.2.2 hk' (by simp)⟩)
  obtain ⟨i0, i1, i2, i3⟩ := HC.out wa (Keeps.refl _ _)
  go_region_held3 (fun w' => w'.cell? ⟨r, 0, none⟩ = some (PM mp) ∧ w'.cell? ⟨r, 1, none⟩ = some (.int .i64 kind) ∧ td w' w.heap.size = some old ∧ td w' (w.heap.size + 1 + 1 + 1 + 1) = some x) (first | exact HC.out _ (Keeps.refl _ _).drew | exact ⟨d0, d1, u0, u4⟩) ((go_at_call 34; refine (note_any _ mp lb s HM1.out.drew _ _ _ _ HL.out).mono ?_; rintro e w1 ⟨rfl, hn1⟩; have hr1 := HR1.out.noted (HR1.out.foot ty HM1.out) hn1.undrew; have d0 : w1.cell? ⟨r, 0, none⟩ = some (PM mp) := (hr1.blk.cell 0).trans rfl; have d1 : w1.cell? ⟨r, 1, none⟩ = some (.int .i64 kind) := (hr1.blk.cell 1).trans rfl; have u0 := td_noted HM.out hn1.undrew bT.out.1 (Nat.le_refl _); have u4 := td_noted HM.out hn1.undrew bT.out.2.2.2 (by omega); have HR2 := Lib.hid hr1; have HN := Lib.hid hn1.undrew; clear hn1 hr1))
  have U1 := Lib.hid (td_noted HM.out HN.out bT.out.2.1 (by omega))
  have U2 := Lib.hid (td_noted HM.out HN.out bT.out.2.2.1 (by omega))
  have U0 := Lib.hid u0
  have U4 := Lib.hid u4
  clear i0 i1 i2 i3 d0 d1
  go_wp2
  have u2 := U2.out
  have hlt := Lib.hid (td_lt u2)
  go_region
  go_wp2
  show bodyPost _ _ _ _ _ ((put3 w1 (w.heap.size + 1 + 1) x).drew)
  have v2 := td_keeps (td_put3 w1 (w.heap.size + 1 + 1) x _ u2) ((Keeps.refl [] _).drew) (by simp)
  have hkz : Keeps [(w.heap.size + 1 + 1)] w1 ((put3 w1 (w.heap.size + 1 + 1) x).drew) := (put3_keeps _ _ _).drew
  generalize (put3 w1 (w.heap.size + 1 + 1) x).drew = w3 at *
  refine bodyPost_ret (v := .tuple #[.agg #[.string x.s, .int .i64 x.a, .int .i64 x.b], .bool false, .int .i64 0]) (by simp [results, Try.results11, go_sem, v2]) rfl ⟨rfl, ?_⟩
  exact Left.post HR.out HM.out KWA.out (left_noted ty HR1.out HM1.out HN.out) (S := [(w.heap.size + 1 + 1)]) (fun z hz => by simp at hz; subst hz; exact ⟨by omega, hsz.out⟩) hkz
set_option maxHeartbeats 4000000 in
theorem trade_yes (w : World) (r b : Nat) (kind : Int) (mp : Option Nat) (l : List Th) (hr : At R w r b kind mp l) (lb : Nat) (s : MS) (hm : MetAt MT w mp lb s) (hl : Room mp s)
    (k : Nat) (x new : Th) (hx : l[k]? = some x) :
    Calls Try.prog 11 #[.pointer (some ⟨r, 0, none⟩), .int .i64 k, .agg #[.string x.s, .int .i64 x.a, .int .i64 x.b], .agg #[.string new.s, .int .i64 new.a, .int .i64 new.b]] w fun e w' =>
      e = .returned (.tuple #[.agg #[.string x.s, .int .i64 x.a, .int .i64 x.b], .bool true, .int .i64 0]) ∧ Left R MT r b kind mp (l.set k new) lb (s.note kind k 3 true) w w' := by
  have hk : k < l.length := (List.getElem?_eq_some_iff.1 hx).1
  have he : ∀ w, (Op.equalIn 10000 31 (.agg #[.string x.s, .int .i64 x.a, .int .i64 x.b]) (.agg #[.string x.s, .int .i64 x.a, .int .i64 x.b])).run Try.prog w = .ok true w := fun w => by rw [eq_run, decide_eq_true rfl]
  have kw4 : Keeps [] w ((((w.alloc (.cells #[.string x.s, .int .i64 x.a, .int .i64 x.b] 31)).alloc (.cells #[.string new.s, .int .i64 new.a, .int .i64 new.b] 31)).alloc (.cells #[.string ⟨#[]⟩, .int .i64 0, .int .i64 0] 31)).alloc (.cells #[.string ⟨#[]⟩, .int .i64 0, .int .i64 0] 31)) := ((((Keeps.refl [] w).alloc _).alloc _).alloc _).alloc _
  have kwa : Keeps [] w (TW w x new x) := kw4.alloc _
  have bT := Lib.hid (TW.rds w x new x)
  have a2 : ((((w.alloc (.cells #[.string x.s, .int .i64 x.a, .int .i64 x.b] 31)).alloc (.cells #[.string new.s, .int .i64 new.a, .int .i64 new.b] 31)).alloc (.cells #[.string ⟨#[]⟩, .int .i64 0, .int .i64 0] 31)).alloc (.cells #[.string ⟨#[]⟩, .int .i64 0, .int .i64 0] 31)).cell? ⟨r, 2, none⟩ = some (.slice (some ⟨b, 0, none⟩) l.length l.length) := ((hr.keeps kw4 (by simp) (by simp)).blk.cell 2).trans rfl
  obtain ⟨q0, q1, q2⟩ := (hr.keeps kw4 (by simp) (by simp)).cell hx
  have HR1 := Lib.hid (hr.keeps kwa (by simp) (by simp))
  have HM1 := Lib.hid (hm.keeps kwa (by simp))
  have KWA := Lib.hid kwa
  have HR := Lib.hid hr
  have HM := Lib.hid hm
  have HL := Lib.hid hl
  have HX := Lib.hid hx
  have hf := hr.fits
  have hki : (k : Int) < (l.length : Int) := by omega
  clear hr hm hl hx kwa kw4
  go_enter Try.func11, Try.ntmps11
  go_wp2
  clear a2 q0 q1 q2
  rw [show ((((w.alloc (.cells #[.string x.s, .int .i64 x.a, .int .i64 x.b] 31)).alloc (.cells #[.string new.s, .int .i64 new.a, .int .i64 new.b] 31)).alloc (.cells #[.string ⟨#[]⟩, .int .i64 0, .int .i64 0] 31)).alloc (.cells #[.string ⟨#[]⟩, .int .i64 0, .int .i64 0] 31)).alloc (.cells #[.string x.s, .int .i64 x.a, .int .i64 x.b] 31) = TW w x new x from rfl]
  have hsz : Hid (w.heap.size + 1 + 1 < (TW w x new x).heap.size) := by unfold Hid TW; simp <;> omega
  generalize TW w x new x = wa at *
  have HC := Lib.hid (show ∀ w', Keeps [] wa w' → w'.cell? ⟨r, 0, none⟩ = some (PM mp) ∧ w'.cell? ⟨r, 1, none⟩ = some (.int .i64 kind) ∧ td w' w.heap.size = some x ∧ td w' (w.heap.size + 1 + 1 + 1 + 1) = some x from fun w' hk' => ⟨((HR1.out.blk.keeps hk' (by simp)).cell 0).trans rfl, ((HR1.out.blk.keeps hk' (by simp)).cell 1).trans rfl, td_keeps bT.out.1 hk' (by simp), td_keeps bT.out.2.2.2 hk' (by simp)⟩)
  obtain ⟨i0, i1, i2, i3⟩ := HC.out wa (Keeps.refl _ _)
  go_region_held3 (fun w' => w'.cell? ⟨r, 0, none⟩ = some (PM mp) ∧ w'.cell? ⟨r, 1, none⟩ = some (.int .i64 kind) ∧ td w' w.heap.size = some x ∧ td w' (w.heap.size + 1 + 1 + 1 + 1) = some x) (first | exact HC.out _ (Keeps.refl _ _).drew | exact ⟨d0, d1, u0, u4⟩) ((go_at_call 34; refine (note_any _ mp lb s HM1.out.drew _ _ _ _ HL.out).mono ?_; rintro e w1 ⟨rfl, hn1⟩; have hr1 := HR1.out.noted (HR1.out.foot ty HM1.out) hn1.undrew; have d0 : w1.cell? ⟨r, 0, none⟩ = some (PM mp) := (hr1.blk.cell 0).trans rfl; have d1 : w1.cell? ⟨r, 1, none⟩ = some (.int .i64 kind) := (hr1.blk.cell 1).trans rfl; have u0 := td_noted HM.out hn1.undrew bT.out.1 (Nat.le_refl _); have u4 := td_noted HM.out hn1.undrew bT.out.2.2.2 (by omega); have HR2 := Lib.hid hr1; have HN := Lib.hid hn1.undrew; clear hn1 hr1))
  have U1 := Lib.hid (td_noted HM.out HN.out bT.out.2.1 (by omega))
  have U2 := Lib.hid (td_noted HM.out HN.out bT.out.2.2.1 (by omega))
  have U0 := Lib.hid u0
  have U4 := Lib.hid u4
  clear i0 i1 i2 i3 d0 d1
  go_wp2
  have hrb : r ≠ b := HR2.out.blk.ne_ HR2.out.row ty.re
  have hb1 : (w.heap.size + 1) ≠ b := by have := HR.out.row.lt; omega
  clear u0 u4
  clear HC
  obtain ⟨q0, q1, q2⟩ := HR2.out.cell HX.out
  have f0 := HR2.out.row.frozen (k * 3)
  have f1 := HR2.out.row.frozen (k * 3 + 1)
  have f2 := HR2.out.row.frozen (k * 3 + 2)
  have i0 : w1.cell? ⟨r, 2, none⟩ = some (.slice (some ⟨b, 0, none⟩) l.length l.length) := (HR2.out.blk.cell 2).trans rfl
  have u1 := U1.out
  go_region
  clear i0 u1 q0 q1 q2 f0 f1 f2
  have hb0 : w.heap.size ≠ b := by have := HR.out.row.lt; omega
  have hb2 : (w.heap.size + 1 + 1) ≠ b := by have := HR.out.row.lt; omega
  have hb4 : (w.heap.size + 1 + 1 + 1 + 1) ≠ b := by have := HR.out.row.lt; omega
  have hkb : Keeps [b] w1 ((((w1.setCell ⟨b, k * 3, none⟩ (.string new.s)).setCell ⟨b, k * 3 + 1, none⟩ (.int .i64 new.a)).setCell ⟨b, k * 3 + 2, none⟩ (.int .i64 new.b)).drew) := ((((Keeps.refl _ _).setCell (.inl (by simp)) _).setCell (.inl (by simp)) _).setCell (.inl (by simp)) _).drew
  have HLS := Lib.hid ((left_set ty HR1.out HM1.out HN.out k new).keeps ty (Keeps.refl _ _).drew)
  have u0 := td_keeps U0.out hkb (by simpa using hb0)
  have u2 := td_keeps U2.out hkb (by simpa using hb2)
  have u4 := td_keeps U4.out hkb (by simpa using hb4)
  clear hkb
  have hlt := Lib.hid (td_lt u2)
  generalize (((w1.setCell ⟨b, k * 3, none⟩ (.string new.s)).setCell ⟨b, k * 3 + 1, none⟩ (.int .i64 new.a)).setCell ⟨b, k * 3 + 2, none⟩ (.int .i64 new.b)).drew = w2 at *
  go_wp2
  go_region
  go_wp2
  show bodyPost _ _ _ _ _ ((put3 w2 (w.heap.size + 1 + 1) x).drew)
  have v2 := td_keeps (td_put3 w2 (w.heap.size + 1 + 1) x _ u2) ((Keeps.refl [] _).drew) (by simp)
  have hkz : Keeps [(w.heap.size + 1 + 1)] w2 ((put3 w2 (w.heap.size + 1 + 1) x).drew) := (put3_keeps _ _ _).drew
  generalize (put3 w2 (w.heap.size + 1 + 1) x).drew = w3 at *
  refine bodyPost_ret (v := .tuple #[.agg #[.string x.s, .int .i64 x.a, .int .i64 x.b], .bool true, .int .i64 0]) (by simp [results, Try.results11, go_sem, v2]) rfl ⟨rfl, ?_⟩
  exact Left.post HR.out HM.out KWA.out HLS.out (S := [(w.heap.size + 1 + 1)]) (fun z hz => by simp at hz; subst hz; exact ⟨by omega, hsz.out⟩) hkz

theorem store_at (w : World) (r b : Nat) (kind : Int) (mp : Option Nat) (l : List Th) (hr : At R w r b kind mp l) (lb : Nat) (s : MS) (hm : MetAt MT w mp lb s) (hl : Room mp s)
    (k : Nat) (x : Th) (hk : k < l.length) :
    Calls Try.prog 12 #[.pointer (some ⟨r, 0, none⟩), .int .i64 k, .agg #[.string x.s, .int .i64 x.a, .int .i64 x.b]] w fun e w' =>
      e = .returned (.int .i64 0) ∧ Left R MT r b kind mp (l.set k x) lb (s.note kind k 2 true) w w' := by
  have kwa : Keeps [] w (w.alloc (.cells #[.string x.s, .int .i64 x.a, .int .i64 x.b] 31)) := (Keeps.refl _ _).alloc _
  have bT := Lib.hid (td_new w x)
  have a2 : (w.alloc (.cells #[.string x.s, .int .i64 x.a, .int .i64 x.b] 31)).cell? ⟨r, 2, none⟩ = some (.slice (some ⟨b, 0, none⟩) l.length l.length) := ((hr.keeps kwa (by simp) (by simp)).blk.cell 2).trans rfl
  obtain ⟨x', hx'⟩ : ∃ x', l[k]? = some x' := ⟨_, List.getElem?_eq_getElem hk⟩
  have HR1 := Lib.hid (hr.keeps kwa (by simp) (by simp))
  have HM1 := Lib.hid (hm.keeps kwa (by simp))
  have KWA := Lib.hid kwa
  have HR := Lib.hid hr
  have HM := Lib.hid hm
  have HL := Lib.hid hl
  have HX := Lib.hid hx'
  have hf := hr.fits
  have hki : (k : Int) < (l.length : Int) := by omega
  clear hr hm hl hx' kwa
  go_enter Try.func12, Try.ntmps12
  go_wp2
  clear a2
  have hsz : Hid (w.heap.size < (w.alloc (.cells #[.string x.s, .int .i64 x.a, .int .i64 x.b] 31)).heap.size) := by unfold Hid; simp
  generalize w.alloc (.cells #[.string x.s, .int .i64 x.a, .int .i64 x.b] 31) = wa at *
  have HC := Lib.hid (show ∀ w', Keeps [] wa w' → w'.cell? ⟨r, 0, none⟩ = some (PM mp) ∧ w'.cell? ⟨r, 1, none⟩ = some (.int .i64 kind) from fun w' hk' => ⟨((HR1.out.blk.keeps hk' (by simp)).cell 0).trans rfl, ((HR1.out.blk.keeps hk' (by simp)).cell 1).trans rfl⟩)
  obtain ⟨i0, i1⟩ := HC.out wa (Keeps.refl _ _)
  go_region_held3 (fun w' => w'.cell? ⟨r, 0, none⟩ = some (PM mp) ∧ w'.cell? ⟨r, 1, none⟩ = some (.int .i64 kind)) (first | exact HC.out _ (Keeps.refl _ _).drew | exact ⟨d0, d1⟩) ((go_at_call 34; refine (note_any _ mp lb s HM1.out.drew _ _ _ _ HL.out).mono ?_; rintro e w1 ⟨rfl, hn1⟩; have hr1 := HR1.out.noted (HR1.out.foot ty HM1.out) hn1.undrew; have d0 : w1.cell? ⟨r, 0, none⟩ = some (PM mp) := (hr1.blk.cell 0).trans rfl; have d1 : w1.cell? ⟨r, 1, none⟩ = some (.int .i64 kind) := (hr1.blk.cell 1).trans rfl; have u0 := td_noted HM.out hn1.undrew bT.out (Nat.le_refl _); have HR2 := Lib.hid hr1; have HN := Lib.hid hn1.undrew; clear hn1 hr1))
  clear i0 i1 d0 d1
  go_wp2
  obtain ⟨q0, q1, q2⟩ := HR2.out.cell HX.out
  have f0 := HR2.out.row.frozen (k * 3)
  have f1 := HR2.out.row.frozen (k * 3 + 1)
  have f2 := HR2.out.row.frozen (k * 3 + 2)
  have i2 : w1.cell? ⟨r, 2, none⟩ = some (.slice (some ⟨b, 0, none⟩) l.length l.length) := (HR2.out.blk.cell 2).trans rfl
  have hb0 : w.heap.size ≠ b := by have := HR.out.row.lt; omega
  have hb0' := hb0.symm
  go_region
  go_wp2
  go_ret
  refine ⟨rfl, ?_⟩
  exact Left.post HR.out HM.out KWA.out (left_set ty HR1.out HM1.out HN.out k x) (S := []) (by simp) (Keeps.refl _ _).drew
end RowS
end Go.Proofs.Ytlpgcfgnimchaaa
