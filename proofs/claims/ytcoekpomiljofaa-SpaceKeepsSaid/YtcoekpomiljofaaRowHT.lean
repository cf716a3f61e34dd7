/- Rows of api.Head: Trade. -/
import Derived.Test.YtcoekpomiljofaaNote
import Derived.Test.YtcoekpomiljofaaMake
import Derived.Test.YtcoekpomiljofaaRowH
import Derived.Test.YtcoekpomiljofaaHead
import Derived.Deep.RegionHeld3
import Derived.RegionTactic
import Derived.BigRegion
import Derived.Outline
import Derived.Handy
namespace Go.Proofs.Ytcoekpomiljofaa
namespace RowH
open Go.RowKit
set_option linter.unusedVariables false
attribute [local go_sem ↓] Go.wp_at_zero Go.wp_at_succ
attribute [local go_sem] rd_c0 rd_c1 rd_c2 rd_c3 rd_c4 rd_c5 rd_free Option.isSome_some Option.getD_some

theorem eq_run (w : World) (x y : Hd) : (Op.equalIn 10000 54 (.agg #[.int .i64 x.gen, .int .i64 x.state, .int .i64 x.stamp, .int .i64 x.thread, .bool x.doomed, .int .i64 x.who]) (.agg #[.int .i64 y.gen, .int .i64 y.state, .int .i64 y.stamp, .int .i64 y.thread, .bool y.doomed, .int .i64 y.who])).run Try.prog w = .ok (decide (x = y)) w := by
  have e : decide (x = y) = ((x.gen == y.gen) && (x.state == y.state) && (x.stamp == y.stamp) && (x.thread == y.thread) && (x.doomed == y.doomed) && (x.who == y.who)) := by
    obtain ⟨x0, x1, x2, x3, x4, x5⟩ := x
    obtain ⟨y0, y1, y2, y3, y4, y5⟩ := y
    by_cases h0 : x0 = y0 <;> by_cases h1 : x1 = y1 <;> by_cases h2 : x2 = y2 <;> by_cases h3 : x3 = y3 <;> by_cases h4 : x4 = y4 <;> by_cases h5 : x5 = y5 <;> simp [h0, h1, h2, h3, h4, h5]
  rw [e]
  simp [go_sem]
  repeat' split
  all_goals simp_all
/-- The world in which the blocks of a trade were made. -/
def TW (w : World) (old new x : Hd) : World := ((((w.alloc (.cells #[.int .i64 old.gen, .int .i64 old.state, .int .i64 old.stamp, .int .i64 old.thread, .bool old.doomed, .int .i64 old.who] 54)).alloc (.cells #[.int .i64 new.gen, .int .i64 new.state, .int .i64 new.stamp, .int .i64 new.thread, .bool new.doomed, .int .i64 new.who] 54)).alloc (.cells #[.int .i64 0, .int .i64 0, .int .i64 0, .int .i64 0, .bool false, .int .i64 0] 54)).alloc (.cells #[.int .i64 0, .int .i64 0, .int .i64 0, .int .i64 0, .bool false, .int .i64 0] 54)).alloc (.cells #[.int .i64 x.gen, .int .i64 x.state, .int .i64 x.stamp, .int .i64 x.thread, .bool x.doomed, .int .i64 x.who] 54)
theorem TW.rds (w : World) (old new x : Hd) : rd (TW w old new x) w.heap.size = some old ∧ rd (TW w old new x) (w.heap.size + 1) = some new ∧ rd (TW w old new x) (w.heap.size + 1 + 1) = some Hd.zero ∧ rd (TW w old new x) (w.heap.size + 1 + 1 + 1 + 1) = some x :=
  ⟨rd_of (((((Blk.new _ _ _).alloc _).alloc _).alloc _).alloc _), rd_of (((Blk.alloc (new_at _ _ _ (by simp)) _).alloc _).alloc _), rd_of ((Blk.alloc (new_at _ _ _ (by simp)) _).alloc _), rd_of (new_at _ _ _ (by simp))⟩
theorem rd_noted {T' : TypeId} {mp : Option Nat} {lb : Nat} {s s0 : MS} {w0 w w1 : World} {z : Nat} {x : Hd} (hm : MetAt T' w0 mp lb s0) (hn : Noted T' mp lb s w w1) (h : rd w z = some x) (hz : w0.heap.size ≤ z) : rd w1 z = some x := rd_iff.2 (kept_note hm hn (rd_iff.1 h) hz)
end RowH
end Go.Proofs.Ytcoekpomiljofaa
