/- Package slots: trade. -/
import Derived.Test.YtcoekpomiljofaaSlotsNew
import Derived.Test.YtcoekpomiljofaaRowHT
import Derived.Deep.RegionHeld3
import Derived.Deep.MidRow
namespace Go.Proofs.Ytcoekpomiljofaa
open Go.RowKit
set_option linter.unusedVariables false
theorem ld_range {w : World} {z o : Nat} {x : Hd} (hc : w.rangeAt z o (RowH.cells x)) : (Instr.loadAt 54 (.pointer (some ⟨z, o, none⟩))).run Try.prog w = .ok (.agg #[.int .i64 x.gen, .int .i64 x.state, .int .i64 x.stamp, .int .i64 x.thread, .bool x.doomed, .int .i64 x.who]) w :=
  run_loadAt_mid w z o 54 (RowH.cells x) _ hc Try.underlying54 rfl (by show _ = some 6; kernel_rfl)
theorem Blk.range {w : World} {z : Nat} {ty : TypeId} {x : Hd} (hb : Blk w z ty #[.int .i64 x.gen, .int .i64 x.state, .int .i64 x.stamp, .int .i64 x.thread, .bool x.doomed, .int .i64 x.who]) : w.rangeAt z 0 (RowH.cells x) := fun j v hv => by
  rw [Nat.zero_add]
  exact (hb.cell j).trans (by simpa [RowH.cells] using hv)
theorem Blk.ld {w : World} {z : Nat} {ty : TypeId} {x : Hd} (hb : Blk w z ty #[.int .i64 x.gen, .int .i64 x.state, .int .i64 x.stamp, .int .i64 x.thread, .bool x.doomed, .int .i64 x.who]) : (Instr.loadAt 54 (.pointer (some ⟨z, 0, none⟩))).run Try.prog w = .ok (.agg #[.int .i64 x.gen, .int .i64 x.state, .int .i64 x.stamp, .int .i64 x.thread, .bool x.doomed, .int .i64 x.who]) w := ld_range hb.range
/-- What All hands back: the heads, in a new block. -/
theorem heads_all (w : World) (r b : Nat) (kind : Int) (mp : Option Nat) (l : List Hd) (hr : RowH.At RowH.R w r b kind mp l) (hn : 1 ≤ l.length) :
    Calls Try.prog 42 #[.pointer (some ⟨r, 0, none⟩)] w fun e w' => ∃ a c, e = .returned (.slice (some ⟨a, 0, none⟩) l.length c) ∧ w.heap.size ≤ a ∧ (∀ k x, l[k]? = some x → w'.rangeAt a (k * 6) (RowH.cells x)) ∧ Keeps [] w w' :=
  (RowH.all_any w r b kind mp l hr).mono fun e w' ⟨v, he, h1, h2⟩ => by
    rcases h1.2 with ⟨_, h0⟩ | ⟨a, cap, cur, rfl, hb, hg, h3, _⟩
    · omega
    · exact ⟨a, cap, he, hb, fun k x hx j v hv => (h1.cellAt (k * 6 + j) (by rw [← RowH.cells_length]; exact (List.getElem?_eq_some_iff.1 (RowH.cells_get l k x hx j v hv)).1)).trans (by simp [RowH.cells_get l k x hx j v hv]), h2⟩
attribute [local go_sem] rd_c0 rd_c1 rd_c2 rd_c3 rd_c4 rd_c5 rd_free Option.isSome_some Option.getD_some
section
variable {w w' wb w7 : World} {t : Tb} {mp : Option Nat} {H H' : List Hd} {W : List Int} {lb : Nat} {s s' : MS} {z : Nat} {x : Hd}
theorem rd_left (h : TabAt w t mp H W) (hm : MetAt MT w mp lb s) (hl : RowH.Left RowH.R MT t.r t.b 3 mp H' lb s' w' w7) (hz : w.heap.size ≤ z) (hr : rd w' z = some x) : rd w7 z = some x := by
  obtain ⟨_, _, _, hk, _⟩ := hl
  refine rd_keeps hr hk (fun hx => ?_)
  rw [List.mem_cons] at hx
  rcases hx with hx | hx
  · have := h.heads.row.lt; omega
  · have := foot_lt hm hx; omega
theorem q_left (h : TabAt w t mp H W) (hm : MetAt MT w mp lb s) (hk : Keeps [] w w') (hl : RowH.Left RowH.R MT t.r t.b 3 mp H' lb s' w' w7) (hn : H'.length = H.length) : Blk w7 t.q 97 #[.pointer (some ⟨t.r, 0, none⟩), .pointer (some ⟨t.s, 0, none⟩)] :=
  (h.headed hm hk hl hn (S := []) (by simp) (Keeps.refl _ _)).1.blk
theorem of_left {w6 : World} (hl : RowH.Left RowH.R MT t.r t.b 3 mp H' lb s' w' w7) (hk : Keeps [] w6 w') : Keeps [] w6 w' := hk
theorem le_left {w6 : World} (hk : Keeps [] w6 w') (hl : RowH.Left RowH.R MT t.r t.b 3 mp H' lb s' w' w7) : w6.heap.size ≤ w7.heap.size := by
  obtain ⟨_, _, _, h1, _⟩ := hl
  exact Nat.le_trans hk.size h1.size
theorem t13 (h : TabAt w t mp H W) (hm : MetAt MT w mp lb s) (hl : RowH.Left RowH.R MT t.r t.b 3 mp H' lb s' w' w7) (hz : w.heap.size ≤ z) (hr : rd w' z = some x) : rd w7 z = some x ∧ z < w'.heap.size := ⟨rd_left h hm hl hz hr, rd_lt hr⟩
theorem n13a (w : World) : rd (w.drew.alloc (.cells #[.int .i64 0, .int .i64 0, .int .i64 0, .int .i64 0, .bool false, .int .i64 0] 54)) w.heap.size = some Hd.zero := rd_new w.drew Hd.zero
theorem n13b (w : World) : rd (w.alloc (.cells #[.int .i64 0, .int .i64 0, .int .i64 0, .int .i64 0, .bool false, .int .i64 0] 54)).drew w.heap.size = some Hd.zero := rd_keeps (rd_new w Hd.zero) (Keeps.refl [] _).drew (by simp)
theorem n13c (w : World) : rd (w.drew.alloc (.cells #[.int .i64 0, .int .i64 0, .int .i64 0, .int .i64 0, .bool false, .int .i64 0] 54)).drew w.heap.size = some Hd.zero := rd_keeps (rd_new w.drew Hd.zero) (Keeps.refl [] _).drew (by simp)
theorem s_keeps {a c : Nat} {x1 y1 : Hd} (hq : Blk w7 t.q 97 #[.pointer (some ⟨t.r, 0, none⟩), .pointer (some ⟨t.s, 0, none⟩)]) (h1 : rd w7 a = some x1) (h2 : rd w7 c = some y1) (n0 : t.q ≠ z) (n1 : a ≠ z) (n2 : c ≠ z) :
    ∀ w', Keeps [z] w7 w' → w'.cell? ⟨t.q, 0, none⟩ = some (.pointer (some ⟨t.r, 0, none⟩)) ∧ rd w' a = some x1 ∧ rd w' c = some y1 :=
  fun w' hk => ⟨((hq.keeps hk (by simpa using n0)).cell 0).trans rfl, rd_keeps h1 hk (by simpa using n1), rd_keeps h2 hk (by simpa using n2)⟩
end


end Go.Proofs.Ytcoekpomiljofaa
