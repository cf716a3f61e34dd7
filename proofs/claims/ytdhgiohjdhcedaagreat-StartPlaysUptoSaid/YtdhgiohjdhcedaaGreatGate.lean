/- Package gate: what a gate holds, and its calls. -/
import Derived.Test.YtdhgiohjdhcedaaGreatRowG
import Derived.Test.YtdhgiohjdhcedaaGreatMeter
import Derived.Laws.OwnMore
namespace Go.Proofs.YtdhgiohjdhcedaaGreat
open Go.RowKit
set_option linter.unusedVariables false
/-- A gate in block q, its row in the blocks r, b. -/
def GateAt (w : World) (q r b : Nat) (mp : Option Nat) (g : Gt) : Prop := Blk w q 229 #[.pointer (some ⟨r, 0, none⟩)] ∧ RowG.At RowG.R w r b 2 mp [g]
theorem GateAt.keeps {w w' : World} {S : List Nat} {q r b : Nat} {mp : Option Nat} {g : Gt} (h : GateAt w q r b mp g) (hk : Keeps S w w') (h0 : q ∉ S) (h1 : r ∉ S) (h2 : b ∉ S) : GateAt w' q r b mp g := ⟨h.1.keeps hk h0, h.2.keeps hk h1 h2⟩
theorem GateAt.apart {w : World} {q r b : Nat} {mp : Option Nat} {g : Gt} (h : GateAt w q r b mp g) {lb : Nat} {s : MS} {mp' : Option Nat} (hm : MetAt MT w mp' lb s) : q ∉ foot mp' lb ∧ r ∉ foot mp' lb ∧ b ∉ foot mp' lb ∧ q ≠ b ∧ r ≠ b :=
  ⟨Go.Proofs.YtdhgiohjdhcedaaGreat.apart hm h.1 (by decide) (by decide), (h.2.foot RowG.ty hm).1, (h.2.foot RowG.ty hm).2, h.1.ne_ h.2.row (by decide), h.2.blk.ne_ h.2.row (by decide)⟩
/-- What a call of a gate leaves. -/
def GLeft (q r b : Nat) (mp : Option Nat) (g : Gt) (lb : Nat) (s : MS) (w w' : World) : Prop := GateAt w' q r b mp g ∧ ∃ lb', MetAt MT w' mp lb' s ∧ Keeps (b :: foot mp lb) w w' ∧ (lb' = lb ∨ w.heap.size ≤ lb')
theorem GLeft.rest {q r b : Nat} {mp : Option Nat} {g : Gt} {lb : Nat} {s : MS} {w w' : World} (h : GateAt w q r b mp g) (hm : MetAt MT w mp lb s) (hk : Keeps [] w w') : GLeft q r b mp g lb s w w' :=
  ⟨h.keeps hk (by simp) (by simp) (by simp), lb, hm.keeps hk (by simp), hk.mono (by simp), .inl rfl⟩
theorem GateAt.left {q r b : Nat} {mp : Option Nat} {g g' : Gt} {lb : Nat} {s s' : MS} {w wa w1 w2 : World} (h : GateAt w q r b mp g) (hm : MetAt MT w mp lb s) (hk : Keeps [] w wa) (hl : RowG.Left RowG.R MT r b 2 mp [g'] lb s' wa w1)
    {S : List Nat} (hS : ∀ z, z ∈ S → w.heap.size ≤ z ∧ (z < wa.heap.size ∨ w1.heap.size ≤ z)) (hk2 : Keeps S w1 w2) : GLeft q r b mp g' lb s' w w2 := by
  obtain ⟨h1, lb', h2, h3, h4⟩ := hl
  have hz := hk.size
  have hz1 := h3.size
  have r0 := h.2.blk.lt
  have r1 := h.2.row.lt
  have q0 := h.1.lt
  have hap := h.apart hm
  have ha := h1.row.lt
  have kT : Keeps (b :: foot mp lb) w w1 := (hk.mono (T := b :: foot mp lb) (by simp)).trans h3 (fun x hx => .inl hx)
  have hq1 : Blk w1 q 229 #[.pointer (some ⟨r, 0, none⟩)] := h.1.keeps kT (by simp [hap.2.2.2.1, hap.1])
  refine ⟨⟨hq1.keeps hk2 (fun z => by have := hS _ z; omega), h1.keeps hk2 (fun z => by have := hS _ z; omega) (fun z => by have := hS _ z; omega)⟩, lb', h2.keeps hk2 ?_, kT.trans hk2 (fun x hx => .inr (hS x hx).1), by omega⟩
  intro z hz hz2
  have h5 := hS z hz2
  cases mp with
  | none => simp [foot] at hz
  | some m =>
    have h6 := foot_lt hm (k := m) (by simp [foot])
    have h7 := foot_lt hm (k := lb) (by simp [foot])
    have h8 := foot_lt h2 (k := lb') (by simp [foot])
    simp only [foot, List.mem_cons, List.not_mem_nil, or_false] at hz
    omega
theorem kept_left {q r b : Nat} {mp : Option Nat} {g g' : Gt} {lb : Nat} {s s' : MS} {w w0 w1 : World} (h : GateAt w0 q r b mp g) (hm : MetAt MT w0 mp lb s) (hl : RowG.Left RowG.R MT r b 2 mp [g'] lb s' w w1) {k : Nat} {t : TypeId} {cs : Array Value} (hb : Blk w k t cs) (hg : w0.heap.size ≤ k) : Blk w1 k t cs := by
  obtain ⟨_, _, _, hk, _⟩ := hl
  have r1 := h.2.row.lt
  refine hb.keeps hk (fun hx => ?_)
  rw [List.mem_cons] at hx
  rcases hx with hx | hx
  · omega
  · have := foot_lt hm hx; omega
theorem kept_gate {q r b : Nat} {mp : Option Nat} {g g' : Gt} {lb : Nat} {s s' : MS} {w w1 : World} (h : GateAt w q r b mp g) (hm : MetAt MT w mp lb s) (hl : RowG.Left RowG.R MT r b 2 mp [g'] lb s' w w1) : Blk w1 q 229 #[.pointer (some ⟨r, 0, none⟩)] := by
  obtain ⟨_, _, _, hk, _⟩ := hl
  have hap := h.apart hm
  exact h.1.keeps hk (by simp [hap.2.2.2.1, hap.1])
theorem trade0_yes (w : World) (r b : Nat) (kind : Int) (mp : Option Nat) (g new : Gt) (hr : RowG.At RowG.R w r b kind mp [g]) (lb : Nat) (s : MS) (hm : MetAt MT w mp lb s) (hl : Room mp s) :
    Calls Tryz.prog 200 #[.pointer (some ⟨r, 0, none⟩), .int .i64 0, .agg #[.int .i64 g.number, .int .i64 g.owner], .agg #[.int .i64 new.number, .int .i64 new.owner]] w fun e w' =>
      e = .returned (.tuple #[.agg #[.int .i64 g.number, .int .i64 g.owner], .bool true, .int .i64 0]) ∧ RowG.Left RowG.R MT r b kind mp [new] lb (s.note kind 0 3 true) w w' := RowG.trade_yes w r b kind mp [g] hr lb s hm hl 0 g new rfl
theorem trade0_not (w : World) (r b : Nat) (kind : Int) (mp : Option Nat) (g old new : Gt) (hr : RowG.At RowG.R w r b kind mp [g]) (lb : Nat) (s : MS) (hm : MetAt MT w mp lb s) (hl : Room mp s) (hne : g ≠ old) :
    Calls Tryz.prog 200 #[.pointer (some ⟨r, 0, none⟩), .int .i64 0, .agg #[.int .i64 old.number, .int .i64 old.owner], .agg #[.int .i64 new.number, .int .i64 new.owner]] w fun e w' =>
      e = .returned (.tuple #[.agg #[.int .i64 g.number, .int .i64 g.owner], .bool false, .int .i64 0]) ∧ RowG.Left RowG.R MT r b kind mp [g] lb (s.note kind 0 3 false) w w' := RowG.trade_not w r b kind mp [g] hr lb s hm hl 0 g old new rfl hne
theorem load0 (w : World) (r b : Nat) (kind : Int) (mp : Option Nat) (g : Gt) (hr : RowG.At RowG.R w r b kind mp [g]) (lb : Nat) (s : MS) (hm : MetAt MT w mp lb s) (hl : Room mp s) :
    Calls Tryz.prog 237 #[.pointer (some ⟨r, 0, none⟩), .int .i64 0] w fun e w' =>
      e = .returned (.tuple #[.agg #[.int .i64 g.number, .int .i64 g.owner], .int .i64 0]) ∧ RowG.Left RowG.R MT r b kind mp [g] lb (s.note kind 0 1 true) w w' := RowG.load_at w r b kind mp [g] hr lb s hm hl 0 g rfl
theorem all0 (w : World) (r b : Nat) (kind : Int) (mp : Option Nat) (g : Gt) (hr : RowG.At RowG.R w r b kind mp [g]) :
    Calls Tryz.prog 110 #[.pointer (some ⟨r, 0, none⟩)] w fun e w' => ∃ a c, e = .returned (.slice (some ⟨a, 0, none⟩) 1 c) ∧ (w'.cell? ⟨a, 0, none⟩ = some (.int .i64 g.number) ∧ w'.cell? ⟨a, 1, none⟩ = some (.int .i64 g.owner)) ∧ Keeps [] w w' :=
  (RowG.all_any w r b kind mp [g] hr).mono fun e w' ⟨v, he, h1, h2⟩ => by
    rcases h1.2 with ⟨_, h0⟩ | ⟨a, cap, cur, rfl, hb, hg, h3, _⟩
    · simp at h0
    · exact ⟨a, cap, he, ⟨(h1.cellAt 0 (by show 0 < 1 * 2; decide)).trans rfl, (h1.cellAt 1 (by show 1 < 1 * 2; decide)).trans rfl⟩, h2⟩
theorem isThread_yes (w : World) (n : Int) (h1 : 1 ≤ n) (h2 : n ≤ 8) : Calls Tryz.prog 198 #[.int .i64 n] w fun e w' => e = .returned (.bool true) ∧ w = w' := by
  go_enter Tryz.func198, Tryz.ntmps198
  go_wp2
  go_ret
  exact ⟨rfl, rfl⟩
theorem isThread_no (w : World) (n : Int) (h : n < 1 ∨ 8 < n) : Calls Tryz.prog 198 #[.int .i64 n] w fun e w' => e = .returned (.bool false) ∧ w = w' := by
  rcases h with h | h
  · have h1 : ¬ (1 ≤ n) := by omega
    go_enter Tryz.func198, Tryz.ntmps198
    go_wp2
    go_ret
    exact ⟨rfl, rfl⟩
  · have h1 : 1 ≤ n := by omega
    have h2 : ¬ (n ≤ 8) := by omega
    go_enter Tryz.func198, Tryz.ntmps198
    go_wp2
    go_ret
    exact ⟨rfl, rfl⟩
theorem gate_none (w : World) : Calls Tryz.prog 199 #[] w fun e w' => e = .returned (.agg #[.int .i64 (-1), .int .i64 0]) ∧ Keeps [] w w' := by
  go_enter Tryz.func199, Tryz.ntmps199
  go_wp2
  refine bodyPost_ret (v := .agg #[.int .i64 (-1), .int .i64 0]) (by simp [results, Tryz.results199, go_sem]) rfl ⟨rfl, ?_⟩
  exact (Keeps.refl _ _).alloc _
theorem gate_now (w : World) (q r b : Nat) (mp : Option Nat) (g : Gt) (h : GateAt w q r b mp g) :
    Calls Tryz.prog 43 #[.pointer (some ⟨q, 0, none⟩)] w fun e w' => e = .returned (.agg #[.int .i64 g.number, .int .i64 g.owner]) ∧ Keeps [] w w' := by
  have k0 : Keeps [] w (w.alloc (.cells #[.int .i64 0, .int .i64 0] 42)) := (Keeps.refl _ _).alloc _
  have c0 : (w.alloc (.cells #[.int .i64 0, .int .i64 0] 42)).cell? ⟨q, 0, none⟩ = some (.pointer (some ⟨r, 0, none⟩)) := ((h.1.keeps k0 (by simp)).cell 0).trans rfl
  have bZ := Lib.hid (Blk.new w 42 #[.int .i64 0, .int .i64 0])
  have HR := Lib.hid (h.2.keeps k0 (by simp) (by simp))
  have K0 := Lib.hid k0
  clear h k0
  go_enter Tryz.func43, Tryz.ntmps43
  go_wp2_with fail
  refine (all0 _ r b 2 mp g HR.out).mono ?_
  rintro e w1 ⟨a, c, rfl, ⟨d0, d1⟩, k1⟩
  have bz := bZ.out.keeps k1 (by simp)
  have z0 : w1.cell? ⟨w.heap.size, 0, none⟩ = some (.int .i64 0) := (bz.cell 0).trans rfl
  have z1 : w1.cell? ⟨w.heap.size, 1, none⟩ = some (.int .i64 0) := (bz.cell 1).trans rfl
  have y0 := bz.frozen 0
  have y1 := bz.frozen 1
  have K1 := Lib.hid (K0.out.trans k1 (by simp))
  clear bz k1 c0
  go_wp2_with fail
  refine bodyPost_ret (v := .agg #[.int .i64 g.number, .int .i64 g.owner]) (by simp [results, Tryz.results43, go_sem, z0, z1]) rfl ⟨rfl, ?_⟩
  exact (K1.out.setCell (.inr (Nat.le_refl _)) _).setCell (.inr (Nat.le_refl _)) _
theorem gate_new (w : World) (mp : Option Nat) :
    Calls Tryz.prog 119 #[PM mp] w fun e w' => e = .returned (.pointer (some ⟨w.heap.size + 2, 0, none⟩)) ∧ GateAt w' (w.heap.size + 2) (w.heap.size + 1) w.heap.size mp Gt.zero ∧ Keeps [] w w' := by
  have hn := Lib.hid (RowG.newRow_ok w mp 2 1 (by decide) (by decide))
  go_enter Tryz.func119, Tryz.ntmps119
  go_wp2_with fail
  refine hn.out.mono ?_
  rintro e w1 ⟨rfl, hr, hk, hs⟩
  have HR := Lib.hid hr
  have HK := Lib.hid hk
  have HS := Lib.hid hs
  clear hr hk hs hn
  go_wp2_with fail
  rw [HS.out]
  go_ret
  exact ⟨rfl, ⟨new_at _ _ _ HS.out, HR.out.keeps ((Keeps.refl [] w1).alloc _) (by simp) (by simp)⟩, HK.out.alloc _⟩

theorem trade_held_yes {w w' : World} {q r b : Nat} {mp : Option Nat} {g : Gt} (new : Gt) (h : GateAt w q r b mp g) {lb : Nat} {s : MS} (hm : MetAt MT w mp lb s) (hl : Room mp s) (hk : Keeps [] w w') :
    Calls Tryz.prog 200 #[.pointer (some ⟨r, 0, none⟩), .int .i64 0, .agg #[.int .i64 g.number, .int .i64 g.owner], .agg #[.int .i64 new.number, .int .i64 new.owner]] w' fun e w4 =>
      e = .returned (.tuple #[.agg #[.int .i64 g.number, .int .i64 g.owner], .bool true, .int .i64 0]) ∧ RowG.Left RowG.R MT r b 2 mp [new] lb (s.note 2 0 3 true) w' w4 ∧ (∀ k t cs, w.heap.size ≤ k → Blk w' k t cs → Blk w4 k t cs) ∧ Blk w4 q 229 #[.pointer (some ⟨r, 0, none⟩)] ∧ Keeps [] w w' :=
  (trade0_yes w' r b 2 mp g new (h.2.keeps hk (by simp) (by simp)) lb s (hm.keeps hk (by simp)) hl).mono fun e w4 ⟨he, hL⟩ =>
    ⟨he, hL, fun k t cs hg hb => by
      obtain ⟨_, _, _, hk2, _⟩ := hL
      refine hb.keeps hk2 (fun hx => ?_)
      rw [List.mem_cons] at hx
      rcases hx with hx | hx
      · have := h.2.row.lt; omega
      · have := foot_lt hm hx; omega, kept_gate (h.keeps hk (by simp) (by simp) (by simp)) (hm.keeps hk (by simp)) hL, hk⟩
theorem trade_held_not {w w' : World} {q r b : Nat} {mp : Option Nat} {g : Gt} (old new : Gt) (h : GateAt w q r b mp g) {lb : Nat} {s : MS} (hm : MetAt MT w mp lb s) (hl : Room mp s) (hne : g ≠ old) (hk : Keeps [] w w') :
    Calls Tryz.prog 200 #[.pointer (some ⟨r, 0, none⟩), .int .i64 0, .agg #[.int .i64 old.number, .int .i64 old.owner], .agg #[.int .i64 new.number, .int .i64 new.owner]] w' fun e w4 =>
      e = .returned (.tuple #[.agg #[.int .i64 g.number, .int .i64 g.owner], .bool false, .int .i64 0]) ∧ RowG.Left RowG.R MT r b 2 mp [g] lb (s.note 2 0 3 false) w' w4 ∧ (∀ k t cs, w.heap.size ≤ k → Blk w' k t cs → Blk w4 k t cs) ∧ Blk w4 q 229 #[.pointer (some ⟨r, 0, none⟩)] ∧ Keeps [] w w' :=
  (trade0_not w' r b 2 mp g old new (h.2.keeps hk (by simp) (by simp)) lb s (hm.keeps hk (by simp)) hl hne).mono fun e w4 ⟨he, hL⟩ =>
    ⟨he, hL, fun k t cs hg hb => by
      obtain ⟨_, _, _, hk2, _⟩ := hL
      refine hb.keeps hk2 (fun hx => ?_)
      rw [List.mem_cons] at hx
      rcases hx with hx | hx
      · have := h.2.row.lt; omega
      · have := foot_lt hm hx; omega, kept_gate (h.keeps hk (by simp) (by simp) (by simp)) (hm.keeps hk (by simp)) hL, hk⟩
end Go.Proofs.YtdhgiohjdhcedaaGreat
