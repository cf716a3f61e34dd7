/- One meter and one row of int64 of it, since a world w0: what they hold, call by call. -/
import Derived.Test.YtlpgcfgnimchaaaRowIb
import Derived.Test.YtlpgcfgnimchaaaMeter
namespace Go.Proofs.Ytlpgcfgnimchaaa
open Go.RowKit
set_option linter.unusedVariables false

/-- The meter in block g and its row in the blocks r, b, all made since w0; what was there at w0 is as it was. -/
def St (w0 w : World) (g r b : Nat) (kind : Int) (l : List Int) (s : MS) : Prop :=
  RowI.At RowI.R w r b kind (some g) l ∧ (∃ lb, MetAt MT w (some g) lb s ∧ w0.heap.size ≤ lb) ∧ Keeps [] w0 w ∧ w0.heap.size ≤ g ∧ w0.heap.size ≤ b

theorem St.left {w0 w w' : World} {g r b : Nat} {kind : Int} {l l' : List Int} {s s' : MS} (h : St w0 w g r b kind l s) {lb : Nat} (hlb : w0.heap.size ≤ lb) (hl : RowI.Left RowI.R MT r b kind (some g) l' lb s' w w') : St w0 w' g r b kind l' s' := by
  obtain ⟨_, _, hk, hg, hb⟩ := h
  obtain ⟨ha, lb', hm, hk', hat⟩ := hl
  have := hk.size
  refine ⟨ha, ⟨lb', hm, by omega⟩, hk.trans hk' ?_, hg, hb⟩
  intro x hx
  simp [foot] at hx
  exact .inr (by omega)

section
variable {w0 w : World} {g r b : Nat} {kind : Int} {l : List Int} {s : MS} (h : St w0 w g r b kind l s)
include h
theorem St.load (hl : s.log.length < 2199023255552) (k : Nat) (x : Int) (hx : l[k]? = some x) :
    Calls Try.prog 18 #[.pointer (some ⟨r, 0, none⟩), .int .i64 k] w fun e w' => e = .returned (.tuple #[.int .i64 x, .int .i64 0]) ∧ St w0 w' g r b kind l (s.note kind k 1 true) := by
  obtain ⟨lb, hm, hlb⟩ := h.2.1
  exact (RowI.load_at w r b kind (some g) l h.1 lb s hm (fun _ => hl) k x hx).mono fun e w' ⟨he, hL⟩ => ⟨he, h.left hlb hL⟩
theorem St.store (hl : s.log.length < 2199023255552) (k : Nat) (x : Int) (hk : k < l.length) :
    Calls Try.prog 19 #[.pointer (some ⟨r, 0, none⟩), .int .i64 k, .int .i64 x] w fun e w' => e = .returned (.int .i64 0) ∧ St w0 w' g r b kind (l.set k x) (s.note kind k 2 true) := by
  obtain ⟨lb, hm, hlb⟩ := h.2.1
  exact (RowI.store_at w r b kind (some g) l h.1 lb s hm (fun _ => hl) k x hk).mono fun e w' ⟨he, hL⟩ => ⟨he, h.left hlb hL⟩
theorem St.trade_yes (hl : s.log.length < 2199023255552) (k : Nat) (x new : Int) (hx : l[k]? = some x) :
    Calls Try.prog 20 #[.pointer (some ⟨r, 0, none⟩), .int .i64 k, .int .i64 x, .int .i64 new] w fun e w' => e = .returned (.tuple #[.int .i64 x, .bool true, .int .i64 0]) ∧ St w0 w' g r b kind (l.set k new) (s.note kind k 3 true) := by
  obtain ⟨lb, hm, hlb⟩ := h.2.1
  exact (RowI.trade_yes w r b kind (some g) l h.1 lb s hm (fun _ => hl) k x new hx).mono fun e w' ⟨he, hL⟩ => ⟨he, h.left hlb hL⟩
theorem St.trade_not (hl : s.log.length < 2199023255552) (k : Nat) (x old new : Int) (hx : l[k]? = some x) (hne : (x == old) = false) :
    Calls Try.prog 20 #[.pointer (some ⟨r, 0, none⟩), .int .i64 k, .int .i64 old, .int .i64 new] w fun e w' => e = .returned (.tuple #[.int .i64 x, .bool false, .int .i64 0]) ∧ St w0 w' g r b kind l (s.note kind k 3 false) := by
  obtain ⟨lb, hm, hlb⟩ := h.2.1
  exact (RowI.trade_not w r b kind (some g) l h.1 lb s hm (fun _ => hl) k x old new hx hne).mono fun e w' ⟨he, hL⟩ => ⟨he, h.left hlb hL⟩
theorem St.begin (t : Int) :
    Calls Try.prog 17 #[.pointer (some ⟨g, 0, none⟩), .int .i64 t] w fun e w' => e = .returned (.tuple #[]) ∧ St w0 w' g r b kind l (s.begin t) := by
  obtain ⟨lb, hm, hlb⟩ := h.2.1
  refine (begin_any w (some g) lb s hm t).mono fun e w' ⟨he, h1, h2⟩ => ⟨he, ?_⟩
  have hf := h.1.foot RowI.ty hm
  obtain ⟨ha, _, hk, hg, hb⟩ := h
  refine ⟨ha.keeps h2 hf.1 hf.2, ⟨lb, h1, hlb⟩, hk.trans h2 ?_, hg, hb⟩
  intro x hx
  simp [foot] at hx
  exact .inr (by omega)
theorem St.keeps {w' : World} (hk : Keeps [] w w') : St w0 w' g r b kind l s := by
  obtain ⟨ha, ⟨lb, hm, hlb⟩, hk0, hg, hb⟩ := h
  exact ⟨ha.keeps hk (by simp) (by simp), ⟨lb, hm.keeps hk (by simp), hlb⟩, hk0.trans hk (by simp), hg, hb⟩
end

/-- A meter alone. -/
def StM (w0 w : World) (g : Nat) (s : MS) : Prop := (∃ lb, MetAt MT w (some g) lb s ∧ w0.heap.size ≤ lb) ∧ Keeps [] w0 w ∧ w0.heap.size ≤ g
theorem StM.new (w0 : World) : Calls Try.prog 15 #[] w0 fun e w' => ∃ g, e = .returned (.pointer (some ⟨g, 0, none⟩)) ∧ StM w0 w' g MS.zero :=
  (newMeter w0).mono fun e w' ⟨g, he, h1, h2, h3⟩ => ⟨g, he, ⟨g, h1, by omega⟩, h2, by omega⟩
theorem StM.row {w0 w : World} {g : Nat} {s : MS} (h : StM w0 w g s) (kind : Int) (n : Nat) (h1 : 1 ≤ n) (h2 : n ≤ 4096) :
    Calls Try.prog 16 #[.pointer (some ⟨g, 0, none⟩), .int .i64 kind, .int .i64 n] w fun e w' =>
      ∃ r b, e = .returned (.tuple #[.pointer (some ⟨r, 0, none⟩), .int .i64 0]) ∧ St w0 w' g r b kind (List.replicate n 0) s :=
  (RowI.newRow_ok w (some g) kind n h1 h2).mono fun e w' ⟨he, h3, h4, h5⟩ => by
    obtain ⟨⟨lb, hm, hlb⟩, hk, hg⟩ := h
    have := hk.size
    exact ⟨_, _, he, h3, ⟨lb, hm.keeps h4 (by simp), hlb⟩, hk.trans h4 (by simp), hg, by omega⟩
theorem St.rowBad {w : World} (g : Nat) (kind n : Int) (hn : n < 1 ∨ 4096 < n) :
    Calls Try.prog 16 #[.pointer (some ⟨g, 0, none⟩), .int .i64 kind, .int .i64 n] w fun e w' => e = .returned (.tuple #[.pointer none, .int .i64 1]) ∧ w = w' :=
  RowI.newRow_bad w (some g) kind n hn
theorem St.log {w0 w : World} {g r b : Nat} {kind : Int} {l : List Int} {s : MS} (h : St w0 w g r b kind l s) (hl : s.log.length ≤ 2199023255552) :
    Calls Try.prog 21 #[.pointer (some ⟨g, 0, none⟩)] w fun e w' => ∃ v, e = .returned v ∧ St w0 w' g r b kind l s ∧ w'.ownsRow w.heap.size 59 6 v s.log.length (logCells s.log) := by
  obtain ⟨lb, hm, _⟩ := h.2.1
  exact (log_some w g lb s hm hl).mono fun e w' ⟨v, he, h1, h2⟩ => ⟨v, he, h.keeps h2, h1⟩
theorem St.steps {w0 w : World} {g r b : Nat} {kind : Int} {l : List Int} {s : MS} (h : St w0 w g r b kind l s) :
    Calls Try.prog 23 #[.pointer (some ⟨g, 0, none⟩)] w fun e w' => e = .returned (.int .i64 s.steps) ∧ w = w' := by
  obtain ⟨lb, hm, _⟩ := h.2.1
  exact steps_some w g lb s hm
theorem St.done {w0 w : World} {g r b : Nat} {kind : Int} {l : List Int} {s : MS} (h : St w0 w g r b kind l s) :
    Calls Try.prog 24 #[.pointer (some ⟨g, 0, none⟩)] w fun e w' => e = .returned (.int .i64 s.done) ∧ w = w' := by
  obtain ⟨lb, hm, _⟩ := h.2.1
  exact done_some w g lb s hm
theorem St.most {w0 w : World} {g r b : Nat} {kind : Int} {l : List Int} {s : MS} (h : St w0 w g r b kind l s) :
    Calls Try.prog 22 #[.pointer (some ⟨g, 0, none⟩)] w fun e w' => e = .returned (.int .i64 s.most) ∧ w = w' := by
  obtain ⟨lb, hm, _⟩ := h.2.1
  exact most_some w g lb s hm
end Go.Proofs.Ytlpgcfgnimchaaa
