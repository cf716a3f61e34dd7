/- The document's New and Same; two tables of one meter. -/
import Derived.Test.YtdkbdlhfhmgenaaSlotsDoes
import Derived.Test.YtdkbdlhfhmgenaaSlc
import Derived.Deep.QuietTactic
import Derived.BigQuiet
namespace Go.Proofs.Ytdkbdlhfhmgenaa
open Go.RowKit
set_option linter.unusedVariables false
theorem range_keepsS {S : List Nat} {w w' : World} {a o : Nat} {cs : List Value} (h : w.rangeAt a o cs) (hk : Keeps S w w') (ha : a ∉ S) : w'.rangeAt a o cs := fun j v hv => by
  have h1 := h j v hv
  exact (keeps_cell hk (World.block_lt_of_cell? w _ h1) ha).trans h1
/-- The slots of a list lie in block a. -/
def RngS (w : World) (a : Nat) (l : List Sl) : Prop := ∀ (k : Nat) (y : Sl), l[k]? = some y → w.rangeAt a (k * 8) y.cells
theorem RngS.keeps {S : List Nat} {w w' : World} {a : Nat} {l : List Sl} (h : RngS w a l) (hk : Keeps S w w') (ha : a ∉ S) : RngS w' a l := fun k y hy => range_keepsS (h k y hy) hk ha
theorem RT.rng {w : World} {z n d : Nat} {H : List Hd} {W : List Int} (h : RT w z n d H W) : RngS w d (slL H W) := fun k y hy j v hv => h.at_ hy j v hv
theorem rt_new_bad (w : World) (n : Nat) (q : Int) (hq : q < 1 ∨ 8 < q) : Calls Try.prog 32 #[.pointer (some ⟨n, 0, none⟩), .int .i64 q] w fun e w' => e = .returned (.tuple #[.pointer none, .int .i64 1]) ∧ w = w' := by
  rcases hq with hq | hq
  · go_enter Try.func32, Try.ntmps32
    go_wp2
    go_ret2
    exact ⟨rfl, rfl⟩
  · have h1 : ¬ (q < 1) := by omega
    go_enter Try.func32, Try.ntmps32
    go_wp2
    go_ret2
    exact ⟨rfl, rfl⟩
theorem slL_rep : ∀ n, slL (List.replicate n Hd.zero) (List.replicate (n * 2) 0) = List.replicate n ⟨Hd.zero, 0, 0⟩
  | 0 => rfl
  | n + 1 => by
    have e : (n + 1) * 2 = n * 2 + 1 + 1 := by omega
    rw [e]
    simp only [List.replicate_succ, slL, slL_rep n]
theorem rt_new (w : World) (n : Nat) (q : Nat) (h1 : 1 ≤ q) (h2 : q ≤ 8) : Calls Try.prog 32 #[.pointer (some ⟨n, 0, none⟩), .int .i64 q] w fun e w' =>
    e = .returned (.tuple #[.pointer (some ⟨w.heap.size + 1, 0, none⟩), .int .i64 0]) ∧ RT w' (w.heap.size + 1) n w.heap.size (List.replicate q Hd.zero) (List.replicate (q * 2) 0) ∧ Keeps [] w w' ∧ w'.heap.size = w.heap.size + 2 := by
  obtain ⟨i0, hi, hz0, hz1, hz2⟩ := info_parts Try.infoSlot
  have hmk : ∀ w : World, (Instr.makeSlice 75 (.int .i64 (q : Int)) (.int .i64 (q : Int))).run Try.prog w = .ok (.slice (some ⟨w.heap.size, 0, none⟩) q q) (w.alloc (.cells ((List.replicate q (⟨Hd.zero, 0, 0⟩ : Sl)).flatMap Sl.cells).toArray 78)) := fun w => by
    have := run_make (P := Try.prog) w 75 78 i0 _ Try.underlying75 hi hz0 .i64 .i64 q q (by omega) (Int.le_refl _) (by rw [hz2]; omega) (by omega)
    simp only [Int.toNat_natCast] at this
    rw [this, hz1, madeCells_rep Sl.cells 8 (by decide) (fun _ => rfl) ⟨Hd.zero, 0, 0⟩ q (z := (Value.agg #[.int .i64 0, .int .i64 0, .int .i64 0, .int .i64 0, .bool false, .int .i64 0, .int .u64 0, .int .u64 0]).cells) rfl]
  clear hi hz0 hz1 hz2
  have g1 : decide ((q : Int) < 1) = false := by simp; omega
  have g2 : decide ((8 : Int) < (q : Int)) = false := by simp; omega
  go_enter Try.func32, Try.ntmps32
  go_wp2
  go_ret2
  refine ⟨rfl, ⟨?_, ?_, by simp; omega, by simpa using h1, by simpa using h2⟩, by simp, by simp⟩
  · simp only [List.length_replicate]
    exact new_at _ _ _ (by simp)
  · rw [slL_rep]
    exact (Blk.new _ _ _).alloc _
set_option maxHeartbeats 2000000 in
theorem slots_same (w : World) (a a' c c' : Nat) (l : List Sl) (hl : l.length ≤ 4096) (h1 : RngS w a l) (h2 : RngS w a' l) :
    Calls Try.prog 34 #[.slice (some ⟨a, 0, none⟩) l.length c, .slice (some ⟨a', 0, none⟩) l.length c'] w fun e w' => e = .returned (.bool true) ∧ Keeps [] w w' := by
  have R1 := Lib.hid h1
  have R2 := Lib.hid h2
  clear h1 h2
  go_enter Try.func34, Try.ntmps34
  go_wp2_with fail
  go_loopw [5] (fun i wr => ∃ k : Nat, k ≤ l.length ∧ i = .int .i64 k ∧ Keeps [] w wr) (fun i _ => l.length - (intOf i).toNat)
  case atStart => exact ⟨0, Nat.zero_le _, rfl, Keeps.refl _ _⟩
  case round =>
    obtain ⟨k, hk, rfl, hkr⟩ := hrel
    by_cases hlt : k < l.length
    · have k0 : (0 : Int) ≤ (k : Int) := by omega
      have k1 : (k : Int) < (l.length : Int) := by omega
      obtain ⟨y, hy⟩ : ∃ y, l[k]? = some y := ⟨_, List.getElem?_eq_getElem hlt⟩
      have e1 := range_keepsS (R1.out k y hy) hkr (by simp)
      have e2 := range_keepsS (R2.out k y hy) hkr (by simp)
      have x0 : wr.cell? ⟨a, k * 8, none⟩ = some (.int .i64 y.h.gen) := e1 0 _ rfl
      have y0 : wr.cell? ⟨a', k * 8, none⟩ = some (.int .i64 y.h.gen) := e2 0 _ rfl
      have x1 : wr.cell? ⟨a, k * 8 + 1, none⟩ = some (.int .i64 y.h.state) := e1 1 _ rfl
      have y1 : wr.cell? ⟨a', k * 8 + 1, none⟩ = some (.int .i64 y.h.state) := e2 1 _ rfl
      have x2 : wr.cell? ⟨a, k * 8 + 2, none⟩ = some (.int .i64 y.h.stamp) := e1 2 _ rfl
      have y2 : wr.cell? ⟨a', k * 8 + 2, none⟩ = some (.int .i64 y.h.stamp) := e2 2 _ rfl
      have x3 : wr.cell? ⟨a, k * 8 + 3, none⟩ = some (.int .i64 y.h.thread) := e1 3 _ rfl
      have y3 : wr.cell? ⟨a', k * 8 + 3, none⟩ = some (.int .i64 y.h.thread) := e2 3 _ rfl
      have x4 : wr.cell? ⟨a, k * 8 + 4, none⟩ = some (.bool y.h.doomed) := e1 4 _ rfl
      have y4 : wr.cell? ⟨a', k * 8 + 4, none⟩ = some (.bool y.h.doomed) := e2 4 _ rfl
      have x5 : wr.cell? ⟨a, k * 8 + 5, none⟩ = some (.int .i64 y.h.who) := e1 5 _ rfl
      have y5 : wr.cell? ⟨a', k * 8 + 5, none⟩ = some (.int .i64 y.h.who) := e2 5 _ rfl
      have x6 : wr.cell? ⟨a, k * 8 + 6, none⟩ = some (.int .u64 y.a) := e1 6 _ rfl
      have y6 : wr.cell? ⟨a', k * 8 + 6, none⟩ = some (.int .u64 y.a) := e2 6 _ rfl
      have x7 : wr.cell? ⟨a, k * 8 + 7, none⟩ = some (.int .u64 y.b) := e1 7 _ rfl
      have y7 : wr.cell? ⟨a', k * 8 + 7, none⟩ = some (.int .u64 y.b) := e2 7 _ rfl
      have he : ∀ w, (Op.equalIn 10000 78 (.agg #[.int .i64 y.h.gen, .int .i64 y.h.state, .int .i64 y.h.stamp, .int .i64 y.h.thread, .bool y.h.doomed, .int .i64 y.h.who, .int .u64 y.a, .int .u64 y.b]) (.agg #[.int .i64 y.h.gen, .int .i64 y.h.state, .int .i64 y.h.stamp, .int .i64 y.h.thread, .bool y.h.doomed, .int .i64 y.h.who, .int .u64 y.a, .int .u64 y.b])).run Try.prog w = .ok true w := fun w => by simp [go_sem, sig_same9]
      clear e1 e2 hy
      go_wp2_with fail
      go_quiet (fail)
      go_wp2_with fail
      exact ⟨⟨k + 1, by omega, by simp, hkr.trans ((Keeps.refl [] _).drewN _) (by simp)⟩, by simp [intOf]; omega⟩
    · have hge : ¬ ((k : Int) < (l.length : Int)) := by omega
      go_wp2_with fail
      go_ret
      exact ⟨rfl, hkr⟩

/-- Two tables of one meter, and the document's. -/
structure SDuo (w : World) (m lb n lbx : Nat) (t : Tb) (z d : Nat) (H : List Hd) (W : List Int) (t2 : Tb) (z2 d2 : Nat) (H2 : List Hd) (W2 : List Int) (s : MS) : Prop where
  one : SPair w m lb n lbx t z d H W s
  two : SPair w m lb n lbx t2 z2 d2 H2 W2 s
  bb : t.b ≠ t2.b
  cc : t.c ≠ t2.c
  dd : d ≠ d2
section
variable {w w' : World} {m lb n lbx : Nat} {t : Tb} {z d : Nat} {H : List Hd} {W : List Int} {t2 : Tb} {z2 d2 : Nat} {H2 : List Hd} {W2 : List Int} {s s' : MS} {H' : List Hd} {W' : List Int}
theorem SDuo.symm (h : SDuo w m lb n lbx t z d H W t2 z2 d2 H2 W2 s) : SDuo w m lb n lbx t2 z2 d2 H2 W2 t z d H W s := ⟨h.two, h.one, h.bb.symm, h.cc.symm, h.dd.symm⟩
theorem SDuo.keeps (h : SDuo w m lb n lbx t z d H W t2 z2 d2 H2 W2 s) (hk : Keeps [] w w') : SDuo w' m lb n lbx t z d H W t2 z2 d2 H2 W2 s := ⟨h.one.keeps hk, h.two.keeps hk, h.bb, h.cc, h.dd⟩
/-- What of a pair a turn of the meters leaves alone. -/
theorem SPair.away (h : SPair w m lb n lbx t z d H W s) : ∀ x, (x = m ∨ x = lb ∨ x = n ∨ x = lbx) → t.q ≠ x ∧ t.r ≠ x ∧ t.b ≠ x ∧ t.s ≠ x ∧ t.c ≠ x ∧ z ≠ x ∧ d ≠ x := by
  have f1 := h.tab.afoot h.met
  have f2 := Go.Proofs.Ytdkbdlhfhmgenaa.apart h.met h.ref.blk (by decide) (by decide)
  have f3 := Go.Proofs.Ytdkbdlhfhmgenaa.apart h.met h.ref.row (by decide) (by decide)
  have e1 := h.tab.xfoot h.mex
  have e2 := Go.Proofs.Ytdkbdlhfhmgenaa.apart h.mex h.ref.blk (by decide) (by decide)
  have e3 := Go.Proofs.Ytdkbdlhfhmgenaa.apart h.mex h.ref.row (by decide) (by decide)
  have ga : ∀ x, x ∈ foot (some m) lb → t.q ≠ x ∧ t.r ≠ x ∧ t.b ≠ x ∧ t.s ≠ x ∧ t.c ≠ x ∧ z ≠ x ∧ d ≠ x := fun x hx => ⟨fun e => f1.1 (e ▸ hx), fun e => f1.2.1 (e ▸ hx), fun e => f1.2.2.1 (e ▸ hx), fun e => f1.2.2.2.1 (e ▸ hx), fun e => f1.2.2.2.2 (e ▸ hx), fun e => f2 (e ▸ hx), fun e => f3 (e ▸ hx)⟩
  have gb : ∀ x, x ∈ foot (some n) lbx → t.q ≠ x ∧ t.r ≠ x ∧ t.b ≠ x ∧ t.s ≠ x ∧ t.c ≠ x ∧ z ≠ x ∧ d ≠ x := fun x hx => ⟨fun e => e1.1 (e ▸ hx), fun e => e1.2.1 (e ▸ hx), fun e => e1.2.2.1 (e ▸ hx), fun e => e1.2.2.2.1 (e ▸ hx), fun e => e1.2.2.2.2 (e ▸ hx), fun e => e2 (e ▸ hx), fun e => e3 (e ▸ hx)⟩
  intro x hx
  rcases hx with rfl | rfl | rfl | rfl
  · exact ga _ (by simp [foot])
  · exact ga _ (by simp [foot])
  · exact gb _ (by simp [foot])
  · exact gb _ (by simp [foot])
theorem SPair.stays (h : SPair w m lb n lbx t z d H W s) {lb' lbx' : Nat} (hm : MetAt MT w' (some m) lb' s') (hx : MetAt XT w' (some n) lbx' s') (ne : lb' ≠ lbx') {S : List Nat} (hk : Keeps S w w') (h1 : ∀ x, x ∈ S → t.q ≠ x ∧ t.r ≠ x ∧ t.b ≠ x ∧ t.s ≠ x ∧ t.c ≠ x ∧ z ≠ x ∧ d ≠ x) : SPair w' m lb' n lbx' t z d H W s' :=
  ⟨h.tab.keeps hk (fun q => (h1 _ q).1 rfl) (fun q => (h1 _ q).2.1 rfl) (fun q => (h1 _ q).2.2.1 rfl) (fun q => (h1 _ q).2.2.2.1 rfl) (fun q => (h1 _ q).2.2.2.2.1 rfl), h.ref.keeps hk (fun q => (h1 _ q).2.2.2.2.2.1 rfl) (fun q => (h1 _ q).2.2.2.2.2.2 rfl), hm, hx, ne⟩
theorem SDuo.step (h : SDuo w m lb n lbx t z d H W t2 z2 d2 H2 W2 s) (st : SStep m lb n lbx t z d s H' W' w w') :
    ∃ lb' lbx' s', SDuo w' m lb' n lbx' t z d H' W' t2 z2 d2 H2 W2 s' ∧ Keeps [t.b, t.c, d, m, lb, n, lbx] w w' ∧ (lb' = lb ∨ w.heap.size ≤ lb') ∧ (lbx' = lbx ∨ w.heap.size ≤ lbx') ∧ s'.log.length ≤ s.log.length + 1 := by
  obtain ⟨lb', lbx', s', p, k, h3, h4, h5⟩ := st
  refine ⟨lb', lbx', s', ⟨p, h.two.stays p.met p.mex p.ne k ?_, h.bb, h.cc, h.dd⟩, k, h3, h4, h5⟩
  have hw := h.two.away
  have a1 : t2.q ≠ t.b := h.two.tab.blk.ne_ h.one.tab.heads.row (by decide)
  have a2 : t2.q ≠ t.c := h.two.tab.blk.ne_ h.one.tab.words.row (by decide)
  have a3 : t2.q ≠ d := h.two.tab.blk.ne_ h.one.ref.row (by decide)
  have b1 : t2.r ≠ t.b := h.two.tab.heads.blk.ne_ h.one.tab.heads.row (by decide)
  have b2 : t2.r ≠ t.c := h.two.tab.heads.blk.ne_ h.one.tab.words.row (by decide)
  have b3 : t2.r ≠ d := h.two.tab.heads.blk.ne_ h.one.ref.row (by decide)
  have c2 : t2.b ≠ t.c := h.two.tab.heads.row.ne_ h.one.tab.words.row (by decide)
  have c3 : t2.b ≠ d := h.two.tab.heads.row.ne_ h.one.ref.row (by decide)
  have d1 : t2.s ≠ t.b := h.two.tab.words.blk.ne_ h.one.tab.heads.row (by decide)
  have d2' : t2.s ≠ t.c := h.two.tab.words.blk.ne_ h.one.tab.words.row (by decide)
  have d3 : t2.s ≠ d := h.two.tab.words.blk.ne_ h.one.ref.row (by decide)
  have e1 : t2.c ≠ t.b := h.two.tab.words.row.ne_ h.one.tab.heads.row (by decide)
  have e3 : t2.c ≠ d := h.two.tab.words.row.ne_ h.one.ref.row (by decide)
  have f1 := h.two.ref.tab_ne h.one.tab
  have f3 : z2 ≠ d := h.two.ref.blk.ne_ h.one.ref.row (by decide)
  intro x hx
  simp only [List.mem_cons, List.not_mem_nil, or_false] at hx
  rcases hx with rfl | rfl | rfl | hx
  · exact ⟨a1, b1, h.bb.symm, d1, e1, f1.1, f1.2.2.1⟩
  · exact ⟨a2, b2, c2, d2', h.cc.symm, f1.2.1, f1.2.2.2.1⟩
  · exact ⟨a3, b3, c3, d3, e3, f3, h.dd.symm⟩
  · exact hw x hx
end
/-- Two tables, made since w0, in k steps. -/
structure SInv (w0 w : World) (m n : Nat) (t : Tb) (z d : Nat) (H : List Hd) (W : List Int) (t2 : Tb) (z2 d2 : Nat) (H2 : List Hd) (W2 : List Int) (k : Nat) : Prop where
  ex : ∃ lb lbx s, SDuo w m lb n lbx t z d H W t2 z2 d2 H2 W2 s ∧ s.log.length ≤ k ∧ w0.heap.size ≤ lb ∧ w0.heap.size ≤ lbx
  low : w0.heap.size ≤ t.b ∧ w0.heap.size ≤ t.c ∧ w0.heap.size ≤ d ∧ w0.heap.size ≤ t2.b ∧ w0.heap.size ≤ t2.c ∧ w0.heap.size ≤ d2 ∧ w0.heap.size ≤ m ∧ w0.heap.size ≤ n
  keep : Keeps [] w0 w
  g1 : Gens k H
  g2 : Gens k H2
section
variable {w0 w w' : World} {m n : Nat} {t : Tb} {z d : Nat} {H : List Hd} {W : List Int} {t2 : Tb} {z2 d2 : Nat} {H2 : List Hd} {W2 : List Int} {k : Nat}
theorem SInv.symm (h : SInv w0 w m n t z d H W t2 z2 d2 H2 W2 k) : SInv w0 w m n t2 z2 d2 H2 W2 t z d H W k := by
  obtain ⟨⟨lb, lbx, s, h1, h2, h3⟩, hlo, hk, g1, g2⟩ := h
  exact ⟨⟨lb, lbx, s, h1.symm, h2, h3⟩, by omega, hk, g2, g1⟩
theorem SInv.keeps (h : SInv w0 w m n t z d H W t2 z2 d2 H2 W2 k) (hk : Keeps [] w w') : SInv w0 w' m n t z d H W t2 z2 d2 H2 W2 k := by
  obtain ⟨⟨lb, lbx, s, h1, h2, h3⟩, hlo, hk0, g1, g2⟩ := h
  exact ⟨⟨lb, lbx, s, h1.keeps hk, h2, h3⟩, hlo, hk0.trans hk (by simp), g1, g2⟩
theorem SInv.does (h : SInv w0 w m n t z d H W t2 z2 d2 H2 W2 k) (hk : k < 1048576) (o : Bool) (kd sl gn nn xx : Int) :
    Calls Try.prog 33 (opArgs6 t z o kd sl gn nn xx) w fun e w' => e = .returned (.bool true) ∧ ∃ H' W', H'.length = H.length ∧ SInv w0 w' m n t z d H' W' t2 z2 d2 H2 W2 (k + 1) := by
  obtain ⟨⟨lb, lbx, s, h1, h2, h3⟩, hlo, hk0, g1, g2⟩ := h
  refine (does6_any h1.one (by omega) k (by omega) g1 o kd sl gn nn xx).mono fun e w' ⟨he, H', W', hg, hl, hs⟩ => ⟨he, H', W', hl, ?_⟩
  obtain ⟨lb', lbx', s', k1, k2, k3, k4, k5⟩ := h1.step hs
  have hz := hk0.size
  refine ⟨⟨lb', lbx', s', k1, by omega, by omega, by omega⟩, hlo, hk0.trans k2 (fun x hx => .inr ?_), hg, fun j x hx => by have := g2 j x hx; omega⟩
  simp only [List.mem_cons, List.not_mem_nil, or_false] at hx
  omega
/-- Both meters begin a step. -/
theorem SInv.begin {wr : World} (h0 : SInv w0 wr m n t z d H W t2 z2 d2 H2 W2 k) (hkw : Keeps [] wr w) (q : Int) :
    Calls Try.prog 17 #[.pointer (some ⟨m, 0, none⟩), .int .i64 q] w fun e w' => e = .returned (.tuple #[]) ∧ ∃ S, (∀ x, x ∈ S → x < wr.heap.size) ∧ Keeps S w w' ∧
      Calls Try.prog 18 #[.pointer (some ⟨n, 0, none⟩), .int .i64 q] w' fun e w2 => e = .returned (.tuple #[]) ∧ ∃ S2, (∀ x, x ∈ S2 → x < wr.heap.size) ∧ Keeps S2 w' w2 ∧ SInv w0 w2 m n t z d H W t2 z2 d2 H2 W2 k := by
  obtain ⟨⟨lb, lbx, s, hr, h2, h3, h3'⟩, hlo, hk40, g1, g2⟩ := h0
  have h1 := hr.keeps hkw
  have h4 := hk40.trans hkw (by simp)
  have ltm := hr.one.lt
  have hz4 := hk40.size
  refine (begin_any w (some m) lb s h1.one.met q).mono fun e w1 ⟨he, m1, kk⟩ => ⟨he, foot (some m) lb, fun x hx => by simp [foot] at hx; omega, kk, ?_⟩
  have hf := feet6 h1.one.met h1.one.mex h1.one.ne
  have x1 := h1.one.mex.keeps kk hf
  refine (RefM.begin_any w1 n lbx s x1 q).mono fun e w2 ⟨he, x2, kk2⟩ => ⟨he, [n, lbx], fun x hx => by simp at hx; omega, kk2, ?_⟩
  have m2 : MetAt MT w2 (some m) lb (s.begin q) := m1.keeps kk2 (fun x hx hx2 => hf x (by simpa [foot] using hx2) hx)
  have kA : Keeps [m, lb, n, lbx] w w2 := (kk.mono (T := [m, lb, n, lbx]) (fun x hx => .inl (by simp [foot] at hx; rcases hx with rfl | rfl <;> simp))).trans kk2 (fun x hx => .inl (by simp at hx; rcases hx with rfl | rfl <;> simp))
  have p1 := h1.one.stays m2 x2 h1.one.ne kA (fun x hx => h1.one.away x (by simpa using hx))
  have p2 := h1.two.stays m2 x2 h1.two.ne kA (fun x hx => h1.two.away x (by simpa using hx))
  exact ⟨⟨lb, lbx, s.begin q, ⟨p1, p2, hr.bb, hr.cc, hr.dd⟩, h2, h3, h3'⟩, hlo, h4.trans kA (fun x hx => .inr (by simp at hx; omega)), g1, g2⟩
end
end Go.Proofs.Ytdkbdlhfhmgenaa
