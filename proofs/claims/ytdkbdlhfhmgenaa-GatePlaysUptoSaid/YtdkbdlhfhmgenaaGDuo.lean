/- Two gates of one meter, and the document's. -/
import Derived.Test.YtdkbdlhfhmgenaaGateDoes
import Derived.Test.YtdkbdlhfhmgenaaMeters
namespace Go.Proofs.Ytdkbdlhfhmgenaa
open Go.RowKit
set_option linter.unusedVariables false
structure GDuo (w : World) (m lb n lbx : Nat) (q r b z : Nat) (g : Gt) (q2 r2 b2 z2 : Nat) (g2 : Gt) (s : MS) : Prop where
  one : GPair w m lb n lbx q r b z g s
  two : GPair w m lb n lbx q2 r2 b2 z2 g2 s
  bb : b ≠ b2
  zz : z ≠ z2
theorem GDuo.symm {w : World} {m lb n lbx q r b z : Nat} {g : Gt} {q2 r2 b2 z2 : Nat} {g2 : Gt} {s : MS} (h : GDuo w m lb n lbx q r b z g q2 r2 b2 z2 g2 s) : GDuo w m lb n lbx q2 r2 b2 z2 g2 q r b z g s := ⟨h.two, h.one, Ne.symm h.bb, Ne.symm h.zz⟩
theorem GDuo.keeps {w w' : World} {m lb n lbx q r b z : Nat} {g : Gt} {q2 r2 b2 z2 : Nat} {g2 : Gt} {s : MS} (h : GDuo w m lb n lbx q r b z g q2 r2 b2 z2 g2 s) (hk : Keeps [] w w') : GDuo w' m lb n lbx q r b z g q2 r2 b2 z2 g2 s := ⟨h.one.keeps hk, h.two.keeps hk, h.bb, h.zz⟩
/-- What of a pair a turn of the meters leaves alone. -/
theorem GPair.away {w : World} {m lb n lbx q r b z : Nat} {g : Gt} {s : MS} (h : GPair w m lb n lbx q r b z g s) : ∀ x, (x ∈ foot (some m) lb ∨ x ∈ foot (some n) lbx) → q ≠ x ∧ r ≠ x ∧ b ≠ x ∧ z ≠ x := by
  have f1 := Go.Proofs.Ytdkbdlhfhmgenaa.apart h.met h.gate.1 (by decide) (by decide)
  have f2 := h.gate.2.foot (T := MT) (R := RowG.R) ⟨by decide, by decide, by decide, by decide, by decide⟩ h.met
  have f3 := Go.Proofs.Ytdkbdlhfhmgenaa.apart h.met h.ref (by decide) (by decide)
  have e1 := Go.Proofs.Ytdkbdlhfhmgenaa.apart h.mex h.gate.1 (by decide) (by decide)
  have e2 := h.gate.2.foot (T := XT) (R := RowG.R) ⟨by decide, by decide, by decide, by decide, by decide⟩ h.mex
  have e3 := Go.Proofs.Ytdkbdlhfhmgenaa.apart h.mex h.ref (by decide) (by decide)
  rintro x (hx | hx)
  · exact ⟨fun e => f1 (e ▸ hx), fun e => f2.1 (e ▸ hx), fun e => f2.2 (e ▸ hx), fun e => f3 (e ▸ hx)⟩
  · exact ⟨fun e => e1 (e ▸ hx), fun e => e2.1 (e ▸ hx), fun e => e2.2 (e ▸ hx), fun e => e3 (e ▸ hx)⟩
theorem GDuo.step {w w' : World} {m lb n lbx q r b z : Nat} {g g' : Gt} {q2 r2 b2 z2 : Nat} {g2 : Gt} {s : MS} (h : GDuo w m lb n lbx q r b z g q2 r2 b2 z2 g2 s) (st : GStep m lb n lbx q r b z g s g' w w') :
    ∃ lb' lbx' s', GDuo w' m lb' n lbx' q r b z g' q2 r2 b2 z2 g2 s' ∧ Keeps [b, z, m, lb, n, lbx] w w' ∧ (lb' = lb ∨ w.heap.size ≤ lb') ∧ (lbx' = lbx ∨ w.heap.size ≤ lbx') ∧ s'.log.length ≤ s.log.length + 1 := by
  obtain ⟨lb', lbx', s', p, k, h3, h4, h5⟩ := st
  refine ⟨lb', lbx', s', ⟨p, ?_, h.bb, h.zz⟩, k, h3, h4, h5⟩
  have hw := h.two.away
  have wm := hw m (.inl (by simp [foot]))
  have wl := hw lb (.inl (by simp [foot]))
  have wn := hw n (.inr (by simp [foot]))
  have wx := hw lbx (.inr (by simp [foot]))
  have a1 : q2 ≠ b := h.two.gate.1.ne_ h.one.gate.2.row (by decide)
  have a2 : q2 ≠ z := Blk.ne_ h.two.gate.1 h.one.ref (by decide)
  have a3 : r2 ≠ b := h.two.gate.2.blk.ne_ h.one.gate.2.row (by decide)
  have a4 : r2 ≠ z := Blk.ne_ h.two.gate.2.blk h.one.ref (by decide)
  have a5 : b2 ≠ z := Blk.ne_ h.two.gate.2.row h.one.ref (by decide)
  have a6 : z2 ≠ b := Blk.ne_ h.two.ref h.one.gate.2.row (by decide)
  exact ⟨h.two.gate.keeps k (by simp [a1, a2, wm.1, wl.1, wn.1, wx.1]) (by simp [a3, a4, wm.2.1, wl.2.1, wn.2.1, wx.2.1]) (by simp [Ne.symm h.bb, a5, wm.2.2.1, wl.2.2.1, wn.2.2.1, wx.2.2.1]),
    Blk.keeps h.two.ref k (by simp [a6, Ne.symm h.zz, wm.2.2.2, wl.2.2.2, wn.2.2.2, wx.2.2.2]), p.met, p.mex, p.ne⟩
/-- Two gates, made since w0, in k steps. -/
def GInv (w0 w : World) (m n q r b z : Nat) (g : Gt) (q2 r2 b2 z2 : Nat) (g2 : Gt) (k : Nat) : Prop :=
  ∃ lb lbx s, GDuo w m lb n lbx q r b z g q2 r2 b2 z2 g2 s ∧ s.log.length ≤ k ∧ (∀ x, x ∈ [b, z, b2, z2, m, lb, n, lbx] → w0.heap.size ≤ x) ∧ Keeps [] w0 w ∧ GOk g k ∧ GOk g2 k
theorem GInv.symm {w0 w : World} {m n q r b z : Nat} {g : Gt} {q2 r2 b2 z2 : Nat} {g2 : Gt} {k : Nat} (h : GInv w0 w m n q r b z g q2 r2 b2 z2 g2 k) : GInv w0 w m n q2 r2 b2 z2 g2 q r b z g k := by
  obtain ⟨lb, lbx, s, h1, h2, h3, h4, h5, h6⟩ := h
  refine ⟨lb, lbx, s, h1.symm, h2, fun x hx => h3 x ?_, h4, h6, h5⟩
  simp only [List.mem_cons, List.not_mem_nil, or_false] at hx ⊢
  omega
theorem GInv.kept {w0 w : World} {m n q r b z : Nat} {g : Gt} {q2 r2 b2 z2 : Nat} {g2 : Gt} {k : Nat} (h : GInv w0 w m n q r b z g q2 r2 b2 z2 g2 k) : Keeps [] w0 w := by
  obtain ⟨lb, lbx, s, h1, h2, h3, h4, h5, h6⟩ := h
  exact h4
theorem GInv.keeps {w0 w w' : World} {m n q r b z : Nat} {g : Gt} {q2 r2 b2 z2 : Nat} {g2 : Gt} {k : Nat} (h : GInv w0 w m n q r b z g q2 r2 b2 z2 g2 k) (hk : Keeps [] w w') : GInv w0 w' m n q r b z g q2 r2 b2 z2 g2 k := by
  obtain ⟨lb, lbx, s, h1, h2, h3, h4, h5, h6⟩ := h
  exact ⟨lb, lbx, s, h1.keeps hk, h2, h3, h4.trans hk (by simp), h5, h6⟩
theorem GInv.does {w0 w : World} {m n q r b z : Nat} {g : Gt} {q2 r2 b2 z2 : Nat} {g2 : Gt} {k : Nat} (h : GInv w0 w m n q r b z g q2 r2 b2 z2 g2 k) (hk : k < 1048576) (o : Bool) (kd t : Int) :
    Calls Try.prog 19 (opArgs q z o kd t) w fun e w' => e = .returned (.bool true) ∧ ∃ g', GInv w0 w' m n q r b z g' q2 r2 b2 z2 g2 (k + 1) := by
  obtain ⟨lb, lbx, s, h1, h2, h3, h4, h5, h6⟩ := h
  refine (does5_any h1.one (by omega) k hk h5 o kd t).mono fun e w' ⟨he, g', hg', hs⟩ => ⟨he, g', ?_⟩
  obtain ⟨lb', lbx', s', k1, k2, k3, k4, k5⟩ := h1.step hs
  have hz := h4.size
  have q0 := fun y (hy : y = b ∨ y = z ∨ y = b2 ∨ y = z2 ∨ y = m ∨ y = lb ∨ y = n ∨ y = lbx) => h3 y (by simpa using hy)
  refine ⟨lb', lbx', s', k1, by omega, fun x hx => ?_, h4.trans k2 (fun x hx => .inr (q0 x ?_)), hg', ⟨h6.1, by have := h6.2.1; omega, h6.2.2⟩⟩
  · simp only [List.mem_cons, List.not_mem_nil, or_false] at hx
    rcases hx with h | h | h | h | h | h | h | h
    · exact q0 x (by omega)
    · exact q0 x (by omega)
    · exact q0 x (by omega)
    · exact q0 x (by omega)
    · exact q0 x (by omega)
    · rcases k3 with k3 | k3
      · exact q0 x (by omega)
      · omega
    · exact q0 x (by omega)
    · rcases k4 with k4 | k4
      · exact q0 x (by omega)
      · omega
  · simp only [List.mem_cons, List.not_mem_nil, or_false] at hx ⊢
    omega
/-- Both meters begin a step. -/
theorem GInv.begin {w0 wr w : World} {m n q r b z : Nat} {g : Gt} {q2 r2 b2 z2 : Nat} {g2 : Gt} {k : Nat} (h0 : GInv w0 wr m n q r b z g q2 r2 b2 z2 g2 k) (hkw : Keeps [] wr w) (t : Int) :
    Calls Try.prog 17 #[.pointer (some ⟨m, 0, none⟩), .int .i64 t] w fun e w' => e = .returned (.tuple #[]) ∧ ∃ S, (∀ x, x ∈ S → x < wr.heap.size) ∧ Keeps S w w' ∧
      Calls Try.prog 18 #[.pointer (some ⟨n, 0, none⟩), .int .i64 t] w' fun e w2 => e = .returned (.tuple #[]) ∧ ∃ S2, (∀ x, x ∈ S2 → x < wr.heap.size) ∧ Keeps S2 w' w2 ∧ GInv w0 w2 m n q r b z g q2 r2 b2 z2 g2 k := by
  obtain ⟨lb, lbx, s, hr, h2, h3, h40, h5, h6⟩ := h0
  have h1 := hr.keeps hkw
  have h4 := h40.trans hkw (by simp)
  have ltm := hr.one.lt
  have q0 := fun y (hy : y = b ∨ y = z ∨ y = b2 ∨ y = z2 ∨ y = m ∨ y = lb ∨ y = n ∨ y = lbx) => h3 y (by simpa using hy)
  refine (begin_any w (some m) lb s h1.one.met t).mono fun e w1 ⟨he, m1, kk⟩ => ⟨he, foot (some m) lb, fun x hx => by simp [foot] at hx; omega, kk, ?_⟩
  have hf := feet h1.one.met h1.one.mex h1.one.ne
  have x1 := h1.one.mex.keeps kk hf
  refine (RefM.begin_any w1 n lbx s x1 t).mono fun e w2 ⟨he, x2, kk2⟩ => ⟨he, [n, lbx], fun x hx => by simp at hx; omega, kk2, lb, lbx, s.begin t, ?_, h2, h3, (h4.trans kk (fun x hx => .inr (q0 x (by simp [foot] at hx; omega)))).trans kk2 (fun x hx => .inr (q0 x (by simp at hx; omega))), h5, h6⟩
  have m2 : MetAt MT w2 (some m) lb (s.begin t) := m1.keeps kk2 (fun x hx hx2 => hf x (by simpa [foot] using hx2) hx)
  have w1' := h1.one.away
  have w2' := h1.two.away
  have go : ∀ {q r b z : Nat} {g : Gt}, GPair w m lb n lbx q r b z g s → (∀ x, (x ∈ foot (some m) lb ∨ x ∈ foot (some n) lbx) → q ≠ x ∧ r ≠ x ∧ b ≠ x ∧ z ≠ x) → GPair w2 m lb n lbx q r b z g (s.begin t) := by
    intro q r b z g hp ha
    have am := ha m (.inl (by simp [foot]))
    have al := ha lb (.inl (by simp [foot]))
    have an := ha n (.inr (by simp [foot]))
    have ax := ha lbx (.inr (by simp [foot]))
    exact ⟨(hp.gate.keeps kk (by simp [foot, am.1, al.1]) (by simp [foot, am.2.1, al.2.1]) (by simp [foot, am.2.2.1, al.2.2.1])).keeps kk2 (by simp [an.1, ax.1]) (by simp [an.2.1, ax.2.1]) (by simp [an.2.2.1, ax.2.2.1]),
      Blk.keeps (Blk.keeps hp.ref kk (by simp [foot, am.2.2.2, al.2.2.2])) kk2 (by simp [an.2.2.2, ax.2.2.2]), m2, x2, hp.ne⟩
  exact ⟨go h1.one w1', go h1.two w2', h1.bb, h1.zz⟩
theorem log_held {wB w : World} (g lb : Nat) (s : MS) (hm : MetAt MT w (some g) lb s) (hl : s.log.length ≤ 2199023255552) (hk : Keeps [] wB w) :
    Calls Try.prog 16 #[.pointer (some ⟨g, 0, none⟩)] w fun e w' => ∃ A c, e = .returned (.slice A s.log.length c) ∧ LogSlc w' A s.log ∧ Keeps [] wB w' :=
  (log_some w g lb s hm hl).mono fun e w' ⟨v, he, h1, h2⟩ => by
    obtain ⟨A, c, hv, _, h3⟩ := LogSlc.of_own h1 hl
    exact ⟨A, c, by rw [he, hv], h3, hk.trans h2 (by simp)⟩
theorem same_held {wB w : World} (A B : Option Addr) (l : List Acc) (c d : Nat) (hA : LogSlc w A l) (hB : LogSlc w B l) (hk : Keeps [] wB w) :
    Calls Try.prog 21 #[.slice A l.length c, .slice B l.length d] w fun e w' => e = .returned (.bool true) ∧ Keeps [] wB w' :=
  (same_yes w A B l c d hA hB).mono fun e w' ⟨he, h2⟩ => ⟨he, hk.trans h2 (by simp)⟩
theorem now_held {wB w : World} (q r b : Nat) (mp : Option Nat) (g : Gt) (h : GateAt w q r b mp g) (hk : Keeps [] wB w) :
    Calls Try.prog 15 #[.pointer (some ⟨q, 0, none⟩)] w fun e w' => e = .returned (.agg #[.int .i64 g.number, .int .i64 g.owner]) ∧ Keeps [] wB w' :=
  (gate_now w q r b mp g h).mono fun e w' ⟨he, h2⟩ => ⟨he, hk.trans h2 (by simp)⟩
theorem done_held {wB w : World} (g lb : Nat) (s : MS) (hm : MetAt MT w (some g) lb s) (hk : Keeps [] wB w) :
    Calls Try.prog 20 #[.pointer (some ⟨g, 0, none⟩)] w fun e w' => e = .returned (.int .i64 s.done) ∧ Keeps [] wB w' :=
  (done_some w g lb s hm).mono fun e w' ⟨he, h2⟩ => ⟨he, h2 ▸ hk⟩
end Go.Proofs.Ytdkbdlhfhmgenaa
