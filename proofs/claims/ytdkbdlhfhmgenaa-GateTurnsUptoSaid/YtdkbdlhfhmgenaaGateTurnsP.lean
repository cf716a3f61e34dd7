/- A gate of a meter, call by call. -/
import Derived.Test.YtdkbdlhfhmgenaaGateAwake
namespace Go.Proofs.Ytdkbdlhfhmgenaa
open Go.RowKit
set_option linter.unusedVariables false
/-- A gate of the meter in block m, both made since w0; c accesses in k steps. -/
structure Turn (w0 w : World) (m lb q r b : Nat) (g : Gt) (s : MS) (k c : Nat) : Prop where
  gate : GateAt w q r b (some m) g
  met : MetAt MT w (some m) lb s
  keep : Keeps [] w0 w
  lob : w0.heap.size ≤ b
  lom : w0.heap.size ≤ m
  lol : w0.heap.size ≤ lb
  len : s.log.length = c
  ck : c ≤ k
  kk : k ≤ 1048576
  n0 : 0 ≤ g.number
  n1 : g.number ≤ k
  par : (g.number % 2 = 1 ∧ 1 ≤ g.owner ∧ g.owner ≤ 8) ∨ (g.number % 2 = 0 ∧ g.owner = 0)
def TInv (w0 w : World) (m q r b : Nat) (g : Gt) (k c : Nat) : Prop := ∃ lb s, Turn w0 w m lb q r b g s k c
theorem TInv.keeps {w0 w w' : World} {m q r b : Nat} {g : Gt} {k c : Nat} (h : TInv w0 w m q r b g k c) (hk : Keeps [] w w') : TInv w0 w' m q r b g k c := by
  obtain ⟨lb, s, h⟩ := h
  exact ⟨lb, s, h.gate.keeps hk (by simp) (by simp) (by simp), h.met.keeps hk (by simp), h.keep.trans hk (by simp), h.lob, h.lom, h.lol, h.len, h.ck, h.kk, h.n0, h.n1, h.par⟩
theorem TInv.kept {w0 w : World} {m q r b : Nat} {g : Gt} {k c : Nat} (h : TInv w0 w m q r b g k c) : Keeps [] w0 w := by obtain ⟨lb, s, h⟩ := h; exact h.keep
theorem TInv.facts {w0 w : World} {m q r b : Nat} {g : Gt} {k c : Nat} (h : TInv w0 w m q r b g k c) : 0 ≤ g.number ∧ g.number ≤ k ∧ k ≤ 1048576 ∧ c ≤ k ∧ ((g.number % 2 = 1 ∧ 1 ≤ g.owner ∧ g.owner ≤ 8) ∨ (g.number % 2 = 0 ∧ g.owner = 0)) := by
  obtain ⟨lb, s, h⟩ := h; exact ⟨h.n0, h.n1, h.kk, h.ck, h.par⟩
theorem TInv.skip {w0 w : World} {m q r b : Nat} {g : Gt} {k c : Nat} (h : TInv w0 w m q r b g k c) (hk : k + 1 ≤ 1048576) : TInv w0 w m q r b g (k + 1) c := by
  obtain ⟨lb, s, h⟩ := h
  exact ⟨lb, s, h.gate, h.met, h.keep, h.lob, h.lom, h.lol, h.len, by have := h.ck; omega, hk, h.n0, by have := h.n1; omega, h.par⟩
theorem Turn.left {w0 w w' : World} {m lb q r b : Nat} {g g' : Gt} {s s' : MS} {k c : Nat} (h : Turn w0 w m lb q r b g s k c) (hl : GLeft q r b (some m) g' lb s' w w') (hk : k + 1 ≤ 1048576) (hs : s'.log.length = s.log.length + 1)
    (n0 : 0 ≤ g'.number) (n1 : g'.number ≤ (k + 1 : Nat)) (par : (g'.number % 2 = 1 ∧ 1 ≤ g'.owner ∧ g'.owner ≤ 8) ∨ (g'.number % 2 = 0 ∧ g'.owner = 0)) : TInv w0 w' m q r b g' (k + 1) (c + 1) := by
  obtain ⟨h1, lb', h2, h3, h4⟩ := hl
  have hz := h.keep.size
  refine ⟨lb', s', h1, h2, h.keep.trans h3 ?_, h.lob, h.lom, ?_, by rw [hs, h.len], by have := h.ck; omega, hk, n0, n1, par⟩
  · intro x hx
    simp only [foot, List.mem_cons, List.not_mem_nil, or_false] at hx
    have := h.lob
    have := h.lom
    have := h.lol
    exact .inr (by omega)
  · have := h.lol
    omega
theorem note_one (s : MS) (a p o : Int) (y : Bool) : (s.note a p o y).log.length = s.log.length + 1 := by
  show (s.log ++ [_]).length = _
  simp
section
variable {w0 w : World} {m q r b : Nat} {g : Gt} {k c : Nat} (h : TInv w0 w m q r b g k c) (hk : k + 1 ≤ 1048576)
include h hk
theorem turn_take_ok (t : Int) (t1 : 1 ≤ t) (t2 : t ≤ 8) (ho : g.owner = 0) :
    Calls Try.prog 14 #[.pointer (some ⟨q, 0, none⟩), .int .i64 t] w fun e w' => e = .returned (.tuple #[.int .i64 (g.number + 1), .int .i64 0]) ∧ TInv w0 w' m q r b ⟨g.number + 1, t⟩ (k + 1) (c + 1) := by
  obtain ⟨lb, s, h⟩ := h
  have p := h.par
  have n0 := h.n0
  have n1 := h.n1
  have hl := h.len
  have hck := h.ck
  exact (take_ok w q r b (some m) g h.gate lb s h.met (fun _ => by omega) t t1 t2 n0 (by omega) (by omega)).mono fun e w' ⟨he, hL⟩ => ⟨he, h.left hL hk (note_one _ _ _ _ _) (by simp only; omega) (by simp only; omega) (.inl (by simp only; omega))⟩
theorem turn_take_held (t : Int) (t1 : 1 ≤ t) (t2 : t ≤ 8) (ho : g.owner ≠ 0) :
    Calls Try.prog 14 #[.pointer (some ⟨q, 0, none⟩), .int .i64 t] w fun e w' => e = .returned (.tuple #[.int .i64 0, .int .i64 5]) ∧ TInv w0 w' m q r b g (k + 1) (c + 1) := by
  obtain ⟨lb, s, h⟩ := h
  have p := h.par
  have n0 := h.n0
  have n1 := h.n1
  have hl := h.len
  have hck := h.ck
  exact (take_held w q r b (some m) g h.gate lb s h.met (fun _ => by omega) t t1 t2 n0 (by omega) (by omega)).mono fun e w' ⟨he, hL⟩ => ⟨he, h.left hL hk (note_one _ _ _ _ _) n0 (by omega) p⟩
theorem turn_take_bad (t : Int) (ht : t < 1 ∨ 8 < t) :
    Calls Try.prog 14 #[.pointer (some ⟨q, 0, none⟩), .int .i64 t] w fun e w' => e = .returned (.tuple #[.int .i64 0, .int .i64 1]) ∧ TInv w0 w' m q r b g (k + 1) c :=
  (take_bad w q t ht).mono fun e w' ⟨he, hw⟩ => ⟨he, hw ▸ h.skip hk⟩
theorem turn_give_ok (t : Int) (t1 : 1 ≤ t) (t2 : t ≤ 8) (ho : g.owner = t) :
    Calls Try.prog 13 #[.pointer (some ⟨q, 0, none⟩), .int .i64 t] w fun e w' => e = .returned (.int .i64 0) ∧ TInv w0 w' m q r b ⟨g.number + 1, 0⟩ (k + 1) (c + 1) := by
  obtain ⟨lb, s, h⟩ := h
  have p := h.par
  have n0 := h.n0
  have n1 := h.n1
  have hl := h.len
  have hck := h.ck
  exact (give_ok w q r b (some m) g h.gate lb s h.met (fun _ => by omega) t t1 t2 n0 (by omega) ho).mono fun e w' ⟨he, hL⟩ => ⟨he, h.left hL hk (note_one _ _ _ _ _) (by simp only; omega) (by simp only; omega) (.inr ⟨by simp only; omega, rfl⟩)⟩
theorem turn_give_not (t : Int) (t1 : 1 ≤ t) (t2 : t ≤ 8) (ho : g.owner ≠ t) :
    Calls Try.prog 13 #[.pointer (some ⟨q, 0, none⟩), .int .i64 t] w fun e w' => e = .returned (.int .i64 4) ∧ TInv w0 w' m q r b g (k + 1) (c + 1) := by
  obtain ⟨lb, s, h⟩ := h
  have p := h.par
  have n0 := h.n0
  have n1 := h.n1
  have hl := h.len
  have hck := h.ck
  exact (give_not w q r b (some m) g h.gate lb s h.met (fun _ => by omega) t t1 t2 n0 (by omega) ho).mono fun e w' ⟨he, hL⟩ => ⟨he, h.left hL hk (note_one _ _ _ _ _) n0 (by omega) p⟩
theorem turn_give_bad (t : Int) (ht : t < 1 ∨ 8 < t) :
    Calls Try.prog 13 #[.pointer (some ⟨q, 0, none⟩), .int .i64 t] w fun e w' => e = .returned (.int .i64 1) ∧ TInv w0 w' m q r b g (k + 1) c :=
  (give_bad w q t ht).mono fun e w' ⟨he, hw⟩ => ⟨he, hw ▸ h.skip hk⟩
end
theorem turn_now {w0 w : World} {m q r b : Nat} {g : Gt} {k c : Nat} (h : TInv w0 w m q r b g k c) :
    Calls Try.prog 15 #[.pointer (some ⟨q, 0, none⟩)] w fun e w' => e = .returned (.agg #[.int .i64 g.number, .int .i64 g.owner]) ∧ TInv w0 w' m q r b g k c := by
  obtain ⟨lb, s, h1⟩ := id h
  exact (gate_now w q r b (some m) g h1.gate).mono fun e w' ⟨he, hk⟩ => ⟨he, h.keeps hk⟩
theorem turn_log {w0 w : World} {m q r b : Nat} {g : Gt} {k c : Nat} (h : TInv w0 w m q r b g k c) :
    Calls Try.prog 16 #[.pointer (some ⟨m, 0, none⟩)] w fun e w' => ∃ A cp, e = .returned (.slice A c cp) ∧ Keeps [] w0 w' := by
  obtain ⟨lb, s, h1⟩ := h
  have hl := h1.len
  have hck := h1.ck
  have hkk := h1.kk
  exact (log_some w m lb s h1.met (by omega)).mono fun e w' ⟨v, he, ho, hk⟩ => by
    rcases ho.2 with ⟨rfl, h0⟩ | ⟨g', cap, cur, rfl, _⟩
    · exact ⟨none, 0, by rw [he, ← hl, h0], h1.keep.trans hk (by simp)⟩
    · exact ⟨_, _, by rw [he, hl], h1.keep.trans hk (by simp)⟩
theorem turn_new (w0 : World) {w : World} {m : Nat} (hm : MetAt MT w (some m) m MS.zero) (hk : Keeps [] w0 w) (hlo : w0.heap.size ≤ m) :
    Calls Try.prog 12 #[.pointer (some ⟨m, 0, none⟩)] w fun e w' => ∃ q r b, e = .returned (.pointer (some ⟨q, 0, none⟩)) ∧ TInv w0 w' m q r b Gt.zero 0 0 :=
  (gate_new w (some m)).mono fun e w' ⟨he, hg, hk2⟩ => ⟨_, _, _, he, m, MS.zero, hg, hm.keeps hk2 (by simp), hk.trans hk2 (by simp), hk.size, hlo, hlo, rfl, Nat.le_refl _, by decide, by decide, by decide, .inr ⟨by decide, rfl⟩⟩
end Go.Proofs.Ytdkbdlhfhmgenaa
