/- Two rows of one meter, and the document's: a script's steps over them. -/
import Derived.Test.YtlpgcfgnimchaaaPairs
namespace Go.Proofs.Ytlpgcfgnimchaaa
open Go.RowKit
set_option linter.unusedVariables false

/-- Two pairs of one meter. -/
structure Duo (w : World) (g lb gx lbx : Nat) (r b ry bx : Nat) (kind : Int) (l : List Int) (r2 b2 ry2 bx2 : Nat) (kind2 : Int) (l2 : List Int) (s : MS) : Prop where
  one : Pair w g lb gx lbx r b ry bx kind l s
  two : Pair w g lb gx lbx r2 b2 ry2 bx2 kind2 l2 s
  bb : b ≠ b2
  bx_ : b ≠ bx2
  xb : bx ≠ b2
  xx : bx ≠ bx2
theorem Duo.symm {w : World} {g lb gx lbx r b ry bx : Nat} {kind : Int} {l : List Int} {r2 b2 ry2 bx2 : Nat} {kind2 : Int} {l2 : List Int} {s : MS} (h : Duo w g lb gx lbx r b ry bx kind l r2 b2 ry2 bx2 kind2 l2 s) :
    Duo w g lb gx lbx r2 b2 ry2 bx2 kind2 l2 r b ry bx kind l s := ⟨h.two, h.one, Ne.symm h.bb, Ne.symm h.xb, Ne.symm h.bx_, Ne.symm h.xx⟩
theorem Duo.keeps {w w' : World} {g lb gx lbx r b ry bx : Nat} {kind : Int} {l : List Int} {r2 b2 ry2 bx2 : Nat} {kind2 : Int} {l2 : List Int} {s : MS} (h : Duo w g lb gx lbx r b ry bx kind l r2 b2 ry2 bx2 kind2 l2 s) (hk : Keeps [] w w') :
    Duo w' g lb gx lbx r b ry bx kind l r2 b2 ry2 bx2 kind2 l2 s := ⟨h.one.keep hk (fun _ _ => by simp), h.two.keep hk (fun _ _ => by simp), h.bb, h.bx_, h.xb, h.xx⟩
/-- A step of the first: the second has the new meter. -/
theorem Duo.step {w w' : World} {g lb gx lbx r b ry bx : Nat} {kind : Int} {l : List Int} {r2 b2 ry2 bx2 : Nat} {kind2 : Int} {l2 : List Int} {s : MS} (h : Duo w g lb gx lbx r b ry bx kind l r2 b2 ry2 bx2 kind2 l2 s)
    (st : Stepped g lb gx lbx r b ry bx kind l s w w') :
    ∃ lb' lbx' l' s', Duo w' g lb' gx lbx' r b ry bx kind l' r2 b2 ry2 bx2 kind2 l2 s' ∧ Keeps [b, bx, g, lb, gx, lbx] w w' ∧ (lb' = lb ∨ w.heap.size ≤ lb') ∧ (lbx' = lbx ∨ w.heap.size ≤ lbx') ∧ l'.length = l.length ∧ s'.log.length ≤ s.log.length + 1 := by
  obtain ⟨lb', lbx', l', s', p, k, q1, q2, q3, q4⟩ := st
  refine ⟨lb', lbx', l', s', ⟨p, ?_, h.bb, h.bx_, h.xb, h.xx⟩, k, q1, q2, q3, q4⟩
  have f1 := h.two.row.foot (T := MT) (R := RowI.R) ⟨by decide, by decide, by decide, by decide, by decide⟩ h.one.met
  have f2 := h.two.row.foot (T := XT) (R := RowI.R) ⟨by decide, by decide, by decide, by decide, by decide⟩ h.one.mex
  have f3 := h.two.rox.foot (T := MT) (R := RefI.R) ⟨by decide, by decide, by decide, by decide, by decide⟩ h.one.met
  have f4 := h.two.rox.foot (T := XT) (R := RefI.R) ⟨by decide, by decide, by decide, by decide, by decide⟩ h.one.mex
  have e1 : r2 ≠ b := h.two.row.blk.ne_ h.one.row.row (by decide)
  have e2 : r2 ≠ bx := h.two.row.blk.ne_ h.one.rox.row (by decide)
  have e3 : ry2 ≠ b := h.two.rox.blk.ne_ h.one.row.row (by decide)
  have e4 : ry2 ≠ bx := h.two.rox.blk.ne_ h.one.rox.row (by decide)
  simp only [foot, List.mem_cons, List.not_mem_nil, or_false, not_or] at f1 f2 f3 f4
  exact ⟨h.two.row.keeps k (by simp [e1, e2, f1, f2]) (by simp [Ne.symm h.bb, Ne.symm h.xb, f1, f2]), h.two.rox.keeps k (by simp [e3, e4, f3, f4]) (by simp [Ne.symm h.bx_, Ne.symm h.xx, f3, f4]), p.met, p.mex, p.ne, h.two.nb⟩

/-- Two pairs of one meter, made since w0, whose log is no longer than n. -/
def Own2 (w0 w : World) (g gx r b ry bx : Nat) (kind : Int) (len : Nat) (r2 b2 ry2 bx2 : Nat) (kind2 : Int) (len2 : Nat) (n : Nat) : Prop :=
  ∃ lb lbx l l2 s, Duo w g lb gx lbx r b ry bx kind l r2 b2 ry2 bx2 kind2 l2 s ∧ l.length = len ∧ l2.length = len2 ∧ s.log.length ≤ n ∧ (∀ x, x ∈ [b, bx, b2, bx2, g, lb, gx, lbx] → w0.heap.size ≤ x) ∧ Keeps [] w0 w
theorem Own2.symm {w0 w : World} {g gx r b ry bx : Nat} {kind : Int} {len r2 b2 ry2 bx2 : Nat} {kind2 : Int} {len2 n : Nat} (h : Own2 w0 w g gx r b ry bx kind len r2 b2 ry2 bx2 kind2 len2 n) : Own2 w0 w g gx r2 b2 ry2 bx2 kind2 len2 r b ry bx kind len n := by
  obtain ⟨lb, lbx, l, l2, s, h1, h2, h3, h4, h5, h6⟩ := h
  refine ⟨lb, lbx, l2, l, s, h1.symm, h3, h2, h4, fun x hx => h5 x ?_, h6⟩
  simp only [List.mem_cons, List.not_mem_nil, or_false] at hx ⊢
  omega
theorem Own2.kept {w0 w : World} {g gx r b ry bx : Nat} {kind : Int} {len r2 b2 ry2 bx2 : Nat} {kind2 : Int} {len2 n : Nat} (h : Own2 w0 w g gx r b ry bx kind len r2 b2 ry2 bx2 kind2 len2 n) : Keeps [] w0 w := by
  obtain ⟨lb, lbx, l, l2, s, h1, h2, h3, h4, h5, h6⟩ := h
  exact h6
theorem Own2.keeps {w0 w w' : World} {g gx r b ry bx : Nat} {kind : Int} {len r2 b2 ry2 bx2 : Nat} {kind2 : Int} {len2 n : Nat} (h : Own2 w0 w g gx r b ry bx kind len r2 b2 ry2 bx2 kind2 len2 n) (hk : Keeps [] w w') : Own2 w0 w' g gx r b ry bx kind len r2 b2 ry2 bx2 kind2 len2 n := by
  obtain ⟨lb, lbx, l, l2, s, h1, h2, h3, h4, h5, h6⟩ := h
  exact ⟨lb, lbx, l, l2, s, h1.keeps hk, h2, h3, h4, h5, h6.trans hk (by simp)⟩
/-- A step over the first. -/
theorem Own2.does {w0 w : World} {g gx r b ry bx : Nat} {kind : Int} {len r2 b2 ry2 bx2 : Nat} {kind2 : Int} {len2 n : Nat} (h : Own2 w0 w g gx r b ry bx kind len r2 b2 ry2 bx2 kind2 len2 n) (hlen : 0 < len) (hn : n < 2199023255552)
    (p : Opd) (hA : Ints .i64 w0 p.A p.n p.cap p.xs) (hpn : p.n ≤ 17592186043904) :
    Calls Try.prog 26 (doesArgs g gx r ry p.other p.kind p.i p.x p.old p.A p.n p.cap) w fun e w' => e = .returned (.bool true) ∧ Own2 w0 w' g gx r b ry bx kind len r2 b2 ry2 bx2 kind2 len2 (n + 1) := by
  obtain ⟨lb, lbx, l, l2, s, hd, hl, hl2, hs, hb, h0⟩ := h
  have hbel : Below w0.heap.size w0 w := h0.below (by simp) (Nat.le_refl _)
  have hlt : ∀ ad, p.A = some ad → 0 < p.n → ad.block < w0.heap.size := by
    intro ad ha hpos
    obtain ⟨ad', e, hb', _⟩ := hA.2.2.2.2 hpos
    rw [ha] at e; injection e with e; rw [e]; exact hb'
  have fb : w0.heap.size ≤ b ∧ w0.heap.size ≤ bx := ⟨hb _ (by simp), hb _ (by simp)⟩
  refine (does_any hd.one (by omega) (by omega) p.other p.kind p.i p.x p.old p.A p.n p.cap p.xs (hA.below (Nat.le_refl _) hbel) (fun hpos ad ha => by have := hlt ad ha hpos; omega) (by omega)).mono fun e w' ⟨he, hst⟩ => ⟨he, ?_⟩
  obtain ⟨lb', lbx', l', s', k1, k2, k3, k4, k5, k6⟩ := hd.step hst
  have hz := h0.size
  refine ⟨lb', lbx', l', l2, s', k1, by omega, hl2, by omega, fun x hx => ?_, h0.trans k2 (fun x hx => .inr (hb x ?_))⟩
  · simp only [List.mem_cons, List.not_mem_nil, or_false] at hx
    have q := fun y (hy : y = b ∨ y = bx ∨ y = b2 ∨ y = bx2 ∨ y = g ∨ y = lb ∨ y = gx ∨ y = lbx) => hb y (by simpa using hy)
    rcases hx with h | h | h | h | h | h | h | h
    · exact q x (by omega)
    · exact q x (by omega)
    · exact q x (by omega)
    · exact q x (by omega)
    · exact q x (by omega)
    · rcases k3 with k3 | k3
      · exact q x (by omega)
      · omega
    · exact q x (by omega)
    · rcases k4 with k4 | k4
      · exact q x (by omega)
      · omega
  · simp only [List.mem_cons, List.not_mem_nil, or_false] at hx ⊢
    omega
theorem may_yes (w : World) (n : Int) (h1 : 1 ≤ n) (h2 : n ≤ 4096) : Calls Try.prog 29 #[.int .i64 n] w fun e w' => e = .returned (.bool true) ∧ w = w' := by
  go_enter Try.func29, Try.ntmps29
  go_wp2
  go_ret
  exact ⟨rfl, rfl⟩
theorem may_no (w : World) (n : Int) (h : n < 1 ∨ 4096 < n) : Calls Try.prog 29 #[.int .i64 n] w fun e w' => e = .returned (.bool false) ∧ w = w' := by
  rcases h with h | h
  · have h1 : ¬ (1 ≤ n) := by omega
    go_enter Try.func29, Try.ntmps29
    go_wp2
    go_ret
    exact ⟨rfl, rfl⟩
  · have h1 : 1 ≤ n := by omega
    have h2 : ¬ (n ≤ 4096) := by omega
    go_enter Try.func29, Try.ntmps29
    go_wp2
    go_ret
    exact ⟨rfl, rfl⟩
end Go.Proofs.Ytlpgcfgnimchaaa
