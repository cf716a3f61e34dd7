/- Two pairs that have nothing in common; a script's steps over them. -/
import Derived.Test.YtlpgcfgnimchaaaDoesAny
import Derived.Test.YtlpgcfgnimchaaaMeters
namespace Go.Proofs.Ytlpgcfgnimchaaa
open Go.RowKit
set_option linter.unusedVariables false

/-- All blocks of a pair. -/
def Fp (g lb gx lbx r b ry bx : Nat) : List Nat := [g, lb, gx, lbx, b, bx, r, ry]
def Sep (F G : List Nat) : Prop := ∀ x, x ∈ F → x ∉ G

theorem Pair.lt8 {w : World} {g lb gx lbx r b ry bx : Nat} {kind : Int} {l : List Int} {s : MS} (h : Pair w g lb gx lbx r b ry bx kind l s) : ∀ x, x ∈ Fp g lb gx lbx r b ry bx → x < w.heap.size := by
  have hlt := h.lt
  have h1 := h.row.blk.lt
  have h2 := h.rox.blk.lt
  intro x hx
  simp [Fp] at hx
  omega
theorem Pair.keep {w w' : World} {S : List Nat} {g lb gx lbx r b ry bx : Nat} {kind : Int} {l : List Int} {s : MS} (h : Pair w g lb gx lbx r b ry bx kind l s) (hk : Keeps S w w') (hS : Sep (Fp g lb gx lbx r b ry bx) S) : Pair w' g lb gx lbx r b ry bx kind l s := by
  have f : ∀ x, x ∈ Fp g lb gx lbx r b ry bx → x ∉ S := hS
  simp only [Fp, List.mem_cons, List.not_mem_nil, or_false] at f
  refine ⟨h.row.keeps hk (f _ (by simp)) (f _ (by simp)), h.rox.keeps hk (f _ (by simp)) (f _ (by simp)), h.met.keeps hk ?_, h.mex.keeps hk ?_, h.ne, h.nb⟩
  · intro x hx; simp [foot] at hx; rcases hx with rfl | rfl <;> exact f _ (by simp)
  · intro x hx; simp [foot] at hx; rcases hx with rfl | rfl <;> exact f _ (by simp)

/-- A pair, made since w0, whose log is no longer than n. -/
def Own (w0 w : World) (g lb gx lbx r b ry bx : Nat) (kind : Int) (len n : Nat) : Prop :=
  ∃ l s, Pair w g lb gx lbx r b ry bx kind l s ∧ l.length = len ∧ s.log.length ≤ n ∧ ∀ x, x ∈ Fp g lb gx lbx r b ry bx → w0.heap.size ≤ x

/-- One step of the first pair: the second one and what was there before are as they were. -/
theorem own_step {w0 w w' : World} {g lb gx lbx r b ry bx : Nat} {kind : Int} {len n : Nat} {l : List Int} {s : MS} (h0 : Keeps [] w0 w)
    (hp : Pair w g lb gx lbx r b ry bx kind l s) (hl : l.length = len) (hs : s.log.length ≤ n) (hb : ∀ x, x ∈ Fp g lb gx lbx r b ry bx → w0.heap.size ≤ x) (hst : Stepped g lb gx lbx r b ry bx kind l s w w')
    {g2 lb2 gx2 lbx2 r2 b2 ry2 bx2 : Nat} {kind2 : Int} {len2 n2 : Nat} (h2 : Own w0 w g2 lb2 gx2 lbx2 r2 b2 ry2 bx2 kind2 len2 n2) (hsep : Sep (Fp g lb gx lbx r b ry bx) (Fp g2 lb2 gx2 lbx2 r2 b2 ry2 bx2)) :
    ∃ lb' lbx', Own w0 w' g lb' gx lbx' r b ry bx kind len (n + 1) ∧ Own w0 w' g2 lb2 gx2 lbx2 r2 b2 ry2 bx2 kind2 len2 n2 ∧ Sep (Fp g lb' gx lbx' r b ry bx) (Fp g2 lb2 gx2 lbx2 r2 b2 ry2 bx2) ∧ Keeps [] w0 w' := by
  obtain ⟨lb', lbx', l', s', k1, k2, k3, k4, k5, k6⟩ := hst
  obtain ⟨l2, s2, p2, e2, f2, o2⟩ := h2
  have hz := h0.size
  have lt2 := p2.lt8
  have move : ∀ x, x ∈ Fp g lb' gx lbx' r b ry bx → x ∈ Fp g lb gx lbx r b ry bx ∨ w.heap.size ≤ x := by
    intro x hx
    simp only [Fp, List.mem_cons, List.not_mem_nil, or_false] at hx ⊢
    rcases hx with h | h | h | h | h | h | h | h
    · exact .inl (.inl h)
    · rcases k3 with k3 | k3
      · exact .inl (.inr (.inl (h.trans k3)))
      · exact .inr (by omega)
    · exact .inl (.inr (.inr (.inl h)))
    · rcases k4 with k4 | k4
      · exact .inl (.inr (.inr (.inr (.inl (h.trans k4)))))
      · exact .inr (by omega)
    · exact .inl (.inr (.inr (.inr (.inr (.inl h)))))
    · exact .inl (.inr (.inr (.inr (.inr (.inr (.inl h))))))
    · exact .inl (.inr (.inr (.inr (.inr (.inr (.inr (.inl h)))))))
    · exact .inl (.inr (.inr (.inr (.inr (.inr (.inr (.inr h)))))))
  have into : ∀ x, x ∈ [b, bx, g, lb, gx, lbx] → x ∈ Fp g lb gx lbx r b ry bx := by
    intro x hx
    simp only [Fp, List.mem_cons, List.not_mem_nil, or_false] at hx ⊢
    rcases hx with h | h | h | h | h | h
    · exact .inr (.inr (.inr (.inr (.inl h))))
    · exact .inr (.inr (.inr (.inr (.inr (.inl h)))))
    · exact .inl h
    · exact .inr (.inl h)
    · exact .inr (.inr (.inl h))
    · exact .inr (.inr (.inr (.inl h)))
  refine ⟨lb', lbx', ⟨l', s', k1, by omega, by omega, fun x hx => ?_⟩, ⟨l2, s2, p2.keep k2 (fun x hx hx' => hsep x (into x hx') hx), e2, f2, o2⟩, fun x hx hx' => ?_, h0.trans k2 (fun x hx => .inr (hb x (into x hx)))⟩
  · rcases move x hx with h | h
    · exact hb x h
    · omega
  · rcases move x hx with h | h
    · exact hsep x h hx'
    · have := lt2 x hx'
      omega
theorem Sep.symm {F G : List Nat} (h : Sep F G) : Sep G F := fun x hx hx' => h x hx' hx

/-- A step over a pair of two. -/
theorem own_does {w0 w : World} {g lb gx lbx r b ry bx : Nat} {kind : Int} {len n : Nat} (h0 : Keeps [] w0 w) (hp : Own w0 w g lb gx lbx r b ry bx kind len n) (hlen : 0 < len) (hn : n < 2199023255552)
    {g2 lb2 gx2 lbx2 r2 b2 ry2 bx2 : Nat} {kind2 : Int} {len2 n2 : Nat} (h2 : Own w0 w g2 lb2 gx2 lbx2 r2 b2 ry2 bx2 kind2 len2 n2) (hsep : Sep (Fp g lb gx lbx r b ry bx) (Fp g2 lb2 gx2 lbx2 r2 b2 ry2 bx2))
    (p : Opd) (hA : Ints .i64 w0 p.A p.n p.cap p.xs) (hpn : p.n ≤ 17592186043904) :
    Calls Try.prog 26 (doesArgs g gx r ry p.other p.kind p.i p.x p.old p.A p.n p.cap) w fun e w' => e = .returned (.bool true) ∧
      ∃ lb' lbx', Own w0 w' g lb' gx lbx' r b ry bx kind len (n + 1) ∧ Own w0 w' g2 lb2 gx2 lbx2 r2 b2 ry2 bx2 kind2 len2 n2 ∧ Sep (Fp g lb' gx lbx' r b ry bx) (Fp g2 lb2 gx2 lbx2 r2 b2 ry2 bx2) ∧ Keeps [] w0 w' := by
  obtain ⟨l, s, hpp, hl, hs, hb⟩ := hp
  have hbel : Below w0.heap.size w0 w := h0.below (by simp) (Nat.le_refl _)
  have hlt : ∀ ad, p.A = some ad → 0 < p.n → ad.block < w0.heap.size := by
    intro ad ha hpos
    obtain ⟨ad', e, hb', _⟩ := hA.2.2.2.2 hpos
    rw [ha] at e; injection e with e; rw [e]; exact hb'
  have fb : w0.heap.size ≤ b ∧ w0.heap.size ≤ bx := ⟨hb _ (by simp [Fp]), hb _ (by simp [Fp])⟩
  refine (does_any hpp (by omega) (by omega) p.other p.kind p.i p.x p.old p.A p.n p.cap p.xs (hA.below (Nat.le_refl _) hbel) (fun hpos ad ha => by have := hlt ad ha hpos; omega) (by omega)).mono fun e w' ⟨he, hst⟩ => ⟨he, ?_⟩
  exact own_step h0 hpp hl hs hb hst h2 hsep
end Go.Proofs.Ytlpgcfgnimchaaa
