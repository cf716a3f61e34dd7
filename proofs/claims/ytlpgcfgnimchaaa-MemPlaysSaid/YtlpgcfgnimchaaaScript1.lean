/- A script of quashlaw01: what its steps hold, and how it is opened. -/
import Derived.Test.YtlpgcfgnimchaaaOpen
import Derived.Test.YtlpgcfgnimchaaaProg
namespace Go.Proofs.Ytlpgcfgnimchaaa
open Go.ChangeShapes Go.WideShapes Go.Deep Go.RowKit
set_option linter.unusedVariables false

/-- A step. -/
structure Opd where
  other : Bool
  kind : Int
  i : Int
  x : Int
  old : Int
  A : Option Addr
  n : Nat
  cap : Nat
  xs : List Int
instance : Inhabited Opd := ⟨⟨false, 0, 0, 0, 0, none, 0, 0, []⟩⟩

/-- The step in the block b from the offset o on. -/
structure OpAt (w : World) (b o : Nat) (p : Opd) : Prop where
  c0 : w.cell? ⟨b, o, none⟩ = some (.bool p.other)
  c1 : w.cell? ⟨b, o + 1, none⟩ = some (.int .i64 p.kind)
  c2 : w.cell? ⟨b, o + 2, none⟩ = some (.int .i64 p.i)
  c3 : w.cell? ⟨b, o + 3, none⟩ = some (.int .i64 p.x)
  c4 : w.cell? ⟨b, o + 4, none⟩ = some (.int .i64 p.old)
  c5 : w.cell? ⟨b, o + 5, none⟩ = some (.slice p.A p.n p.cap)
  ints : Ints .i64 w p.A p.n p.cap p.xs
  fits : p.n ≤ 17592186043904

/-- A slice of steps. -/
def Script (w : World) (A : Option Addr) (n cap : Nat) (ops : List Opd) : Prop :=
  ops.length = n ∧ n ≤ cap ∧ n ≤ 2199023255488 ∧ cap ≤ maxLen ∧ (0 < n → ∃ b off, A = some ⟨b, off, none⟩ ∧ b < w.heap.size ∧ ∀ i p, ops[i]? = some p → OpAt w b (off + i * 6) p)

theorem OpAt.below {w w' : World} {b o : Nat} {p : Opd} (h : OpAt w b o p) (hb : b < w.heap.size) (hw : Below w.heap.size w w') : OpAt w' b o p := by
  obtain ⟨h0, h1, h2, h3, h4, h5, h6, h7⟩ := h
  exact ⟨(hw.cell hb).trans h0, (hw.cell hb).trans h1, (hw.cell hb).trans h2, (hw.cell hb).trans h3, (hw.cell hb).trans h4, (hw.cell hb).trans h5, h6.below (Nat.le_refl _) hw, h7⟩

theorem Script.at_ {w : World} {A : Option Addr} {n cap : Nat} {ops : List Opd} (h : Script w A n cap ops) {k : Nat} (hk : k < n) :
    ∃ b off p, A = some ⟨b, off, none⟩ ∧ ops[k]? = some p ∧ ∀ w', Below w.heap.size w w' → OpAt w' b (off + k * 6) p := by
  obtain ⟨hl, _, _, _, h⟩ := h
  obtain ⟨b, off, hA, hb, hc⟩ := h (by omega)
  have hx : ops[k]? = some (ops[k]'(by omega)) := List.getElem?_eq_getElem (by omega)
  exact ⟨b, off, _, hA, hx, fun w' hw => (hc k _ hx).below hb hw⟩

section
variable {H : Type} {enc : TypeId × Value → H} {w : World} {base : Nat} {spare : Nat → Bool} {held : Bool}
theorem add_at {w : World} {a : Addr} {k : Nat} {v : Value} (h : w.cell? (a.add k) = some v) : w.cell? ⟨a.block, a.off + k, none⟩ = some v := by
  have hs := World.cell?_spot h
  obtain ⟨b, o, s⟩ := a
  by_cases hk : k = 0
  · subst hk
    simp [Addr.add] at hs
    subst hs
    simpa [Addr.add] using h
  · simpa [Addr.add, hk] using h
theorem addr_none {w : World} {a : Addr} {v : Value} (h : w.cell? (a.add 0) = some v) : a = ⟨a.block, a.off, none⟩ := by
  have hs := World.cell?_spot h
  obtain ⟨b, o, s⟩ := a
  simp [Addr.add] at hs
  simp [hs]

theorem script_open {fuel : Nat} {A : Option Addr} {n cap : Nat} {x : DataW H × List MemPlace} (h : DataW.trod enc Try.prog w base spare held fuel 41 [.slice A n cap] = some x)
    (hsz : ∀ q ∈ x.1.weights Try.prog 41, q ≤ reachBytes) : ∃ ops, Script w A n cap ops := by
  rcases open_rows Try.underlying41 Try.underlying49 (by kernel_rfl) (by kernel_rfl) h with hcs | ⟨a, len, c, hcs, hl, hm, ⟨r, hr⟩, hf⟩
  · simp at hcs
    obtain ⟨rfl, rfl, rfl⟩ := hcs
    exact ⟨[], rfl, Nat.le_refl _, by omega, by decide, fun h => absurd h (by omega)⟩
  · simp at hcs
    obtain ⟨rfl, rfl, rfl⟩ := hcs
    have hbn : n ≤ 2199023255488 := by
      have h1 := hsz _ hr
      have h2 : Try.prog.bytesOf 49 = 64 := by kernel_rfl
      rw [h2] at h1
      unfold reachBytes at h1
      omega
    have one : ∀ i, i < n → ∃ p : Opd, (i = 0 → a = ⟨a.block, a.off, none⟩) ∧ a.block < w.heap.size ∧ OpAt w a.block (a.off + i * 6) p := by
      intro i hi
      obtain ⟨m, hm⟩ := hf i hi
      obtain ⟨v0, y0, k0, t0, s0⟩ := hm 0 _ rfl
      obtain ⟨v1, y1, k1, t1, s1⟩ := hm 1 _ rfl
      obtain ⟨v2, y2, k2, t2, s2⟩ := hm 2 _ rfl
      obtain ⟨v3, y3, k3, t3, s3⟩ := hm 3 _ rfl
      obtain ⟨v4, y4, k4, t4, s4⟩ := hm 4 _ rfl
      obtain ⟨v5, y5, k5, t5, s5⟩ := hm 5 _ rfl
      obtain ⟨x0, e0, _⟩ := DataW.trod_bool Try.underlying4 t0
      obtain ⟨x1, e1, _, _⟩ := DataW.trod_int Try.underlying3 t1
      obtain ⟨x2, e2, _, _⟩ := DataW.trod_int Try.underlying3 t2
      obtain ⟨x3, e3, _, _⟩ := DataW.trod_int Try.underlying2 t3
      obtain ⟨x4, e4, _, _⟩ := DataW.trod_int Try.underlying2 t4
      obtain ⟨A5, n5, c5, e5⟩ : ∃ A5 n5 c5, v5 = .slice A5 n5 c5 := by
        rcases open_ints Try.underlying47 Try.underlying2 (by kernel_rfl) t5 with ⟨e, _⟩ | ⟨a5, l5, c5, _, e, _⟩
        · exact ⟨_, _, _, by simpa using e⟩
        · exact ⟨_, _, _, by simpa using e⟩
      subst e5
      obtain ⟨⟨xs, hx⟩, hxn⟩ := ints_open Try.underlying47 Try.underlying2 (by kernel_rfl) t5
      have hn5 : n5 ≤ 17592186043904 := by
        rcases hxn with h0 | ⟨r5, hr5⟩
        · omega
        · have h1 := hsz _ (s5 _ hr5)
          have h2 : Try.prog.bytesOf 2 = 8 := by kernel_rfl
          rw [h2] at h1
          unfold reachBytes at h1
          omega
      simp at e0 e1 e2 e3 e4
      subst e0 e1 e2 e3 e4
      refine ⟨⟨x0, x1, x2, x3, x4, A5, n5, c5, xs⟩, fun hi0 => ?_, ?_, ?_⟩
      · subst hi0; exact addr_none k0
      · have := World.block_lt_of_cell? w _ k0
        rwa [block_add] at this
      · exact ⟨add_at k0, add_at k1, add_at k2, add_at k3, add_at k4, add_at k5, hx, hn5⟩
    obtain ⟨F, hF⟩ := choose_lt one
    refine ⟨(List.range n).map F, by simp, hl, hbn, hm, fun hn => ⟨a.block, a.off, ?_, (hF 0 hn).2.1, ?_⟩⟩
    · exact congrArg some ((hF 0 hn).1 rfl)
    · intro i p hp
      rw [List.getElem?_map] at hp
      by_cases hi : i < n
      · rw [List.getElem?_range hi] at hp
        simp at hp
        subst hp
        exact (hF i hi).2.2
      · rw [List.getElem?_eq_none (by simp; omega)] at hp
        cases hp
end
end Go.Proofs.Ytlpgcfgnimchaaa
