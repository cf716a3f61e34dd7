/- A slice of quashlaw11.Op that came in, all of it: what its elements hold, how it is opened. -/
import Derived.Test.YtdhgiohjdhcedaaGreatOpenS
import Derived.Test.YtdhgiohjdhcedaaGreatReadH
namespace Go.Proofs.YtdhgiohjdhcedaaGreat
open Go.ChangeShapes Go.WideShapes Go.Deep Go.RowKit
set_option linter.unusedVariables false
set_option linter.unusedSimpArgs false
structure ElStep where
  kind : Int
  m : Int
  i : Int
  n : Int
  x : Int
  f : Fr
instance : Inhabited ElStep := ⟨⟨0, 0, 0, 0, 0, ⟨0, 0, 0, ⟨0, 0⟩⟩⟩⟩
/-- The element in the block b from the offset o on. -/
structure ElStep.At (w : World) (b o : Nat) (p : ElStep) : Prop where
  c0 : w.cell? ⟨b, o, none⟩ = some (.int .i64 p.kind)
  c1 : w.cell? ⟨b, o + 1, none⟩ = some (.int .i64 p.m)
  c2 : w.cell? ⟨b, o + 2, none⟩ = some (.int .i64 p.i)
  c3 : w.cell? ⟨b, o + 3, none⟩ = some (.int .i64 p.n)
  c4 : w.cell? ⟨b, o + 4, none⟩ = some (.int .i64 p.x)
  c5 : w.cell? ⟨b, o + 5, none⟩ = some (.int .i64 p.f.slot)
  c6 : w.cell? ⟨b, o + 6, none⟩ = some (.int .i64 p.f.gen)
  c7 : w.cell? ⟨b, o + 7, none⟩ = some (.int .i64 p.f.seen)
  c8 : w.cell? ⟨b, o + 8, none⟩ = some (.int .u64 (p.f.sig.a : Int))
  c9 : w.cell? ⟨b, o + 9, none⟩ = some (.int .u64 (p.f.sig.b : Int))
  ok : p.f.sig.ok
/-- A slice of them. -/
def LstStep (w : World) (A : Option Addr) (n cap : Nat) (l : List ElStep) : Prop :=
  l.length = n ∧ n ≤ cap ∧ n ≤ 1048576 ∧ cap ≤ maxLen ∧ (0 < n → ∃ b off, A = some ⟨b, off, none⟩ ∧ b < w.heap.size ∧ ∀ i p, l[i]? = some p → ElStep.At w b (off + i * 10) p)
theorem ElStep.At.keeps {w w' : World} {b o : Nat} {p : ElStep} (h : ElStep.At w b o p) (hb : b < w.heap.size) (hk : Keeps [] w w') : ElStep.At w' b o p := by
  have hc : ∀ o, w'.cell? ⟨b, o, none⟩ = w.cell? ⟨b, o, none⟩ := fun o => World.cell?_of_block (hk.block b hb (by simp))
  exact ⟨(hc _).trans h.c0, (hc _).trans h.c1, (hc _).trans h.c2, (hc _).trans h.c3, (hc _).trans h.c4, (hc _).trans h.c5, (hc _).trans h.c6, (hc _).trans h.c7, (hc _).trans h.c8, (hc _).trans h.c9, h.ok⟩
theorem LstStep.at_ {w : World} {A : Option Addr} {n cap : Nat} {l : List ElStep} (h : LstStep w A n cap l) {k : Nat} (hk : k < n) :
    ∃ b off p, A = some ⟨b, off, none⟩ ∧ l[k]? = some p ∧ ∀ w', Keeps [] w w' → ElStep.At w' b (off + k * 10) p := by
  obtain ⟨hl, _, _, _, h⟩ := h
  obtain ⟨b, off, hA, hb, hc⟩ := h (by omega)
  have hx : l[k]? = some (l[k]'(by omega)) := List.getElem?_eq_getElem (by omega)
  exact ⟨b, off, _, hA, hx, fun w' hw => (hc k _ hx).keeps hb hw⟩
section
variable {H : Type} {enc : TypeId × Value → H} {w : World} {base : Nat} {spare : Nat → Bool} {held : Bool}
theorem elStep_open {n : Nat} {cs : List Value} {y : DataW H × List MemPlace} (hl : cs.length = 10) (h : DataW.trod enc Tryz.prog w base spare held n 173 cs = some y) : ∃ p : ElStep, cs = [.int .i64 p.kind, .int .i64 p.m, .int .i64 p.i, .int .i64 p.n, .int .i64 p.x, .int .i64 p.f.slot, .int .i64 p.f.gen, .int .i64 p.f.seen, .int .u64 (p.f.sig.a : Int), .int .u64 (p.f.sig.b : Int)] ∧ p.f.sig.ok := by
  obtain ⟨c0, c1, c2, c3, c4, c5, c6, c7, c8, c9, rfl⟩ : ∃ c0 c1 c2 c3 c4 c5 c6 c7 c8 c9, cs = [c0, c1, c2, c3, c4, c5, c6, c7, c8, c9] := by
    match cs, hl with
    | [c0, c1, c2, c3, c4, c5, c6, c7, c8, c9], _ => exact ⟨_, _, _, _, _, _, _, _, _, _, rfl⟩
  obtain ⟨n0, y0, t0⟩ := trod_field Tryz.underlying173 h 0 _ rfl 1 (by kernel_rfl) [c0] rfl
  obtain ⟨x0, e0, _⟩ := DataW.trod_int Tryz.underlying3 t0
  simp at e0
  obtain ⟨n1, y1, t1⟩ := trod_field Tryz.underlying173 h 1 _ rfl 1 (by kernel_rfl) [c1] rfl
  obtain ⟨x1, e1, _⟩ := DataW.trod_int Tryz.underlying3 t1
  simp at e1
  obtain ⟨n2, y2, t2⟩ := trod_field Tryz.underlying173 h 2 _ rfl 1 (by kernel_rfl) [c2] rfl
  obtain ⟨x2, e2, _⟩ := DataW.trod_int Tryz.underlying3 t2
  simp at e2
  obtain ⟨n3, y3, t3⟩ := trod_field Tryz.underlying173 h 3 _ rfl 1 (by kernel_rfl) [c3] rfl
  obtain ⟨x3, e3, _⟩ := DataW.trod_int Tryz.underlying3 t3
  simp at e3
  obtain ⟨n4, y4, t4⟩ := trod_field Tryz.underlying173 h 4 _ rfl 1 (by kernel_rfl) [c4] rfl
  obtain ⟨x4, e4, _⟩ := DataW.trod_int Tryz.underlying2 t4
  simp at e4
  obtain ⟨nf, yf, tf⟩ := trod_field Tryz.underlying173 h 5 _ rfl 5 (by kernel_rfl) [c5, c6, c7, c8, c9] rfl
  obtain ⟨m0, z0, s0⟩ := trod_field Tryz.underlying171 tf 0 _ rfl 1 (by kernel_rfl) [c5] rfl
  obtain ⟨x5, e5, _⟩ := DataW.trod_int Tryz.underlying3 s0
  simp at e5
  obtain ⟨m1, z1, s1⟩ := trod_field Tryz.underlying171 tf 1 _ rfl 1 (by kernel_rfl) [c6] rfl
  obtain ⟨x6, e6, _⟩ := DataW.trod_int Tryz.underlying3 s1
  simp at e6
  obtain ⟨m2, z2, s2⟩ := trod_field Tryz.underlying171 tf 2 _ rfl 1 (by kernel_rfl) [c7] rfl
  obtain ⟨x7, e7, _⟩ := DataW.trod_int Tryz.underlying3 s2
  simp at e7
  obtain ⟨m3, z3, s3⟩ := trod_field Tryz.underlying171 tf 3 _ rfl 2 (by kernel_rfl) [c8, c9] rfl
  obtain ⟨u0, u1, n9, _, h0, h1⟩ := trod_array2 Tryz.arrSig.hu Tryz.arrSig.one s3
  obtain ⟨a, ea, _, wa⟩ := DataW.trod_int Tryz.underlying56 h0
  obtain ⟨b, eb, _, wb⟩ := DataW.trod_int Tryz.underlying56 h1
  simp at ea eb
  obtain ⟨q, rfl, hq⟩ := wf_u64 wa
  obtain ⟨r, rfl, hr⟩ := wf_u64 wb
  exact ⟨⟨x0, x1, x2, x3, x4, ⟨x5, x6, x7, ⟨q, r⟩⟩⟩, by rw [e0, e1, e2, e3, e4, e5, e6, e7, ea, eb], hq, hr⟩
theorem lstStep_open {fuel : Nat} {A : Option Addr} {n cap : Nat} {x : DataW H × List MemPlace} (h : DataW.trod enc Tryz.prog w base spare held fuel 164 [.slice A n cap] = some x) (hsz : Rows.uptoBulk x.1 ≤ 1048576) : ∃ l, LstStep w A n cap l := by
  have hbn : n ≤ 1048576 := by
    rcases open_slice Tryz.underlying164 h with ⟨hcs, _⟩ | ⟨a, len, c, m, q, D, Pl, hcs, _, _, _, _, hx, _⟩
    · simp at hcs
      omega
    · simp at hcs
      obtain ⟨rfl, rfl, rfl⟩ := hcs
      rw [hx] at hsz
      have h1 := Nat.le_trans (bulks.slice_le ((List.range n).map D) ((List.range (m - n)).map fun j => D (n + j))) hsz
      simp only [List.length_map, List.length_range] at h1
      omega
  rcases open_els Tryz.underlying164 (C := 10) (by kernel_rfl) h with hcs | ⟨a, len, c, hcs, hl, hm, hf⟩
  · simp at hcs
    obtain ⟨rfl, rfl, rfl⟩ := hcs
    exact ⟨[], rfl, Nat.le_refl _, by omega, by decide, fun h => absurd h (by omega)⟩
  · simp at hcs
    obtain ⟨rfl, rfl, rfl⟩ := hcs
    have one : ∀ i, i < n → ∃ p : ElStep, (i = 0 → a = ⟨a.block, a.off, none⟩) ∧ a.block < w.heap.size ∧ ElStep.At w a.block (a.off + i * 10) p := by
      intro i hi
      obtain ⟨m, cs', y, hlen, hcell, ht⟩ := hf i hi
      obtain ⟨p, hcs', hok⟩ := elStep_open hlen ht
      subst hcs'
      have k0 := hcell 0 _ rfl
      refine ⟨p, fun hi0 => ?_, ?_, ?_⟩
      · subst hi0; exact addrNone (by simpa using k0)
      · have := World.block_lt_of_cell? w _ k0
        rwa [block_add] at this
      · exact ⟨addAt (hcell 0 _ rfl), addAt (hcell 1 _ rfl), addAt (hcell 2 _ rfl), addAt (hcell 3 _ rfl), addAt (hcell 4 _ rfl), addAt (hcell 5 _ rfl), addAt (hcell 6 _ rfl), addAt (hcell 7 _ rfl), addAt (hcell 8 _ rfl), addAt (hcell 9 _ rfl), hok⟩
    obtain ⟨F, hF⟩ := choose_lt one
    refine ⟨(List.range n).map F, by simp, hl, hbn, hm, fun hn => ⟨a.block, a.off, ?_, (hF 0 hn).2.1, ?_⟩⟩
    · exact congrArg some ((hF 0 hn).1 rfl)
    · intro i p hp
      rw [List.getElem?_map] at hp
      by_cases hi : i < n
      · rw [List.getElem?_range hi] at hp
        simp at hp
        subst hp
        exact (hF i hi).2.2
      · rw [List.getElem?_eq_none (by simp; omega)] at hp
        cases hp
end
end Go.Proofs.YtdhgiohjdhcedaaGreat
