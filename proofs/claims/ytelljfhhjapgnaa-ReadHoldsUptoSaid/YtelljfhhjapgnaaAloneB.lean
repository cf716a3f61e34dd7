/- ReadAlone: reads one behind another, with blocks of the law's own beside. -/
import Derived.Test.YtelljfhhjapgnaaAlOps
namespace Go.Proofs.Ytelljfhhjapgnaa
open Go.RowKit
set_option linter.unusedVariables false
set_option linter.unusedSimpArgs false
/-- Blocks beside X. -/
def Locs (w : World) (X : List Nat) (ls : List (Nat × TypeId × Array Value)) : Prop := ∀ l, l ∈ ls → Loc w X l.1 l.2.1 l.2.2
theorem Locs.step {w w' : World} {X X' : List Nat} {ls : List (Nat × TypeId × Array Value)} (h : Locs w X ls) (hk : Keeps X w w') (hn : ∀ x, x ∈ X' → x ∈ X ∨ w.heap.size ≤ x) : Locs w' X' ls := fun l hl => (h l hl).step hk hn
theorem Locs.calm {w w' : World} {X : List Nat} {ls : List (Nat × TypeId × Array Value)} (h : Locs w X ls) (hk : Keeps [] w w') : Locs w' X ls := fun l hl => (h l hl).calm hk
/-- Between reads. -/
def Id3 (wb : World) (z : Sb) (c : Cf) (L : List Int) (sig : Sg) (k : Nat) (ls : List (Nat × TypeId × Array Value)) (wr : World) : Prop :=
  ∃ F S, SP wb wr z F S ∧ Fit k S ∧ S.c = c ∧ S.gate.number = 0 ∧ S.cells = L ∧ S.H = [hd0] ∧ S.W = [(sig.a : Int), (sig.b : Int)] ∧ Locs wr F ls
/-- In a read. -/
def Al3 (wb : World) (z : Sb) (b : Nat) (c : Cf) (L : List Int) (v cell : Int) (both : Sg) (R k : Nat) (ls : List (Nat × TypeId × Array Value)) (wr : World) : Prop :=
  ∃ F G S x, SP wb wr z F S ∧ Fit k S ∧ RD wb wr z F b G x ∧ AS c L hd0 v cell both S x R ∧ Locs wr (G ++ F) ls
section
variable {wb wr w' : World} {z : Sb} {b : Nat} {c : Cf} {L : List Int} {v cell : Int} {both sig own : Sg} {R k : Nat} {ls : List (Nat × TypeId × Array Value)}
theorem Id3.calm (h : Id3 wb z c L sig k ls wr) (hk : Keeps [] wr w') : Id3 wb z c L sig k ls w' := by
  obtain ⟨F, S, h1, h2, h3, h4, h5, h6, h7, h8⟩ := h
  exact ⟨F, S, h1.calm hk, h2, h3, h4, h5, h6, h7, h8.calm hk⟩
theorem Al3.calm (h : Al3 wb z b c L v cell both R k ls wr) (hk : Keeps [] wr w') : Al3 wb z b c L v cell both R k ls w' := by
  obtain ⟨F, G, S, x, h1, h2, h3, h4, h5⟩ := h
  exact ⟨F, G, S, x, h1.calm hk, h2, h3.calm hk, h4, h5.calm hk⟩
theorem Id3.keep (h : Id3 wb z c L sig k ls wr) : Keeps [] wb wr := by
  obtain ⟨F, S, h1, _⟩ := h
  exact h1.keep
theorem Al3.keep (h : Al3 wb z b c L v cell both R k ls wr) : Keeps [] wb wr := by
  obtain ⟨F, G, S, x, h1, _⟩ := h
  exact h1.keep
theorem Id3.wide (h : Id3 wb z c L sig k ls wr) {j : Nat} (hj : k ≤ j) : Id3 wb z c L sig j ls wr := by
  obtain ⟨F, S, h1, h2, h3⟩ := h
  exact ⟨F, S, h1, h2.wide hj, h3⟩
theorem Id3.loc (h : Id3 wb z c L sig k ls wr) {q : Nat} {t : TypeId} {cs : Array Value} (hl : (q, t, cs) ∈ ls) : Blk wr q t cs := by
  obtain ⟨F, S, h1, h2, h3, h4, h5, h6, h7, h8⟩ := h
  exact (h8 _ hl).blk
theorem Al3.loc (h : Al3 wb z b c L v cell both R k ls wr) {q : Nat} {t : TypeId} {cs : Array Value} (hl : (q, t, cs) ∈ ls) : Blk wr q t cs := by
  obtain ⟨F, G, S, x, h1, h2, h3, h4, h5⟩ := h
  exact (h5 _ hl).blk
/-- A new block beside. -/
theorem Id3.add (h : Id3 wb z c L sig k ls wr) (t : TypeId) (cs : Array Value) : Id3 wb z c L sig k ((wr.heap.size, t, cs) :: ls) (wr.alloc (.cells cs t)) := by
  obtain ⟨F, S, h1, h2, h3, h4, h5, h6, h7, h8⟩ := h
  refine ⟨F, S, h1.calm (by simp), h2, h3, h4, h5, h6, h7, fun l hl => ?_⟩
  rcases List.mem_cons.1 hl with rfl | hl
  · exact h1.local_ t cs
  · exact (h8 l hl).calm (by simp)
/-- Fewer blocks. -/
theorem Id3.less (h : Id3 wb z c L sig k ls wr) {l' : List (Nat × TypeId × Array Value)} (hl : ∀ x, x ∈ l' → x ∈ ls) : Id3 wb z c L sig k l' wr := by
  obtain ⟨F, S, h1, h2, h3, h4, h5, h6, h7, h8⟩ := h
  exact ⟨F, S, h1, h2, h3, h4, h5, h6, h7, fun x hx => h8 x (hl x hx)⟩
/-- A block beside is written over. -/
theorem Id3.put {q : Nat} {t : TypeId} {cs cs' : Array Value} (h : Id3 wb z c L sig k [(q, t, cs)] wr) (hq : wb.heap.size ≤ q) (ht : t ∉ spFix) (hk : Keeps [q] wr w') (hb : Blk w' q t cs') : Id3 wb z c L sig k [(q, t, cs')] w' := by
  obtain ⟨F, S, h1, h2, h3, h4, h5, h6, h7, h8⟩ := h
  have h9 := h8 (q, t, cs) (by simp)
  refine ⟨F, S, h1.away hk (fun x hx => ?_), h2, h3, h4, h5, h6, h7, fun l hl => ?_⟩
  · simp at hx; subst hx
    exact ⟨hq, h9.off, fun t' ht' => by have := h9.blk.tyOf; rw [this] at ht'; injection ht' with ht'; subst ht'; exact ht⟩
  · simp at hl; subst hl
    exact ⟨hb, h9.off⟩
/-- A read begins. -/
theorem Id3.new (h : Id3 wb z c L sig k ls wr) (seen : Int) (hown : ownSg c.bits cell = own) (hs : sig.ok) (ho : own.ok) (c0 : 0 ≤ cell) (c1 : cell < c.cells) (s1 : 0 < c.slots) (hv : (nth L cell).getD 0 = v) :
    Calls Try.prog 13 #[PT z.p, .agg #[.int .i64 0, .int .i64 1, .int .i64 seen, .int .u64 (sig.a : Int), .int .u64 (sig.b : Int)], .int .i64 cell] wr fun e w' => ∃ b, e = .returned (.tuple #[PT b, .int .i64 0]) ∧ Al3 wb z b c L v cell (sig.join own) ((wordsL (own.minus sig)).length + (if seen = 0 then 3 else 5)) k ls w' := by
  obtain ⟨F, S, h1, h2, h3, h4, h5, h6, h7, h8⟩ := h
  refine (read_new h1 h2 ⟨0, 1, seen, sig⟩ hs cell c0 (by rw [h3]; exact c1) (by show (0 : Int) ≤ 0; decide) (by rw [h3]; exact s1)).mono fun e w' ⟨b, G, he, hr, hg, hk⟩ => ?_
  refine ⟨b, he, F, G, S, _, h1.calm hk, h2, hr, AS.new (f := ⟨0, 1, seen, sig⟩) hown h3 h4 h5 h6 h7 rfl rfl hs ho hv, fun l hl => ⟨(h8 l hl).blk.keeps hk (by simp), fun hx => ?_⟩⟩
  rw [List.mem_append] at hx
  rcases hx with hx | hx
  · have h1' := hg _ hx
    have h2' := (h8 l hl).blk.lt
    omega
  · exact (h8 l hl).off hx
theorem Al3.done_ (a : Al3 wb z b c L v cell both R k ls wr) : Calls Try.prog 14 #[PT b] wr fun e w' => e = .returned (.bool (R == 0)) ∧ wr = w' := by
  obtain ⟨F, G, S, x, h1, h2, ⟨⟨wv, ha, _⟩, _, _⟩, h4, _⟩ := a
  have := rd_done ha
  rw [h4.over] at this
  exact this
theorem Al3.step (a : Al3 wb z b c L v cell both R k ls wr) (hR : R ≠ 0) (hk : k ≤ 1099511627776) : Calls Try.prog 15 #[PT b] wr fun e w' => e = .returned (.int .i64 1) ∧ Al3 wb z b c L v cell both (R - 1) (k + 1) ls w' := by
  obtain ⟨F, G, S, x, h1, h2, h3, h4, h5⟩ := a
  obtain ⟨e1, h6⟩ := h4.step hR
  refine (rd_step h1 h2 hk h3 h4.i).mono fun e w' ⟨he, F', G', k1, k2, k3, k4, k5⟩ => ?_
  rw [e1] at he
  refine ⟨he, F', G', _, _, k1, h4.i.fit h2, k2, h6, h5.step k3 (fun q hq => ?_)⟩
  rw [List.mem_append] at hq ⊢
  rcases hq with hq | hq
  · rcases k5 q hq with h | h
    · exact .inl (.inl h)
    · exact .inr h
  · rcases k4 q hq with h | h
    · exact .inl (.inr h)
    · exact .inr h
theorem Al3.value (a : Al3 wb z b c L v cell both 0 k ls wr) : Calls Try.prog 16 #[PT b] wr fun e w' => e = .returned (.tuple #[.int .i64 v, .int .i64 0]) ∧ Keeps [] wr w' := by
  obtain ⟨F, G, S, x, h1, h2, ⟨⟨wv, ha, _⟩, _, _⟩, h4, _⟩ := a
  have := rd_value ha
  rw [h4.ended.2.2.1, h4.ended.2.1] at this
  exact this
theorem Al3.from_ (a : Al3 wb z b c L v cell both 0 k ls wr) : Calls Try.prog 17 #[PT b] wr fun e w' => e = .returned (.agg #[.int .i64 0, .int .i64 1, .int .i64 0, .int .u64 (both.a : Int), .int .u64 (both.b : Int)]) ∧ Keeps [] wr w' := by
  obtain ⟨F, G, S, x, h1, h2, ⟨⟨wv, ha, _⟩, _, _⟩, h4, _⟩ := a
  have := rd_from ha
  rw [h4.ended.2.2.2] at this
  exact this
theorem Al3.idle (a : Al3 wb z b c L v cell both 0 k ls wr) : Id3 wb z c L both k ls wr := by
  obtain ⟨F, G, S, x, h1, h2, h3, h4, h5⟩ := a
  have hf := h4.ended.2.2.2
  refine ⟨F, S, h1, h2, h4.hc, h4.g, h4.cells, h4.H, ?_, fun l hl => ⟨(h5 l hl).blk, fun hx => (h5 l hl).off (by simp [hx])⟩⟩
  rw [h4.W, hf]
/-- The words, told. -/
theorem Id3.view (h : Id3 wb z c L sig k ls wr) : Calls Try.prog 19 #[PT z.p] wr fun e w' => ∃ (v0 : Value) (n o : Int) (a2 c2 : Nat), e = .returned (.agg #[v0, .int .i64 n, .int .i64 o, .slice (some ⟨a2, 0, none⟩) 1 c2]) ∧ w'.cell? ⟨a2, 6, none⟩ = some (.int .u64 (sig.a : Int)) ∧ w'.cell? ⟨a2, 7, none⟩ = some (.int .u64 (sig.b : Int)) ∧ Keeps [] wr w' := by
  obtain ⟨F, S, h1, h2, h3, h4, h5, h6, h7, h8⟩ := h
  refine (sp_view h1 h2).mono fun e w' ⟨a1, c1, a2, c2, he, q1, q2, q3, q4, q5⟩ => ?_
  rw [h6, h7] at q2
  rw [h6] at he
  refine ⟨_, _, _, a2, c2, he, ?_, ?_, q5⟩
  · exact (World.ownsRow.cellAt q2 6 (by decide)).trans rfl
  · exact (World.ownsRow.cellAt q2 7 (by decide)).trans rfl
end
end Go.Proofs.Ytelljfhhjapgnaa
