/- Layer 11: a read asks its head. -/
import Derived.Test.YtdhgiohjdhcedaaGreatSpF
import Derived.Test.YtdhgiohjdhcedaaGreatSigTouched
import Derived.Test.YtdhgiohjdhcedaaGreatSigMeets
import Derived.Test.YtdhgiohjdhcedaaGreatSlR
import Derived.Deep.RegionHeld3
import Derived.Deep.QuietTactic
import Derived.BigQuiet
import Derived.Laws.EntriesVeiled
namespace Go.Proofs.YtdhgiohjdhcedaaGreat
open Go.RowKit
set_option linter.unusedVariables false
set_option linter.unusedSimpArgs false
/-- A word of a signature; one written over. -/
def Sg.wd (s : Sg) (w : Int) : Nat := if w = 0 then s.a else s.b
def Sg.with_ (s : Sg) (w : Int) (v : Nat) : Sg := if w = 0 then ⟨v, s.b⟩ else ⟨s.a, v⟩
/-- What a read goes out from. -/
structure Fr where
  slot : Int
  gen : Int
  seen : Int
  sig : Sg
def Fr.cells (f : Fr) : Array Value := #[.int .i64 f.slot, .int .i64 f.gen, .int .i64 f.seen, .int .u64 (f.sig.a : Int), .int .u64 (f.sig.b : Int)]
def Fr.val (f : Fr) : Value := .agg f.cells
/-- A read that is under way; next: 0 it publishes, 1 it loads, 2 the gate, 3 the head. -/
structure Rd where
  f : Fr
  cell : Int
  words : List Int
  both : Sg
  next : Nat
  over : Bool
  x : Int
  e : Int
def ownSg (n cell : Int) : Sg := ofL n [cell]
def Rd.new (n : Int) (f : Fr) (cell : Int) : Rd :=
  ⟨f, cell, wordsL ((ownSg n cell).minus f.sig), f.sig.join (ownSg n cell), if (wordsL ((ownSg n cell).minus f.sig)).length = 0 then 1 else 0, false, 0, 4⟩
def Rd.publish (x : Rd) (w : Int) (l : List Int) : Rd := { x with words := l, f := { x.f with sig := x.f.sig.with_ w (x.both.wd w) }, next := if l.length = 0 then 1 else 0 }
def Rd.loaded (x : Rd) (v : Int) : Rd := { x with x := v, next := 2 }
def Rd.gate (x : Rd) (n : Int) : Rd := if n % 2 = 1 then x else if n = x.f.seen then { x with next := 3 } else { x with f := { x.f with seen := n }, next := 1 }
def Rd.head (x : Rd) (h : Hd) : Rd := if h.state ≠ 2 ∨ h.gen ≠ x.f.gen ∨ h.doomed = true then { x with x := 0, e := 7, over := true } else { x with e := 0, over := true }
/-- A step: what it answers, the read, the space. -/
def Rd.step (x : Rd) (S : Sp) : Int × Rd × Sp :=
  if x.over = true then (3, x, S) else
  match x.next with
  | 0 => match x.words with
    | [] => (1, x, S)
    | w :: l => (1, x.publish w l, (S.put x.f.slot w (x.both.wd w : Nat)).2)
  | 1 => (1, x.loaded (S.load x.cell).1.1, (S.load x.cell).2)
  | 2 => (if S.glook.1.number % 2 = 1 then 2 else 1, x.gate S.glook.1.number, S.glook.2)
  | _ => (1, x.head (S.look x.f.slot).1.1, (S.look x.f.slot).2)
/-- What New and the steps make. -/
structure Rd.Ok (x : Rd) : Prop where
  sg : x.f.sig.ok
  both : x.both.ok
  next : x.next ≤ 3
  words : ∀ w, w ∈ x.words → w = 0 ∨ w = 1
  pub : x.next = 0 → x.words ≠ []
  few : x.words.length ≤ 2
  done : x.over = false → x.e = 4
theorem Sg.wd_ok {s : Sg} (h : s.ok) (w : Int) : s.wd w < 18446744073709551616 := by unfold Sg.wd; split; exact h.1; exact h.2
theorem Sg.with_ok {s : Sg} (h : s.ok) (w : Int) {v : Nat} (hv : v < 18446744073709551616) : (s.with_ w v).ok := by unfold Sg.with_; split; exact ⟨hv, h.2⟩; exact ⟨h.1, hv⟩
theorem wordsL_mem {m : Sg} {w : Int} (h : w ∈ wordsL m) : w = 0 ∨ w = 1 := by
  unfold wordsL P2 P1 P0 at h
  simp only [List.nil_append, List.mem_append] at h
  rcases h with h | h
  · split at h
    · simp at h
    · simp at h; exact .inl h
  · split at h
    · simp at h
    · simp at h; exact .inr h
theorem wordsL_len (m : Sg) : (wordsL m).length ≤ 2 := by
  unfold wordsL P2 P1 P0
  split <;> split <;> simp
end Go.Proofs.YtdhgiohjdhcedaaGreat

namespace Go.Proofs.YtdhgiohjdhcedaaGreat
open Go.RowKit
set_option linter.unusedVariables false
set_option linter.unusedSimpArgs false
/-- What its next step does, as a value. -/
def fnOf (b : Nat) : Nat → Value
  | 0 => .func (.func 170) #[PT b] #[]
  | 1 => .func (.func 169) #[PT b] #[]
  | 2 => .func (.func 217) #[PT b] #[]
  | _ => .func (.func 232) #[PT b] #[]
def rdVals (z : Sb) (b : Nat) (wv : Value) (x : Rd) : Array Value := #[PT z.p, .int .i64 x.f.slot, .int .i64 x.f.gen, .int .i64 x.f.seen, .int .u64 (x.f.sig.a : Int), .int .u64 (x.f.sig.b : Int), .int .i64 x.cell, wv, .int .u64 (x.both.a : Int), .int .u64 (x.both.b : Int), fnOf b x.next, .bool x.over, .int .i64 x.x, .int .i64 x.e]
/-- A read in block b: the words to come in a slice. -/
structure RdAt (w : World) (z : Sb) (b : Nat) (wv : Value) (x : Rd) : Prop where
  blk : Blk w b 289 (rdVals z b wv x)
  words : SlR w 3 1 wv x.words.length (x.words.map (Value.int .i64))
def footR (b : Nat) (wv : Value) : List Nat := b :: vblk wv
/-- A read made since w0, beside a space that may write F; G: the blocks that are its own. -/
structure RD (w0 w : World) (z : Sb) (F : List Nat) (b : Nat) (G : List Nat) (x : Rd) : Prop where
  ex : ∃ wv, RdAt w z b wv x ∧ G = footR b wv
  low : ∀ y, y ∈ G → w0.heap.size ≤ y
  off : ∀ y, y ∈ G → y ∉ F
section
variable {w0 w w' w'' : World} {z : Sb} {F F' G G' X : List Nat} {S S' : Sp} {k b : Nat} {x x' x'' : Rd} {wv wv' : Value}
theorem RdAt.keeps (h : RdAt w z b wv x) (hk : Keeps X w w') (hX : ∀ q, q ∈ footR b wv → q ∉ X) : RdAt w' z b wv x :=
  ⟨h.blk.keeps hk (hX b (by simp [footR])), h.words.keeps hk (fun q hq => hX q (by simp [footR, hq]))⟩
theorem RdAt.ty (h : RdAt w z b wv x) : ∀ q, q ∈ footR b wv → ∃ t, tyOf w q = some t ∧ t ∉ spFix := fun q hq => by
  simp only [footR, List.mem_cons] at hq
  rcases hq with rfl | hq
  · exact ⟨_, h.blk.tyOf, by decide⟩
  · exact ⟨_, h.words.ty q hq, by decide⟩
theorem RdAt.ne (h : RdAt w z b wv x) : ∀ q, q ∈ vblk wv → q ≠ b := fun q hq e => by
  subst e
  have h1 := h.words.ty q hq
  rw [h.blk.tyOf] at h1
  revert h1
  decide
theorem RD.ty (h : RD w0 w z F b G x) : ∀ q, q ∈ G → ∃ t, tyOf w q = some t ∧ t ∉ spFix := by
  obtain ⟨⟨wv, h1, rfl⟩, _, _⟩ := h
  exact h1.ty
theorem RD.lt (h : RD w0 w z F b G x) : ∀ q, q ∈ G → q < w.heap.size := fun q hq => by
  obtain ⟨t, ht, _⟩ := h.ty q hq
  exact tyOf_lt ht
/-- What a read writes of its own leaves the space. -/
theorem SP.ard (h : SP w0 w z F S) (ha : RD w0 w z F b G x) (hk : Keeps X w w') (hX : ∀ q, q ∈ X → q ∈ G) : SP w0 w' z F S := h.away hk fun q hq => by
  refine ⟨ha.low q (hX q hq), ha.off q (hX q hq), fun t ht => ?_⟩
  obtain ⟨t', ht', hn⟩ := ha.ty q (hX q hq)
  rw [ht'] at ht; injection ht with ht; subst ht; exact hn
theorem RD.keeps (h : RD w0 w z F b G x) (hk : Keeps X w w') (hX : ∀ q, q ∈ G → q ∉ X) (hF : ∀ q, q ∈ F' → q ∈ F ∨ w.heap.size ≤ q) : RD w0 w' z F' b G x := by
  have hlt := h.lt
  obtain ⟨⟨wv, h1, rfl⟩, h2, h3⟩ := h
  refine ⟨⟨wv, h1.keeps hk hX, rfl⟩, h2, fun q hq hf => ?_⟩
  have := hlt q hq
  rcases hF q hf with h4 | h4
  · exact h3 q hq h4
  · omega
theorem RD.step (h : RD w0 w z F b G x) (hk : Keeps F w w') (hF : ∀ q, q ∈ F' → q ∈ F ∨ w.heap.size ≤ q) : RD w0 w' z F' b G x := h.keeps hk h.off hF
theorem RD.calm (h : RD w0 w z F b G x) (hk : Keeps [] w w') : RD w0 w' z F b G x := h.keeps hk (by simp) (fun q hq => .inl hq)
/-- Its block is written; its words may be cut. -/
theorem RD.put (h : RD w0 w z F b (footR b wv) x) (hk : Keeps [b] w w') (hb : Blk w' b 289 (rdVals z b wv' x'))
    (hw : SlR w 3 1 wv' x'.words.length (x'.words.map (Value.int .i64))) (hv : ∀ q, q ∈ vblk wv' → q ∈ vblk wv) : RD w0 w' z F b (footR b wv') x' := by
  have hsub : ∀ q, q ∈ footR b wv' → q ∈ footR b wv := fun q hq => by
    simp only [footR, List.mem_cons] at hq ⊢
    rcases hq with hq | hq
    · exact .inl hq
    · exact .inr (hv q hq)
  refine ⟨⟨wv', ⟨hb, hw.keeps hk (fun q hq hx => ?_)⟩, rfl⟩, fun q hq => h.low q (hsub q hq), fun q hq => h.off q (hsub q hq)⟩
  simp at hx
  subst hx
  obtain ⟨⟨wv0, h1, e⟩, _, _⟩ := h
  have h2 := hw.ty q hq
  rw [h1.blk.tyOf] at h2
  revert h2
  decide
end
/-- What a call of a read leaves. -/
def WentR (w0 w w' : World) (z : Sb) (F G : List Nat) (b : Nat) (S' : Sp) (x' : Rd) : Prop :=
  ∃ F' G', SP w0 w' z F' S' ∧ RD w0 w' z F' b G' x' ∧ Keeps (G ++ F) w w' ∧ (∀ q, q ∈ F' → q ∈ F ∨ w.heap.size ≤ q) ∧ (∀ q, q ∈ G' → q ∈ G ∨ w.heap.size ≤ q)
section
variable {w0 w w' w'' : World} {z : Sb} {F F' G G' X : List Nat} {S S' : Sp} {k b : Nat} {x x' x'' : Rd} {wv wv' : Value}
theorem WentR.still (hs : SP w0 w z F S) (hl : RD w0 w z F b G x) (hk : Keeps [] w w') : WentR w0 w w' z F G b S x :=
  ⟨F, G, hs.calm hk, hl.calm hk, hk.mono (by simp), fun q hq => .inl hq, fun q hq => .inl hq⟩
/-- Writes of the read's own. -/
theorem WentR.own (hs : SP w0 w z F S) (hl : RD w0 w z F b G x) (hk : Keeps [b] w w') (hl' : RD w0 w' z F b G' x') (hb : b ∈ G) (hG : ∀ q, q ∈ G' → q ∈ G) : WentR w0 w w' z F G b S x' :=
  ⟨F, G', hs.ard hl hk (fun q hq => by simp at hq; subst hq; exact hb), hl', hk.mono (fun q hq => .inl (by simp at hq; subst hq; simp [hb])), fun q hq => .inl hq, fun q hq => .inl (hG q hq)⟩
/-- A call of the space's. -/
theorem WentR.call (hs : SP w0 w z F S) (hl : RD w0 w z F b G x) (h : Went w0 w w' z F S') : WentR w0 w w' z F G b S' x := by
  obtain ⟨F', h1, h2, h3⟩ := h
  exact ⟨F', G, h1, hl.step h2 h3, h2.mono (fun q hq => .inl (by simp [hq])), h3, fun q hq => .inl hq⟩
/-- Writes of its own, the words as they were. -/
theorem WentR.write (h : WentR w0 w w' z F G b S x) (hk : Keeps [b] w' w'') (hw : x'.words = x.words) (hb : ∀ wv, Blk w' b 289 (rdVals z b wv x) → Blk w'' b 289 (rdVals z b wv x')) : WentR w0 w w'' z F G b S x' := by
  obtain ⟨F1, G1, a1, a2, a3, a4, a5⟩ := h
  obtain ⟨wv, h3, rfl⟩ := a2.ex
  have hbl := h3.blk.lt
  refine ⟨F1, _, a1.ard a2 hk (fun q hq => by simp at hq; subst hq; simp [footR]), a2.put hk (hb wv h3.blk) (hw ▸ h3.words) (fun q hq => hq), a3.trans hk (fun q hq => ?_), a4, a5⟩
  simp at hq
  subst hq
  rcases a5 q (by simp [footR]) with h | h
  · exact .inl (by simp [h])
  · exact .inr h
/-- One behind the other. -/
theorem WentR.seq (h : WentR w0 w w' z F G b S x) (h2 : ∀ F' G', SP w0 w' z F' S → RD w0 w' z F' b G' x → WentR w0 w' w'' z F' G' b S' x') : WentR w0 w w'' z F G b S' x' := by
  obtain ⟨F1, G1, a1, a2, a3, a4, a5⟩ := h
  obtain ⟨F2, G2, b1, b2, b3, b4, b5⟩ := h2 F1 G1 a1 a2
  have hz := a3.size
  refine ⟨F2, G2, b1, b2, a3.trans b3 (fun q hq => ?_), fun q hq => ?_, fun q hq => ?_⟩
  · rw [List.mem_append] at hq
    rcases hq with hq | hq
    · rcases a5 q hq with h | h
      · exact .inl (by simp [h])
      · exact .inr h
    · rcases a4 q hq with h | h
      · exact .inl (by simp [h])
      · exact .inr h
  · rcases b4 q hq with h | h
    · exact a4 q h
    · exact .inr (by omega)
  · rcases b5 q hq with h | h
    · exact a5 q h
    · exact .inr (by omega)
end
end Go.Proofs.YtdhgiohjdhcedaaGreat

namespace Go.Proofs.YtdhgiohjdhcedaaGreat
open Go.RowKit
set_option linter.unusedVariables false
set_option linter.unusedSimpArgs false
/-- A look at the gate. -/
theorem sp_glook {w0 w : World} {z : Sb} {F : List Nat} {S : Sp} {k : Nat} (h : SP w0 w z F S) (hf : Fit k S) (hk : k ≤ 1099511627776) :
    Calls Tryz.prog 231 #[PT z.q] w fun e w' => e = .returned (.agg #[.int .i64 S.gate.number, .int .i64 S.gate.owner]) ∧ Went w0 w w' z F S.glook.2 := by
  obtain ⟨lb, v, hs, hF⟩ := h.ex
  exact (look_ok w z.q z.gr z.gb (some z.m) S.gate hs.gate lb S.met hs.met (hf.room hk _)).mono fun e w' ⟨he, hl⟩ => ⟨he, h.went hF (hs.gated hl)⟩
theorem set_far {w : World} {b i j : Nat} {u : Value} (v : Value) (hc : w.cell? ⟨b, j, none⟩ = some u) (h : i ≠ j) : (w.setCell ⟨b, i, none⟩ v).cell? ⟨b, j, none⟩ = some u := by
  have hne : (⟨b, i, none⟩ : Addr) ≠ ⟨b, j, none⟩ := by intro e; injection e with _ e _; exact h e
  rw [← hc]
  first | exact World.cell?_setCell_other _ _ _ _ hne | exact World.cell?_setCell_other hne | exact World.cell?_setCell_other _ _ _ hne
/-- Calm worlds behind. -/
theorem WentR.calm {w0 w w' w'' : World} {z : Sb} {F G : List Nat} {S : Sp} {b : Nat} {x : Rd} (h : WentR w0 w w' z F G b S x) (hk : Keeps [] w' w'') : WentR w0 w w'' z F G b S x := by
  obtain ⟨F1, G1, a1, a2, a3, a4, a5⟩ := h
  exact ⟨F1, G1, a1.calm hk, a2.calm hk, a3.trans hk (by simp), a4, a5⟩
/-- A call behind which a block made ahead of it is written. -/
theorem WentR.late {w0 w w1 w2 w3 : World} {z : Sb} {F G : List Nat} {S S' : Sp} {b q : Nat} {x : Rd} {t : TypeId} {cs : Array Value} (hs : SP w0 w z F S) (hl : RD w0 w z F b G x) (hk : Keeps [] w w1) (hq : w.heap.size ≤ q) (hq1 : q < w1.heap.size) (hw : Went w0 w1 w2 z F S') (ht : Blk w2 q t cs) (hty : t ∉ spFix) (hk3 : Keeps [q] w2 w3) : WentR w0 w w3 z F G b S' x := by
  obtain ⟨F', h1, h2, h3⟩ := hw
  have hz := hk.size
  have hz0 := hs.keep.size
  have hqF : q ∉ F' := fun hx => by
    rcases h3 q hx with h | h
    · have := hs.lt q h; omega
    · omega
  refine ⟨F', G, h1.away hk3 (fun y hy => ?_), ((hl.calm hk).step h2 h3).keeps hk3 (fun y hy hx => ?_) (fun y hy => .inl hy), ((hk.mono (T := G ++ F) (fun y hy => by simp at hy)).trans h2 (fun y hy => .inl (by simp [hy]))).trans hk3 (fun y hy => .inr (by simp at hy; omega)), fun y hy => ?_, fun y hy => .inl hy⟩
  · simp at hy
    subst hy
    exact ⟨by omega, hqF, fun t' ht' => by rw [ht.tyOf] at ht'; injection ht' with ht'; subst ht'; exact hty⟩
  · simp at hx
    subst hx
    have := hl.lt y hy
    omega
  · rcases h3 y hy with h | h
    · exact .inl h
    · exact .inr (by omega)
/-- A call behind which a block made ahead of it is written, told in short. -/
theorem look_late {w0 w w1 wd : World} {z : Sb} {F G : List Nat} {S S' : Sp} {b q : Nat} {x : Rd} {t : TypeId} {cs : Array Value} (hs : SP w0 w z F S) (hl : RD w0 w z F b G x) (hk1 : Keeps [] w w1) (hz1 : Blk w1 q t cs) (hq : w.heap.size ≤ q) (hW : Went w0 w1 wd z F S') (hty : t ∉ spFix) : Blk wd q t cs ∧ ∀ w3, Keeps [q] wd w3 → WentR w0 w w3 z F G b S' x := by
  have hz : Blk wd q t cs := by
    obtain ⟨F', _, j2, _⟩ := hW
    exact Blk.keeps hz1 j2 (fun hx => by have h1 := hs.lt _ hx; omega)
  exact ⟨hz, fun w3 hk3 => WentR.late hs hl hk1 hq hz1.lt hW hz hty hk3⟩
theorem blk_drew {w : World} {q : Nat} {t : TypeId} {cs : Array Value} (h : Blk w q t cs) : Blk w.drew q t cs := h
theorem blk_new2 (w : World) (t : TypeId) (cs : Array Value) : Blk (w.drew.alloc (.cells cs t)) w.heap.size t cs := Blk.new w.drew _ _
section
variable {w0 w w' w'' : World} {z : Sb} {F G : List Nat} {S S' : Sp} {k b : Nat} {x x' : Rd} {wv : Value}
theorem ne_new {wa wb : World} {b : Nat} (h : b < wa.heap.size) (hk : Keeps [] wa wb) : wb.heap.size ≠ b := by have := hk.size; omega
theorem RdAt.bne (h : RdAt w z b wv x) : b ≠ w.heap.size := Nat.ne_of_lt h.blk.lt
theorem RdAt.fn (h : RdAt w z b wv x) {n : Nat} (hn : x.next = n) : w.cell? ⟨b, 10, none⟩ = some (fnOf b n) := hn ▸ (h.blk.cell 10).trans rfl
theorem rd_done (h : RdAt w z b wv x) : Calls Tryz.prog 163 #[PT b] w fun e w' => e = .returned (.bool x.over) ∧ w = w' := by
  have c : w.cell? ⟨b, 11, none⟩ = some (.bool x.over) := (Blk.cell h.blk 11).trans rfl
  clear h
  go_enter Tryz.func163, Tryz.ntmps163
  go_wp2
  go_ret
  exact ⟨rfl, rfl⟩
theorem rd_value (h : RdAt w z b wv x) : Calls Tryz.prog 164 #[PT b] w fun e w' => e = .returned (.tuple #[.int .i64 (if x.e = 0 then x.x else 0), .int .i64 x.e]) ∧ Keeps [] w w' := by
  have c12 : w.cell? ⟨b, 12, none⟩ = some (.int .i64 x.x) := (Blk.cell h.blk 12).trans rfl
  have c13 : w.cell? ⟨b, 13, none⟩ = some (.int .i64 x.e) := (Blk.cell h.blk 13).trans rfl
  clear h
  by_cases e0 : x.e = 0
  · rw [if_pos e0, e0]
    rw [e0] at c13
    go_enter Tryz.func164, Tryz.ntmps164
    go_wp2
    refine bodyPost_ret (v := .tuple #[.int .i64 x.x, .int .i64 0]) (by simp [results, Tryz.results164, go_sem]) rfl ⟨rfl, Keeps.refl _ _⟩
  · rw [if_neg e0]
    have h1 : (x.e != 0) = true := by simp [e0]
    go_enter Tryz.func164, Tryz.ntmps164
    go_wp2
    go_region
    all_goals
      go_wp2
      refine bodyPost_ret (v := .tuple #[.int .i64 0, .int .i64 x.e]) (by simp [results, Tryz.results164, go_sem]) rfl ⟨rfl, (Keeps.refl [] w).drew⟩
theorem rd_from (h : RdAt w z b wv x) : Calls Tryz.prog 165 #[PT b] w fun e w' => e = .returned x.f.val ∧ Keeps [] w w' := by
  have hk : Keeps [] w (w.alloc (.cells #[.int .i64 0, .int .i64 0, .int .i64 0, .int .u64 0, .int .u64 0] 171)) := by simp
  have hb := h.blk.keeps hk (by simp)
  obtain ⟨c1, c2, c3, c4, c5⟩ := And.intro ((hb.cell 1).trans rfl : _ = some (.int .i64 x.f.slot)) (And.intro ((hb.cell 2).trans rfl : _ = some (.int .i64 x.f.gen)) (And.intro ((hb.cell 3).trans rfl : _ = some (.int .i64 x.f.seen)) (And.intro ((hb.cell 4).trans rfl : _ = some (.int .u64 (x.f.sig.a : Int))) ((hb.cell 5).trans rfl : _ = some (.int .u64 (x.f.sig.b : Int))))))
  have hlt := h.blk.lt
  clear h hb
  unfold Fr.val Fr.cells
  go_enter Tryz.func165, Tryz.ntmps165
  go_wp2
  refine bodyPost_ret (v := .agg #[.int .i64 x.f.slot, .int .i64 x.f.gen, .int .i64 x.f.seen, .int .u64 (x.f.sig.a : Int), .int .u64 (x.f.sig.b : Int)]) (by simp [results, Tryz.results165, go_sem]) rfl ⟨rfl, ?_⟩
  simp
/-- It loads the cell. -/
theorem rd_load (h : SP w0 w z F S) (hf : Fit k S) (hk : k ≤ 1099511627776) (hl : RD w0 w z F b G x) (hn1 : x.next = 1) : Calls Tryz.prog 169 #[PT b] w fun e w' => e = .returned (.int .i64 1) ∧ WentR w0 w w' z F G b (S.load x.cell).2 (x.loaded (S.load x.cell).1.1) := by
  obtain ⟨⟨wv, ha, hG⟩, hlow, hoff⟩ := id hl
  have QC := Lib.hid (fun w' (hk' : Keeps [] w w') => (sp_load (h.calm hk') hf hk x.cell).mono fun e w'' ⟨he, hw⟩ => And.intro he (hw.pre hk'))
  have HC := Lib.hid (show ∀ w', Keeps [] w w' → w'.cell? ⟨b, 0, none⟩ = some (PT z.p) ∧ w'.cell? ⟨b, 6, none⟩ = some (.int .i64 x.cell) from fun w' hk => ⟨((Blk.keeps ha.blk hk (by simp)).cell 0).trans rfl, ((Blk.keeps ha.blk hk (by simp)).cell 6).trans rfl⟩)
  have hkB : Keeps [] w w := Keeps.refl _ _
  have HH := Lib.hid h
  have HL := Lib.hid hl
  obtain ⟨v, hv⟩ : ∃ v, (S.load x.cell).1.1 = v := ⟨_, rfl⟩
  obtain ⟨er, her⟩ : ∃ v, (S.load x.cell).1.2 = v := ⟨_, rfl⟩
  obtain ⟨S', hS'⟩ : ∃ v, (S.load x.cell).2 = v := ⟨_, rfl⟩
  simp only [hv, her, hS'] at QC ⊢
  have HN1 := Lib.hid hn1
  clear h hf hk hl hG ha hlow hoff hv her hS' hn1
  go_enter Tryz.func169, Tryz.ntmps169
  go_wp2_with fail
  go_region_held3 (fun w' => w'.cell? ⟨b, 0, none⟩ = some (PT z.p) ∧ w'.cell? ⟨b, 6, none⟩ = some (.int .i64 x.cell)) (first | with_reducible exact HC.out _ (by first | assumption | exact Keeps.drew (by assumption)) | exact ⟨d0, d6⟩ | exact ⟨set_far _ d0 (by decide), set_far _ d6 (by decide)⟩ | go_keep) ((first
      | (go_at_call 113; refine (QC.out _ (by first | assumption | exact Keeps.drew (by assumption))).mono ?_; rintro e wd ⟨rfl, hW⟩; have HW := Lib.hid (WentR.call HH.out HL.out hW); obtain ⟨F1, G1, k1, k2, _⟩ := HW.out; obtain ⟨wv1, h3, _⟩ := k2.ex; have d0 : wd.cell? ⟨b, 0, none⟩ = some (PT z.p) := (h3.blk.cell 0).trans rfl; have d6 : wd.cell? ⟨b, 6, none⟩ = some (.int .i64 x.cell) := (h3.blk.cell 6).trans rfl; have d12 : wd.cell? ⟨b, 12, none⟩ = some (.int .i64 x.x) := (h3.blk.cell 12).trans rfl; have d10 : wd.cell? ⟨b, 10, none⟩ = some (.func (.func 169) #[PT b] #[]) := h3.fn HN1.out; have f12 := h3.blk.frozen 12; have f10 := h3.blk.frozen 10; clear hW k1 k2 h3)))
  all_goals
    have HE := Lib.hid (HW.out.write (x' := x.loaded v) (w'' := (wd.setCell ⟨b, 12, none⟩ (.int .i64 v)).setCell ⟨b, 10, none⟩ (.func (.func 217) #[PT b] #[])) (((Keeps.refl [b] wd).setCell (.inl (by simp)) _).setCell (.inl (by simp)) _) rfl (fun wv hb => by
      have := (hb.set_ 12 (.int .i64 v)).set_ 10 (fnOf b 2)
      simpa [rdVals, Rd.loaded, fnOf] using this))
    go_wp2_with fail
    go_ret
    exact ⟨rfl, HE.out⟩
/-- It asks the gate. -/
theorem rd_gate (h : SP w0 w z F S) (hf : Fit k S) (hk : k ≤ 1099511627776) (hl : RD w0 w z F b G x) (hn2 : x.next = 2) : Calls Tryz.prog 217 #[PT b] w fun e w' => e = .returned (.int .i64 (if S.gate.number % 2 = 1 then 2 else 1)) ∧ WentR w0 w w' z F G b S.glook.2 (x.gate S.gate.number) := by
  obtain ⟨⟨wv, ha, hG⟩, hlow, hoff⟩ := id hl
  have c0 : w.cell? ⟨b, 0, none⟩ = some (PT z.p) := (Blk.cell ha.blk 0).trans rfl
  have QG := Lib.hid (sp_gate h)
  have QL := Lib.hid (sp_glook h hf hk)
  have HH := Lib.hid h
  have HL := Lib.hid hl
  have HG := Lib.hid hG
  have HA := Lib.hid ha
  have g0 := hf.g0
  have g1 := hf.g1
  have hm : Int.tmod S.gate.number 2 = S.gate.number % 2 := Int.tmod_eq_emod_of_nonneg g0
  obtain ⟨n, hn⟩ : ∃ n, S.gate.number = n := ⟨_, rfl⟩
  rw [hn] at hm QL ⊢
  obtain ⟨rv, hrv⟩ : ∃ rv : Int, (if n % 2 = 1 then 2 else 1) = rv := ⟨_, rfl⟩
  rw [hrv]
  have HR := Lib.hid hrv
  have HN2 := Lib.hid hn2
  clear h hf hk hl hG ha hlow hoff g0 g1 hn hn2 hrv
  go_enter Tryz.func217, Tryz.ntmps217
  go_wp2_with fail
  refine QG.out.mono ?_
  rintro e w1 ⟨rfl, rfl⟩
  go_wp2_with fail
  refine QL.out.mono ?_
  rintro e w1 ⟨rfl, hw⟩
  have hka : Keeps [] w1 (w1.alloc (.cells #[.int .i64 n, .int .i64 S.gate.owner] 42)) := by simp
  have HW := Lib.hid ((WentR.call HH.out HL.out hw).calm hka)
  obtain ⟨F1, G1, k1, k2, _⟩ := HW.out
  obtain ⟨F2, j1, j2, j3⟩ := id hw
  obtain ⟨wv1, h3, _⟩ := k2.ex
  have hbl := (HA.out.keeps j2 (fun q hq => HL.out.off q (by rw [HG.out]; exact hq))).blk.lt
  have d3 : (w1.alloc (.cells #[.int .i64 n, .int .i64 S.gate.owner] 42)).cell? ⟨b, 3, none⟩ = some (.int .i64 x.f.seen) := (h3.blk.cell 3).trans rfl
  have d10 : (w1.alloc (.cells #[.int .i64 n, .int .i64 S.gate.owner] 42)).cell? ⟨b, 10, none⟩ = some (.func (.func 217) #[PT b] #[]) := h3.fn HN2.out
  have f3 := h3.blk.frozen 3
  have f10 := h3.blk.frozen 10
  have hbn : b ≠ w1.heap.size := by omega
  clear hw k1 k2 h3 c0 QG QL j1 j2 j3 hka
  by_cases e1 : n % 2 = 1
  · have hx : x.gate n = x := by unfold Rd.gate; rw [if_pos e1]
    have hr : rv = 2 := by rw [← HR.out]; exact if_pos e1
    rw [e1] at hm
    have HX := Lib.hid hx
    subst hr
    clear hx e1
    go_wp2_with fail
    go_ret
    exact ⟨rfl, by rw [HX.out]; exact HW.out⟩
  · have hr : rv = 1 := by rw [← HR.out]; exact if_neg e1
    have e0 : n % 2 = 0 := by omega
    rw [e0] at hm
    subst hr
    by_cases e2 : n = x.f.seen
    · have hx : x.gate n = { x with next := 3 } := by unfold Rd.gate; rw [if_neg e1, if_pos e2]
      have HX := Lib.hid hx
      have e3 : (n != x.f.seen) = false := by simp [e2]
      clear hx e1 e0 e2
      go_wp2_with fail
      go_quiet (fail)
      go_wp2_with fail
      go_ret
      refine ⟨rfl, ?_⟩
      rw [HX.out]
      refine (HW.out.calm ((Keeps.refl [] _).drewN nq)).write ((Keeps.refl [b] _).setCell (.inl (by simp)) _) rfl (fun wv hb => ?_)
      have := hb.set_ 10 (fnOf b 3)
      simpa [rdVals, fnOf] using this
    · have hx : x.gate n = { x with f := { x.f with seen := n }, next := 1 } := by unfold Rd.gate; rw [if_neg e1, if_neg e2]
      have HX := Lib.hid hx
      have e3 : (n != x.f.seen) = true := by simp [e2]
      clear hx e1 e0 e2
      go_wp2_with fail
      go_quiet (fail)
      go_wp2_with fail
      go_ret
      refine ⟨rfl, ?_⟩
      rw [HX.out]
      refine (HW.out.calm ((Keeps.refl [] _).drewN nq)).write (((Keeps.refl [b] _).setCell (.inl (by simp)) _).setCell (.inl (by simp)) _) rfl (fun wv hb => ?_)
      have := (hb.set_ 3 (.int .i64 n)).set_ 10 (fnOf b 1)
      simpa [rdVals, fnOf] using this
end
end Go.Proofs.YtdhgiohjdhcedaaGreat

namespace Go.Proofs.YtdhgiohjdhcedaaGreat
open Go.RowKit
set_option linter.unusedVariables false
set_option linter.unusedSimpArgs false
section
variable {w0 w w' w'' : World} {z : Sb} {F G : List Nat} {S S' : Sp} {k b : Nat} {x x' : Rd} {wv : Value}
set_option maxRecDepth 100000 in
set_option maxHeartbeats 4000000 in
theorem rd_head (h : SP w0 w z F S) (hf : Fit k S) (hk : k ≤ 1099511627776) (hl : RD w0 w z F b G x) : Calls Tryz.prog 232 #[PT b] w fun e w' => e = .returned (.int .i64 1) ∧ WentR w0 w w' z F G b (S.look x.f.slot).2 (x.head (S.look x.f.slot).1.1) := by
  obtain ⟨⟨wv, ha, hG⟩, hlow, hoff⟩ := id hl
  have c0 : w.cell? ⟨b, 0, none⟩ = some (PT z.p) := (Blk.cell ha.blk 0).trans rfl
  have c1 : w.cell? ⟨b, 1, none⟩ = some (.int .i64 x.f.slot) := (Blk.cell ha.blk 1).trans rfl
  have hcl := fun (wx : World) (hx : SP w0 wx z F S) => sp_look hx hf hk x.f.slot
  obtain ⟨hv, hhv⟩ : ∃ v, (S.look x.f.slot).1.1 = v := ⟨_, rfl⟩
  obtain ⟨er, her⟩ : ∃ v, (S.look x.f.slot).1.2 = v := ⟨_, rfl⟩
  obtain ⟨S', hS'⟩ : ∃ v, (S.look x.f.slot).2 = v := ⟨_, rfl⟩
  simp only [hhv, her, hS'] at hcl ⊢
  unfold Hd.val at hcl
  have QC := Lib.hid (fun w' (hk' : Keeps [] w w') => hcl w' (h.calm hk'))
  have QS := Lib.hid (fun w' (hk' : Keeps [] w w') => sp_slots (h.calm hk'))
  have HC := Lib.hid (show ∀ w', Keeps [] w w' → w'.cell? ⟨b, 0, none⟩ = some (PT z.p) ∧ w'.cell? ⟨b, 1, none⟩ = some (.int .i64 x.f.slot) from fun w' hk => ⟨((Blk.keeps ha.blk hk (by simp)).cell 0).trans rfl, ((Blk.keeps ha.blk hk (by simp)).cell 1).trans rfl⟩)
  have hkB : Keeps [] w w := Keeps.refl _ _
  have HH := Lib.hid h
  have HL := Lib.hid hl
  have hbw := ha.bne
  clear h hf hk hl hG ha hlow hoff hcl hhv her hS' c0 c1
  go_enter Tryz.func232, Tryz.ntmps232
  go_wp2_with fail
  go_region_held3 (fun w' => w'.cell? ⟨b, 0, none⟩ = some (PT z.p) ∧ w'.cell? ⟨b, 1, none⟩ = some (.int .i64 x.f.slot)) (first | with_reducible exact HC.out _ (by first | with_reducible assumption | exact Keeps.drew (by with_reducible assumption) | exact Keeps.alloc (by with_reducible assumption) _ | exact Keeps.drew (Keeps.alloc (by with_reducible assumption) _) | exact Keeps.alloc (Keeps.drew (by with_reducible assumption)) _ | exact Keeps.drew (Keeps.alloc (Keeps.drew (by with_reducible assumption)) _)) | with_reducible exact ⟨d0, d1⟩ | go_keep) ((first
      | (go_at_call 19; refine (QS.out _ (by first | with_reducible assumption | exact Keeps.drew (by with_reducible assumption) | exact Keeps.alloc (by with_reducible assumption) _ | exact Keeps.drew (Keeps.alloc (by with_reducible assumption) _) | exact Keeps.alloc (Keeps.drew (by with_reducible assumption)) _ | exact Keeps.drew (Keeps.alloc (Keeps.drew (by with_reducible assumption)) _))).mono ?_; rintro e wc ⟨rfl, rfl⟩)
      | (go_at_call 151; refine (QC.out _ (by first | with_reducible assumption | exact Keeps.drew (by with_reducible assumption))).mono ?_; rintro e wd ⟨rfl, hW⟩; have HW := Lib.hid (WentR.call HH.out HL.out (hW.pre (by first | with_reducible assumption | exact Keeps.drew (by with_reducible assumption)))); obtain ⟨F1, G1, k1, k2, _⟩ := HW.out; obtain ⟨wv1, h3, _⟩ := k2.ex; have d0 : wd.cell? ⟨b, 0, none⟩ = some (PT z.p) := (h3.blk.cell 0).trans rfl; have d1 : wd.cell? ⟨b, 1, none⟩ = some (.int .i64 x.f.slot) := (h3.blk.cell 1).trans rfl; have d2 : wd.cell? ⟨b, 2, none⟩ = some (.int .i64 x.f.gen) := (h3.blk.cell 2).trans rfl; have d11 : wd.cell? ⟨b, 11, none⟩ = some (.bool x.over) := (h3.blk.cell 11).trans rfl; have d12 : wd.cell? ⟨b, 12, none⟩ = some (.int .i64 x.x) := (h3.blk.cell 12).trans rfl; have d13 : wd.cell? ⟨b, 13, none⟩ = some (.int .i64 x.e) := (h3.blk.cell 13).trans rfl; have f11 := h3.blk.frozen 11; have f12 := h3.blk.frozen 12; have f13 := h3.blk.frozen 13; have hbd := h3.bne; have hbd2 := Ne.symm hbd; clear hW k1 k2 h3)
      | (go_at_call 151; refine (QC.out _ (show Keeps [] w (World.alloc w _) from Keeps.alloc hkB _)).mono ?_; rintro e wd ⟨rfl, hW⟩; obtain ⟨hz, hZ⟩ := look_late (q := w.heap.size) (t := 55) (cs := #[.int .i64 0, .int .i64 0, .int .i64 0, .int .i64 0, .bool false, .int .i64 0]) HH.out HL.out (show Keeps [] w (World.alloc w _) from Keeps.alloc hkB _) (Blk.new w _ _) (Nat.le_refl _) hW (by decide); have HZ := Lib.hid hZ; have HW := Lib.hid (hZ wd (Keeps.refl _ _)); have z0 : wd.cell? ⟨w.heap.size, 0, none⟩ = some (.int .i64 0) := (hz.cell 0).trans rfl; have y0 := hz.frozen 0; have z1 : wd.cell? ⟨w.heap.size, 1, none⟩ = some (.int .i64 0) := (hz.cell 1).trans rfl; have y1 := hz.frozen 1; have z2 : wd.cell? ⟨w.heap.size, 2, none⟩ = some (.int .i64 0) := (hz.cell 2).trans rfl; have y2 := hz.frozen 2; have z3 : wd.cell? ⟨w.heap.size, 3, none⟩ = some (.int .i64 0) := (hz.cell 3).trans rfl; have y3 := hz.frozen 3; have z4 : wd.cell? ⟨w.heap.size, 4, none⟩ = some (.bool false) := (hz.cell 4).trans rfl; have y4 := hz.frozen 4; have z5 : wd.cell? ⟨w.heap.size, 5, none⟩ = some (.int .i64 0) := (hz.cell 5).trans rfl; have y5 := hz.frozen 5; obtain ⟨F1, G1, k1, k2, _⟩ := HW.out; obtain ⟨wv1, h3, _⟩ := k2.ex; have d0 : wd.cell? ⟨b, 0, none⟩ = some (PT z.p) := (h3.blk.cell 0).trans rfl; have d1 : wd.cell? ⟨b, 1, none⟩ = some (.int .i64 x.f.slot) := (h3.blk.cell 1).trans rfl; have d2 : wd.cell? ⟨b, 2, none⟩ = some (.int .i64 x.f.gen) := (h3.blk.cell 2).trans rfl; have d11 : wd.cell? ⟨b, 11, none⟩ = some (.bool x.over) := (h3.blk.cell 11).trans rfl; have d12 : wd.cell? ⟨b, 12, none⟩ = some (.int .i64 x.x) := (h3.blk.cell 12).trans rfl; have d13 : wd.cell? ⟨b, 13, none⟩ = some (.int .i64 x.e) := (h3.blk.cell 13).trans rfl; have f11 := h3.blk.frozen 11; have f12 := h3.blk.frozen 12; have f13 := h3.blk.frozen 13; have hbd := hbw; have hbd2 := Ne.symm hbw; have HB2 := Lib.hid hz; clear hW k1 k2 h3 hz hZ)
      | (go_at_call 151; refine (QC.out _ (show Keeps [] w (World.drew (World.alloc w _)) from Keeps.drew (Keeps.alloc hkB _))).mono ?_; rintro e wd ⟨rfl, hW⟩; obtain ⟨hz, hZ⟩ := look_late (q := w.heap.size) (t := 55) (cs := #[.int .i64 0, .int .i64 0, .int .i64 0, .int .i64 0, .bool false, .int .i64 0]) HH.out HL.out (show Keeps [] w (World.drew (World.alloc w _)) from Keeps.drew (Keeps.alloc hkB _)) (blk_drew (Blk.new w _ _)) (Nat.le_refl _) hW (by decide); have HZ := Lib.hid hZ; have HW := Lib.hid (hZ wd (Keeps.refl _ _)); have z0 : wd.cell? ⟨w.heap.size, 0, none⟩ = some (.int .i64 0) := (hz.cell 0).trans rfl; have y0 := hz.frozen 0; have z1 : wd.cell? ⟨w.heap.size, 1, none⟩ = some (.int .i64 0) := (hz.cell 1).trans rfl; have y1 := hz.frozen 1; have z2 : wd.cell? ⟨w.heap.size, 2, none⟩ = some (.int .i64 0) := (hz.cell 2).trans rfl; have y2 := hz.frozen 2; have z3 : wd.cell? ⟨w.heap.size, 3, none⟩ = some (.int .i64 0) := (hz.cell 3).trans rfl; have y3 := hz.frozen 3; have z4 : wd.cell? ⟨w.heap.size, 4, none⟩ = some (.bool false) := (hz.cell 4).trans rfl; have y4 := hz.frozen 4; have z5 : wd.cell? ⟨w.heap.size, 5, none⟩ = some (.int .i64 0) := (hz.cell 5).trans rfl; have y5 := hz.frozen 5; obtain ⟨F1, G1, k1, k2, _⟩ := HW.out; obtain ⟨wv1, h3, _⟩ := k2.ex; have d0 : wd.cell? ⟨b, 0, none⟩ = some (PT z.p) := (h3.blk.cell 0).trans rfl; have d1 : wd.cell? ⟨b, 1, none⟩ = some (.int .i64 x.f.slot) := (h3.blk.cell 1).trans rfl; have d2 : wd.cell? ⟨b, 2, none⟩ = some (.int .i64 x.f.gen) := (h3.blk.cell 2).trans rfl; have d11 : wd.cell? ⟨b, 11, none⟩ = some (.bool x.over) := (h3.blk.cell 11).trans rfl; have d12 : wd.cell? ⟨b, 12, none⟩ = some (.int .i64 x.x) := (h3.blk.cell 12).trans rfl; have d13 : wd.cell? ⟨b, 13, none⟩ = some (.int .i64 x.e) := (h3.blk.cell 13).trans rfl; have f11 := h3.blk.frozen 11; have f12 := h3.blk.frozen 12; have f13 := h3.blk.frozen 13; have hbd := hbw; have hbd2 := Ne.symm hbw; have HB2 := Lib.hid hz; clear hW k1 k2 h3 hz hZ)
      | (go_at_call 151; refine (QC.out _ (show Keeps [] w (World.alloc (World.drew w) _) from Keeps.alloc (Keeps.drew hkB) _)).mono ?_; rintro e wd ⟨rfl, hW⟩; obtain ⟨hz, hZ⟩ := look_late (q := w.heap.size) (t := 55) (cs := #[.int .i64 0, .int .i64 0, .int .i64 0, .int .i64 0, .bool false, .int .i64 0]) HH.out HL.out (show Keeps [] w (World.alloc (World.drew w) _) from Keeps.alloc (Keeps.drew hkB) _) (blk_new2 w _ _) (Nat.le_refl _) hW (by decide); have HZ := Lib.hid hZ; have HW := Lib.hid (hZ wd (Keeps.refl _ _)); have z0 : wd.cell? ⟨w.heap.size, 0, none⟩ = some (.int .i64 0) := (hz.cell 0).trans rfl; have y0 := hz.frozen 0; have z1 : wd.cell? ⟨w.heap.size, 1, none⟩ = some (.int .i64 0) := (hz.cell 1).trans rfl; have y1 := hz.frozen 1; have z2 : wd.cell? ⟨w.heap.size, 2, none⟩ = some (.int .i64 0) := (hz.cell 2).trans rfl; have y2 := hz.frozen 2; have z3 : wd.cell? ⟨w.heap.size, 3, none⟩ = some (.int .i64 0) := (hz.cell 3).trans rfl; have y3 := hz.frozen 3; have z4 : wd.cell? ⟨w.heap.size, 4, none⟩ = some (.bool false) := (hz.cell 4).trans rfl; have y4 := hz.frozen 4; have z5 : wd.cell? ⟨w.heap.size, 5, none⟩ = some (.int .i64 0) := (hz.cell 5).trans rfl; have y5 := hz.frozen 5; obtain ⟨F1, G1, k1, k2, _⟩ := HW.out; obtain ⟨wv1, h3, _⟩ := k2.ex; have d0 : wd.cell? ⟨b, 0, none⟩ = some (PT z.p) := (h3.blk.cell 0).trans rfl; have d1 : wd.cell? ⟨b, 1, none⟩ = some (.int .i64 x.f.slot) := (h3.blk.cell 1).trans rfl; have d2 : wd.cell? ⟨b, 2, none⟩ = some (.int .i64 x.f.gen) := (h3.blk.cell 2).trans rfl; have d11 : wd.cell? ⟨b, 11, none⟩ = some (.bool x.over) := (h3.blk.cell 11).trans rfl; have d12 : wd.cell? ⟨b, 12, none⟩ = some (.int .i64 x.x) := (h3.blk.cell 12).trans rfl; have d13 : wd.cell? ⟨b, 13, none⟩ = some (.int .i64 x.e) := (h3.blk.cell 13).trans rfl; have f11 := h3.blk.frozen 11; have f12 := h3.blk.frozen 12; have f13 := h3.blk.frozen 13; have hbd := hbw; have hbd2 := Ne.symm hbw; have HB2 := Lib.hid hz; clear hW k1 k2 h3 hz hZ)
      | (go_at_call 151; refine (QC.out _ (show Keeps [] w (World.drew (World.alloc (World.drew w) _)) from Keeps.drew (Keeps.alloc (Keeps.drew hkB) _))).mono ?_; rintro e wd ⟨rfl, hW⟩; obtain ⟨hz, hZ⟩ := look_late (q := w.heap.size) (t := 55) (cs := #[.int .i64 0, .int .i64 0, .int .i64 0, .int .i64 0, .bool false, .int .i64 0]) HH.out HL.out (show Keeps [] w (World.drew (World.alloc (World.drew w) _)) from Keeps.drew (Keeps.alloc (Keeps.drew hkB) _)) (blk_drew (blk_new2 w _ _)) (Nat.le_refl _) hW (by decide); have HZ := Lib.hid hZ; have HW := Lib.hid (hZ wd (Keeps.refl _ _)); have z0 : wd.cell? ⟨w.heap.size, 0, none⟩ = some (.int .i64 0) := (hz.cell 0).trans rfl; have y0 := hz.frozen 0; have z1 : wd.cell? ⟨w.heap.size, 1, none⟩ = some (.int .i64 0) := (hz.cell 1).trans rfl; have y1 := hz.frozen 1; have z2 : wd.cell? ⟨w.heap.size, 2, none⟩ = some (.int .i64 0) := (hz.cell 2).trans rfl; have y2 := hz.frozen 2; have z3 : wd.cell? ⟨w.heap.size, 3, none⟩ = some (.int .i64 0) := (hz.cell 3).trans rfl; have y3 := hz.frozen 3; have z4 : wd.cell? ⟨w.heap.size, 4, none⟩ = some (.bool false) := (hz.cell 4).trans rfl; have y4 := hz.frozen 4; have z5 : wd.cell? ⟨w.heap.size, 5, none⟩ = some (.int .i64 0) := (hz.cell 5).trans rfl; have y5 := hz.frozen 5; obtain ⟨F1, G1, k1, k2, _⟩ := HW.out; obtain ⟨wv1, h3, _⟩ := k2.ex; have d0 : wd.cell? ⟨b, 0, none⟩ = some (PT z.p) := (h3.blk.cell 0).trans rfl; have d1 : wd.cell? ⟨b, 1, none⟩ = some (.int .i64 x.f.slot) := (h3.blk.cell 1).trans rfl; have d2 : wd.cell? ⟨b, 2, none⟩ = some (.int .i64 x.f.gen) := (h3.blk.cell 2).trans rfl; have d11 : wd.cell? ⟨b, 11, none⟩ = some (.bool x.over) := (h3.blk.cell 11).trans rfl; have d12 : wd.cell? ⟨b, 12, none⟩ = some (.int .i64 x.x) := (h3.blk.cell 12).trans rfl; have d13 : wd.cell? ⟨b, 13, none⟩ = some (.int .i64 x.e) := (h3.blk.cell 13).trans rfl; have f11 := h3.blk.frozen 11; have f12 := h3.blk.frozen 12; have f13 := h3.blk.frozen 13; have hbd := hbw; have hbd2 := Ne.symm hbw; have HB2 := Lib.hid hz; clear hW k1 k2 h3 hz hZ)))
  all_goals
    first
      | (have hb3 := Blk.new wd 55 #[.int .i64 hv.gen, .int .i64 hv.state, .int .i64 hv.stamp, .int .i64 hv.thread, .bool hv.doomed, .int .i64 hv.who]
         have hr3 := HW.out.calm (show Keeps [] wd (wd.alloc (.cells #[.int .i64 hv.gen, .int .i64 hv.state, .int .i64 hv.stamp, .int .i64 hv.thread, .bool hv.doomed, .int .i64 hv.who] 55)) by simp)
         obtain ⟨w3, hw3⟩ : ∃ q, wd.alloc (.cells #[.int .i64 hv.gen, .int .i64 hv.state, .int .i64 hv.stamp, .int .i64 hv.thread, .bool hv.doomed, .int .i64 hv.who] 55) = q := ⟨_, rfl⟩
         obtain ⟨q, hq⟩ : ∃ q, wd.heap.size = q := ⟨_, rfl⟩
         rw [hw3] at hb3 hr3 ⊢
         rw [hq] at hb3 ⊢
         have HB3 := Lib.hid hb3
         have HR3 := Lib.hid hr3
         clear hb3 hr3 hw3 hq)
      | (have hb3 := (((((HB2.out.set_ 0 (.int .i64 hv.gen)).set_ 1 (.int .i64 hv.state)).set_ 2 (.int .i64 hv.stamp)).set_ 3 (.int .i64 hv.thread)).set_ 4 (.bool hv.doomed)).set_ 5 (.int .i64 hv.who)
         have hr3 := HZ.out ((((((wd.setCell ⟨w.heap.size, 0, none⟩ (.int .i64 hv.gen)).setCell ⟨w.heap.size, 1, none⟩ (.int .i64 hv.state)).setCell ⟨w.heap.size, 2, none⟩ (.int .i64 hv.stamp)).setCell ⟨w.heap.size, 3, none⟩ (.int .i64 hv.thread)).setCell ⟨w.heap.size, 4, none⟩ (.bool hv.doomed)).setCell ⟨w.heap.size, 5, none⟩ (.int .i64 hv.who)) (((((((Keeps.refl [w.heap.size] wd).setCell (.inl (by simp)) _).setCell (.inl (by simp)) _).setCell (.inl (by simp)) _).setCell (.inl (by simp)) _).setCell (.inl (by simp)) _).setCell (.inl (by simp)) _)
         obtain ⟨w3, hw3⟩ : ∃ q, ((((((wd.setCell ⟨w.heap.size, 0, none⟩ (.int .i64 hv.gen)).setCell ⟨w.heap.size, 1, none⟩ (.int .i64 hv.state)).setCell ⟨w.heap.size, 2, none⟩ (.int .i64 hv.stamp)).setCell ⟨w.heap.size, 3, none⟩ (.int .i64 hv.thread)).setCell ⟨w.heap.size, 4, none⟩ (.bool hv.doomed)).setCell ⟨w.heap.size, 5, none⟩ (.int .i64 hv.who)) = q := ⟨_, rfl⟩
         obtain ⟨q, hq⟩ : ∃ q, w.heap.size = q := ⟨_, rfl⟩
         rw [hw3] at hb3 hr3 ⊢
         rw [hq] at hb3 ⊢
         have HB3 : Hid (Blk w3 q 55 #[.int .i64 hv.gen, .int .i64 hv.state, .int .i64 hv.stamp, .int .i64 hv.thread, .bool hv.doomed, .int .i64 hv.who]) := hb3
         have HR3 := Lib.hid hr3
         clear hb3 hr3 hw3 hq)
    obtain ⟨F1, G1, k1, k2, _⟩ := HR3.out
    obtain ⟨wv1, h3, _⟩ := k2.ex
    have d2 : w3.cell? ⟨b, 2, none⟩ = some (.int .i64 x.f.gen) := (h3.blk.cell 2).trans rfl
    have d11 : w3.cell? ⟨b, 11, none⟩ = some (.bool x.over) := (h3.blk.cell 11).trans rfl
    have d12 : w3.cell? ⟨b, 12, none⟩ = some (.int .i64 x.x) := (h3.blk.cell 12).trans rfl
    have d13 : w3.cell? ⟨b, 13, none⟩ = some (.int .i64 x.e) := (h3.blk.cell 13).trans rfl
    have f11 := h3.blk.frozen 11
    have f12 := h3.blk.frozen 12
    have f13 := h3.blk.frozen 13
    have hqb : q ≠ b := fun e => by
      have h1 := HB3.out.tyOf
      rw [e, h3.blk.tyOf] at h1
      revert h1; decide
    have hbq := Ne.symm hqb
    have z0 : w3.cell? ⟨q, 0, none⟩ = some (.int .i64 hv.gen) := (HB3.out.cell 0).trans rfl
    have z1 : w3.cell? ⟨q, 1, none⟩ = some (.int .i64 hv.state) := (HB3.out.cell 1).trans rfl
    have z4 : w3.cell? ⟨q, 4, none⟩ = some (.bool hv.doomed) := (HB3.out.cell 4).trans rfl
    have hw4 := HR3.out.write (x' := { x with e := 0 }) (w'' := w3.setCell ⟨b, 13, none⟩ (.int .i64 0)) ((Keeps.refl [b] w3).setCell (.inl (by simp)) _) rfl (fun wv hb => by
      have := hb.set_ 13 (.int .i64 0)
      simpa [rdVals, fnOf] using this)
    have HW4 := Lib.hid hw4
    clear hw4 k1 k2 h3
    by_cases e1 : hv.state = 2
    · have e2 : (hv.state != 2) = false := by simp [e1]
      by_cases e3 : hv.gen = x.f.gen
      · have e4 : (hv.gen != x.f.gen) = false := by simp [e3]
        cases e5 : hv.doomed
        · have HX : Hid (x.head hv = { x with e := 0, over := true }) := by unfold Hid Rd.head; rw [if_neg (by rintro (h | h | h); exact h e1; exact h e3; rw [e5] at h; cases h)]
          rw [e5] at z4
          clear e1 e3 e5
          go_wp2_with fail
          go_quiet (fail)
          go_wp2_with fail
          go_ret
          refine ⟨rfl, ?_⟩
          rw [HX.out]
          refine (HW4.out.calm ((Keeps.refl [] _).drewN nq)).write (x' := { x with e := 0, over := true }) ((Keeps.refl [b] _).setCell (.inl (by simp)) _) rfl (fun wv hb => ?_)
          have := hb.set_ 11 (.bool true)
          simpa [rdVals, fnOf] using this
        · have HX : Hid (x.head hv = { x with x := 0, e := 7, over := true }) := by unfold Hid Rd.head; rw [if_pos (.inr (.inr e5))]
          rw [e5] at z4
          clear e1 e3 e5
          go_wp2_with fail
          go_quiet (fail)
          go_wp2_with fail
          go_ret
          refine ⟨rfl, ?_⟩
          rw [HX.out]
          refine (HW4.out.calm ((Keeps.refl [] _).drewN nq)).write (x' := { x with x := 0, e := 7, over := true }) ((((Keeps.refl [b] _).setCell (.inl (by simp)) _).setCell (.inl (by simp)) _).setCell (.inl (by simp)) _) rfl (fun wv hb => ?_)
          have := ((hb.set_ 12 (.int .i64 0)).set_ 13 (.int .i64 7)).set_ 11 (.bool true)
          simpa [rdVals, fnOf] using this
      · have e4 : (hv.gen != x.f.gen) = true := by simp [e3]
        have HX : Hid (x.head hv = { x with x := 0, e := 7, over := true }) := by unfold Hid Rd.head; rw [if_pos (.inr (.inl e3))]
        clear e1 e3
        go_wp2_with fail
        go_quiet (fail)
        go_wp2_with fail
        go_ret
        refine ⟨rfl, ?_⟩
        rw [HX.out]
        refine (HW4.out.calm ((Keeps.refl [] _).drewN nq)).write (x' := { x with x := 0, e := 7, over := true }) ((((Keeps.refl [b] _).setCell (.inl (by simp)) _).setCell (.inl (by simp)) _).setCell (.inl (by simp)) _) rfl (fun wv hb => ?_)
        have := ((hb.set_ 12 (.int .i64 0)).set_ 13 (.int .i64 7)).set_ 11 (.bool true)
        simpa [rdVals, fnOf] using this
    · have e2 : (hv.state != 2) = true := by simp [e1]
      have HX : Hid (x.head hv = { x with x := 0, e := 7, over := true }) := by unfold Hid Rd.head; rw [if_pos (.inl e1)]
      clear e1
      go_wp2_with fail
      go_quiet (fail)
      go_wp2_with fail
      go_ret
      refine ⟨rfl, ?_⟩
      rw [HX.out]
      refine (HW4.out.calm ((Keeps.refl [] _).drewN nq)).write (x' := { x with x := 0, e := 7, over := true }) ((((Keeps.refl [b] _).setCell (.inl (by simp)) _).setCell (.inl (by simp)) _).setCell (.inl (by simp)) _) rfl (fun wv hb => ?_)
      have := ((hb.set_ 12 (.int .i64 0)).set_ 13 (.int .i64 7)).set_ 11 (.bool true)
      simpa [rdVals, fnOf] using this
end
end Go.Proofs.YtdhgiohjdhcedaaGreat
