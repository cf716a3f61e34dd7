/- Layer 13: where a commit lies, beside a space and a judge. -/
import Derived.Test.YtdhgiohjdhcedaaGreatCm
import Derived.Test.YtdhgiohjdhcedaaGreatLkAt
namespace Go.Proofs.YtdhgiohjdhcedaaGreat
open Go.RowKit Pol
set_option linter.unusedVariables false
set_option linter.unusedSimpArgs false
/-- A stage as a value; dp: the dooming's block. -/
def stgVal (dp : Nat) : Stg → Value
  | .take => .iface 206 (.agg #[])
  | .own => .iface 351 (.agg #[])
  | .looking => .iface 360 (.agg #[])
  | .doom => .iface 363 (.agg #[PT dp])
  | .write n => .iface 366 (.agg #[.int .i64 n])
  | .give => .iface 368 (.agg #[])
  | .giveUp => .iface 359 (.agg #[])
  | .free => .iface 367 (.agg #[])
  | .over => .nilIface
def lkPtr : Option Nat → Value
  | none => .pointer none
  | some b => PT b
def cmVals (z : Sb) (jb : Nat) (wv nv : Value) (lp : Option Nat) (x : Cm) : Array Value :=
  #[PT z.p, PT jb, .int .i64 x.slot, .int .i64 x.gen, .int .i64 x.thread, .int .i64 x.stamp, wv, nv, .int .i64 x.number, lkPtr lp, .int .i64 x.e, .bool x.won]
def LkP (w0 w : World) (z : Sb) (F : List Nat) (lp : Option Nat) (G : List Nat) : Option Lk → Prop
  | none => lp = none ∧ G = []
  | some l => ∃ b, lp = some b ∧ LK w0 w z F b G l
def DmP (w0 w : World) (z : Sb) (F : List Nat) (dp : Nat) (G : List Nat) : Option Dm → Prop
  | none => G = []
  | some y => DM w0 w z F dp G y
/-- A commit in block cb, made since w0; nv: what its next stage is, dp: its dooming's block, H: the blocks that are its own. -/
structure CmN (w0 w : World) (z : Sb) (F : List Nat) (jb cb : Nat) (H : List Nat) (dp : Nat) (nv : Value) (x : Cm) : Prop where
  ex : ∃ wv lp Gl Gd, Blk w cb 210 (cmVals z jb wv nv lp x) ∧ w.ownsRow 0 67 2 wv x.ws.length (prCells x.ws) ∧ LkP w0 w z F lp Gl x.lk ∧ DmP w0 w z F dp Gd x.dm ∧
    H = cb :: (vblk wv ++ (Gl ++ Gd)) ∧ (∀ q, q ∈ cb :: vblk wv → q ∉ Gl ++ Gd) ∧ (∀ q, q ∈ Gl → q ∉ Gd)
  low : ∀ q, q ∈ H → w0.heap.size ≤ q
  off : ∀ q, q ∈ H → q ∉ F
  ty : ∀ q, q ∈ H → ∃ t, tyOf w q = some t ∧ t ∉ spFix
section
variable {w0 w w' w'' : World} {z : Sb} {F F' G G' H H' X : List Nat} {S S' : Sp} {k b jb cb dp dp' : Nat} {x x' : Cm} {l : Option Lk} {y : Option Dm} {lp : Option Nat} {nv nv' wv : Value} {c : Cf} {d d' : Int}
theorem LkP.keeps (h : LkP w0 w z F lp G l) (hk : Keeps X w w') (hX : ∀ q, q ∈ G → q ∉ X) (hF : ∀ q, q ∈ F' → q ∈ F ∨ w.heap.size ≤ q) : LkP w0 w' z F' lp G l := by
  cases l with
  | none => exact h
  | some l => obtain ⟨b, e, h⟩ := h; exact ⟨b, e, h.keeps hk hX hF⟩
theorem DmP.keeps (h : DmP w0 w z F dp G y) (hk : Keeps X w w') (hX : ∀ q, q ∈ G → q ∉ X) (hF : ∀ q, q ∈ F' → q ∈ F ∨ w.heap.size ≤ q) : DmP w0 w' z F' dp G y := by
  cases y with
  | none => exact h
  | some y => exact DM.keeps h hk hX hF
theorem CmN.lt (h : CmN w0 w z F jb cb H dp nv x) : ∀ q, q ∈ H → q < w.heap.size := fun q hq => by
  obtain ⟨t, ht, _⟩ := h.ty q hq
  exact tyOf_lt ht
theorem CmN.apt (h : CmN w0 w z F jb cb H dp nv x) : Apt w0 w F H := ⟨h.low, h.off, h.ty⟩
theorem CmN.keeps (h : CmN w0 w z F jb cb H dp nv x) (hk : Keeps X w w') (hX : ∀ q, q ∈ H → q ∉ X) (hF : ∀ q, q ∈ F' → q ∈ F ∨ w.heap.size ≤ q) : CmN w0 w' z F' jb cb H dp nv x := by
  have hlt := h.lt
  obtain ⟨⟨wv, lp, Gl, Gd, h1, h2, h3, h4, rfl, h6, h7⟩, hlow, hoff, hty⟩ := h
  refine ⟨⟨wv, lp, Gl, Gd, h1.keeps hk (hX cb (by simp)), own_keeps h2 hk (fun q hq => hX q (by simp [vblk, hq])), h3.keeps hk (fun q hq => hX q (by simp [hq])) hF, h4.keeps hk (fun q hq => hX q (by simp [hq])) hF, rfl, h6, h7⟩, hlow, fun q hq hf => ?_, fun q hq => ?_⟩
  · rcases hF q hf with hg | hg
    · exact hoff q hq hg
    · have := hlt q hq; omega
  · obtain ⟨t, ht, hn⟩ := hty q hq
    exact ⟨t, tyOf_keeps ht hk (hX q hq), hn⟩
theorem CmN.calm (h : CmN w0 w z F jb cb H dp nv x) (hk : Keeps [] w w') : CmN w0 w' z F jb cb H dp nv x := h.keeps hk (by simp) (fun q hq => .inl hq)
/-- Beside no space, and back. -/
theorem CmN.bare (h : CmN w0 w z F jb cb H dp nv x) : CmN w0 w z [] jb cb H dp nv x := h.keeps (Keeps.refl [] w) (by simp) (by simp)
theorem LkP.beside (h : LkP w0 w z [] lp G l) (hF : ∀ q, q ∈ G → q ∉ F) : LkP w0 w z F lp G l := by
  cases l with
  | none => exact h
  | some l => obtain ⟨b, e, h⟩ := h; exact ⟨b, e, h.ex, h.low, hF⟩
theorem DmP.beside (h : DmP w0 w z [] dp G y) (hF : ∀ q, q ∈ G → q ∉ F) : DmP w0 w z F dp G y := by
  cases y with
  | none => exact h
  | some y => exact ⟨h.ex, h.low, hF⟩
theorem CmN.beside (h : CmN w0 w z [] jb cb H dp nv x) (hF : ∀ q, q ∈ H → q ∉ F) : CmN w0 w z F jb cb H dp nv x := by
  obtain ⟨⟨wv, lp, Gl, Gd, h1, h2, h3, h4, rfl, h6, h7⟩, hlow, hoff, hty⟩ := h
  exact ⟨⟨wv, lp, Gl, Gd, h1, h2, h3.beside (fun q hq => hF q (by simp [hq])), h4.beside (fun q hq => hF q (by simp [hq])), rfl, h6, h7⟩, hlow, hF, hty⟩
theorem CmN.blk (h : CmN w0 w z F jb cb H dp nv x) : ∃ wv lp, Blk w cb 210 (cmVals z jb wv nv lp x) := by
  obtain ⟨⟨wv, lp, Gl, Gd, h1, _⟩, _⟩ := h
  exact ⟨wv, lp, h1⟩
theorem CmN.inH (h : CmN w0 w z F jb cb H dp nv x) : cb ∈ H := by
  obtain ⟨⟨wv, lp, Gl, Gd, h1, h2, h3, h4, rfl, _⟩, _⟩ := h
  simp
/-- The cells that never change. -/
theorem CmN.fix (h : CmN w0 w z F jb cb H dp nv x) : w.cell? ⟨cb, 0, none⟩ = some (PT z.p) ∧ w.cell? ⟨cb, 1, none⟩ = some (PT jb) ∧ w.cell? ⟨cb, 2, none⟩ = some (.int .i64 x.slot) ∧ w.cell? ⟨cb, 3, none⟩ = some (.int .i64 x.gen) ∧ w.cell? ⟨cb, 4, none⟩ = some (.int .i64 x.thread) ∧ w.cell? ⟨cb, 5, none⟩ = some (.int .i64 x.stamp) := by
  obtain ⟨wv, lp, h1⟩ := h.blk
  exact ⟨(h1.cell 0).trans rfl, (h1.cell 1).trans rfl, (h1.cell 2).trans rfl, (h1.cell 3).trans rfl, (h1.cell 4).trans rfl, (h1.cell 5).trans rfl⟩
theorem CmN.var (h : CmN w0 w z F jb cb H dp nv x) : w.cell? ⟨cb, 7, none⟩ = some nv ∧ w.cell? ⟨cb, 8, none⟩ = some (.int .i64 x.number) ∧ w.cell? ⟨cb, 10, none⟩ = some (.int .i64 x.e) ∧ w.cell? ⟨cb, 11, none⟩ = some (.bool x.won) := by
  obtain ⟨wv, lp, h1⟩ := h.blk
  exact ⟨(h1.cell 7).trans rfl, (h1.cell 8).trans rfl, (h1.cell 10).trans rfl, (h1.cell 11).trans rfl⟩
theorem CmN.frozen (h : CmN w0 w z F jb cb H dp nv x) (i : Nat) : w.frozen? ⟨cb, i, none⟩ = false := by
  obtain ⟨wv, lp, h1⟩ := h.blk
  exact h1.frozen i
theorem CmN.look_none (h : CmN w0 w z F jb cb H dp nv x) (hl : x.lk = none) : w.cell? ⟨cb, 9, none⟩ = some (.pointer none) := by
  obtain ⟨⟨wv, lp, Gl, Gd, h1, h2, h3, _⟩, _⟩ := h
  rw [hl] at h3
  rw [h3.1] at h1
  exact (h1.cell 9).trans rfl
theorem CmN.look_some {l : Lk} (h : CmN w0 w z F jb cb H dp nv x) (hl : x.lk = some l) : ∃ b G, w.cell? ⟨cb, 9, none⟩ = some (PT b) ∧ LK w0 w z F b G l ∧ (∀ q, q ∈ G → q ∈ H ∧ q ≠ cb) := by
  obtain ⟨⟨wv, lp, Gl, Gd, h1, h2, h3, h4, rfl, h6, h7⟩, _⟩ := h
  rw [hl] at h3
  obtain ⟨b, rfl, h3⟩ := h3
  exact ⟨b, Gl, (h1.cell 9).trans rfl, h3, fun q hq => ⟨by simp [hq], fun e => h6 cb (by simp) (by rw [← e]; simp [hq])⟩⟩
theorem CmN.doom_some {y : Dm} (h : CmN w0 w z F jb cb H dp nv x) (hy : x.dm = some y) : ∃ G, DM w0 w z F dp G y ∧ (∀ q, q ∈ G → q ∈ H ∧ q ≠ cb) := by
  obtain ⟨⟨wv, lp, Gl, Gd, h1, h2, h3, h4, rfl, h6, h7⟩, _⟩ := h
  rw [hy] at h4
  exact ⟨Gd, h4, fun q hq => ⟨by simp [hq], fun e => h6 cb (by simp) (by rw [← e]; simp [hq])⟩⟩
theorem CmN.writes (h : CmN w0 w z F jb cb H dp nv x) : ∃ wv, w.cell? ⟨cb, 6, none⟩ = some wv ∧ w.ownsRow 0 67 2 wv x.ws.length (prCells x.ws) := by
  obtain ⟨⟨wv, lp, Gl, Gd, h1, h2, _⟩, _⟩ := h
  exact ⟨wv, (h1.cell 6).trans rfl, h2⟩
/-- A cell of the commit's own is set. -/
theorem CmN.set (h : CmN w0 w z F jb cb H dp nv x) (i : Nat) (v : Value) (he : ∀ wv lp, (cmVals z jb wv nv lp x).setIfInBounds i v = cmVals z jb wv nv' lp x') (e1 : x'.ws = x.ws) (e2 : x'.lk = x.lk) (e3 : x'.dm = x.dm) : CmN w0 (w.setCell ⟨cb, i, none⟩ v) z F jb cb H dp nv' x' := by
  have hk : Keeps [cb] w (w.setCell ⟨cb, i, none⟩ v) := (Keeps.refl [cb] w).setCell (.inl (by simp)) _
  obtain ⟨⟨wv, lp, Gl, Gd, h1, h2, h3, h4, rfl, h6, h7⟩, hlow, hoff, hty⟩ := h
  have hw : ∀ q, q ∈ vblk wv → q ≠ cb := fun q hq e => by
    subst e
    have a := own_tyOf h2 (by simpa [vblk] using hq)
    rw [h1.tyOf] at a
    injection a with a
    exact absurd a (by decide)
  have hg : ∀ q, q ∈ Gl ++ Gd → q ∉ [cb] := fun q hq hx => by
    simp only [List.mem_singleton] at hx
    subst hx
    exact h6 q (by simp) hq
  refine ⟨⟨wv, lp, Gl, Gd, he wv lp ▸ h1.set_ i v, ?_, ?_, ?_, rfl, h6, h7⟩, hlow, hoff, fun q hq => ?_⟩
  · rw [e1]; exact own_keeps h2 hk (fun q hq => by simp only [List.mem_singleton]; exact hw q (by simpa [vblk] using hq))
  · rw [e2]; exact h3.keeps hk (fun q hq => hg q (by simp [hq])) (fun q hq => .inl hq)
  · rw [e3]; exact h4.keeps hk (fun q hq => hg q (by simp [hq])) (fun q hq => .inl hq)
  · obtain ⟨t, ht, hn⟩ := hty q hq
    by_cases e : q = cb
    · subst e
      have := h1.set_ i v
      rw [ht.symm.trans h1.tyOf] at *
      exact ⟨_, this.tyOf, by decide⟩
    · exact ⟨t, tyOf_keeps ht hk (by simp [e]), hn⟩
/-- What a call of a commit leaves. -/
def WentC (w0 w w' : World) (z : Sb) (F H : List Nat) (jb cb dp : Nat) (nv : Value) (S' : Sp) (c : Cf) (d' : Int) (x' : Cm) : Prop :=
  ∃ F' H', SP w0 w' z F' S' ∧ JAt w' jb c d' ∧ CmN w0 w' z F' jb cb H' dp nv x' ∧ Keeps (jb :: (H ++ F)) w w' ∧ (∀ q, q ∈ F' → q ∈ F ∨ w.heap.size ≤ q) ∧ (∀ q, q ∈ H' → q ∈ H ∨ w.heap.size ≤ q)
/-- What lies side by side. -/
structure CmTrio (w0 w : World) (z : Sb) (F H : List Nat) (jb cb dp : Nat) (nv : Value) (S : Sp) (c : Cf) (d : Int) (x : Cm) : Prop where
  sp : SP w0 w z F S
  j : JAt w jb c d
  cm : CmN w0 w z F jb cb H dp nv x
  jH : jb ∉ H
  jlow : w0.heap.size ≤ jb
theorem CmTrio.jF (h : CmTrio w0 w z F H jb cb dp nv S c d x) : jb ∉ F := h.sp.out h.j (by decide)
theorem CmTrio.calm (h : CmTrio w0 w z F H jb cb dp nv S c d x) (hk : Keeps [] w w') : CmTrio w0 w' z F H jb cb dp nv S c d x := ⟨h.sp.calm hk, Blk.keeps h.j hk (by simp), h.cm.calm hk, h.jH, h.jlow⟩
theorem CmTrio.still (h : CmTrio w0 w z F H jb cb dp nv S c d x) (hk : Keeps [] w w') : WentC w0 w w' z F H jb cb dp nv S c d x :=
  ⟨F, H, h.sp.calm hk, Blk.keeps h.j hk (by simp), h.cm.calm hk, hk.mono (by simp), fun q hq => .inl hq, fun q hq => .inl hq⟩
/-- A call of the space. -/
theorem CmTrio.call (h : CmTrio w0 w z F H jb cb dp nv S c d x) (hW : Went w0 w w' z F S') : ∃ F', CmTrio w0 w' z F' H jb cb dp nv S' c d x ∧ Keeps F w w' ∧ (∀ q, q ∈ F' → q ∈ F ∨ w.heap.size ≤ q) := by
  obtain ⟨F', h1, h2, h3⟩ := hW
  exact ⟨F', ⟨h1, Blk.keeps h.j h2 h.jF, h.cm.keeps h2 h.cm.off h3, h.jH, h.jlow⟩, h2, h3⟩
theorem WentC.trio (h : CmTrio w0 w z F H jb cb dp nv S c d x) (hw : WentC w0 w w' z F H jb cb dp' nv' S' c d' x') : ∃ F' H', CmTrio w0 w' z F' H' jb cb dp' nv' S' c d' x' ∧ Keeps (jb :: (H ++ F)) w w' ∧ (∀ q, q ∈ F' → q ∈ F ∨ w.heap.size ≤ q) ∧ (∀ q, q ∈ H' → q ∈ H ∨ w.heap.size ≤ q) := by
  obtain ⟨F', H', h1, h2, h3, h4, h5, h6⟩ := hw
  refine ⟨F', H', ⟨h1, h2, h3, fun hx => ?_, h.jlow⟩, h4, h5, h6⟩
  rcases h6 jb hx with hg | hg
  · exact h.jH hg
  · have := Blk.lt h.j; omega
/-- From the trio at the end. -/
theorem WentC.of (h : CmTrio w0 w' z F' H' jb cb dp nv S c d x) (hk : Keeps (jb :: (H ++ F)) w w') (hF : ∀ q, q ∈ F' → q ∈ F ∨ w.heap.size ≤ q) (hH : ∀ q, q ∈ H' → q ∈ H ∨ w.heap.size ≤ q) : WentC w0 w w' z F H jb cb dp nv S c d x :=
  ⟨F', H', h.sp, h.j, h.cm, hk, hF, hH⟩
/-- Two calls. -/
theorem WentC.trans {w1 : World} {F1 H1 : List Nat} (hk : Keeps (jb :: (H ++ F)) w w1) (hF : ∀ q, q ∈ F1 → q ∈ F ∨ w.heap.size ≤ q) (hH : ∀ q, q ∈ H1 → q ∈ H ∨ w.heap.size ≤ q) (h2 : WentC w0 w1 w' z F1 H1 jb cb dp nv S' c d' x') : WentC w0 w w' z F H jb cb dp nv S' c d' x' := by
  obtain ⟨F', H', a1, a2, a3, a4, a5, a6⟩ := h2
  have hsz := hk.size
  refine ⟨F', H', a1, a2, a3, hk.trans a4 (fun q hq => ?_), fun q hq => ?_, fun q hq => ?_⟩
  · simp only [List.mem_cons, List.mem_append] at hq ⊢
    rcases hq with rfl | hq | hq
    · exact .inl (.inl rfl)
    · exact (hH q hq).imp (fun h => .inr (.inl h)) id
    · exact (hF q hq).imp (fun h => .inr (.inr h)) id
  · rcases a5 q hq with hg | hg
    · exact hF q hg
    · exact .inr (by omega)
  · rcases a6 q hq with hg | hg
    · exact hH q hg
    · exact .inr (by omega)
/-- A cell of the commit's own is set, behind a call. -/
theorem WentC.set (hw : WentC w0 w w' z F H jb cb dp nv S' c d' x) (i : Nat) (v : Value) (he : ∀ wv lp, (cmVals z jb wv nv lp x).setIfInBounds i v = cmVals z jb wv nv' lp x') (e1 : x'.ws = x.ws) (e2 : x'.lk = x.lk) (e3 : x'.dm = x.dm) (hj : jb < w.heap.size) (hjH : jb ∉ H) : WentC w0 w (w'.setCell ⟨cb, i, none⟩ v) z F H jb cb dp nv' S' c d' x' := by
  obtain ⟨F', H', a1, a2, a3, a4, a5, a6⟩ := hw
  have hk : Keeps [cb] w' (w'.setCell ⟨cb, i, none⟩ v) := (Keeps.refl [cb] w').setCell (.inl (by simp)) _
  have hjc : jb ∉ [cb] := fun hx => by
    simp only [List.mem_singleton] at hx
    subst hx
    rcases a6 _ a3.inH with hg | hg
    · exact hjH hg
    · omega
  refine ⟨F', H', a1.apt a3.apt hk (fun q hq => by simp at hq; subst hq; exact a3.inH), Blk.keeps a2 hk hjc, a3.set i v he e1 e2 e3, a4.trans hk (fun q hq => ?_), a5, a6⟩
  simp only [List.mem_singleton] at hq
  subst hq
  rcases a6 _ a3.inH with hg | hg
  · exact .inl (by simp [hg])
  · exact .inr hg
theorem WentC.calm (hw : WentC w0 w w' z F H jb cb dp nv S' c d' x) (hk : Keeps [] w' w'') : WentC w0 w w'' z F H jb cb dp nv S' c d' x := by
  obtain ⟨F', H', a1, a2, a3, a4, a5, a6⟩ := hw
  exact ⟨F', H', a1.calm hk, Blk.keeps a2 hk (by simp), a3.calm hk, a4.trans hk (by simp), a5, a6⟩
theorem CmN.st (h : CmN w0 w z F jb cb H dp nv x) (s : Stg) : CmN w0 w z F jb cb H dp nv (x.at_ s) := by
  obtain ⟨⟨wv, lp, Gl, Gd, h1, h2, h3, h4, h5, h6, h7⟩, hlow, hoff, hty⟩ := h
  exact ⟨⟨wv, lp, Gl, Gd, h1, h2, h3, h4, h5, h6, h7⟩, hlow, hoff, hty⟩
theorem WentC.st (hw : WentC w0 w w' z F H jb cb dp nv S' c d' x) (s : Stg) : WentC w0 w w' z F H jb cb dp nv S' c d' (x.at_ s) := by
  obtain ⟨F', H', a1, a2, a3, a4, a5, a6⟩ := hw
  exact ⟨F', H', a1, a2, a3.st s, a4, a5, a6⟩
end
end Go.Proofs.YtdhgiohjdhcedaaGreat
