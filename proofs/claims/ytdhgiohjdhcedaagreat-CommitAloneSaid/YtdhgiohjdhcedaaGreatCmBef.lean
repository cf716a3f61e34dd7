/- CommitAlone: a commit beside the law's own picture of what stood before. -/
import Derived.Test.YtdhgiohjdhcedaaGreatCmSide
import Derived.Test.YtdhgiohjdhcedaaGreatCmAl
namespace Go.Proofs.YtdhgiohjdhcedaaGreat.al
open Go.RowKit Pol fd
set_option linter.unusedVariables false
set_option linter.unusedSimpArgs false
def viewV (a1 c1 : Nat) (gn go : Int) (a2 c2 : Nat) : Array Value := #[.slice (some ⟨a1, 0, none⟩) 64 c1, .int .i64 gn, .int .i64 go, .slice (some ⟨a2, 0, none⟩) 8 c2]
structure Bef (wb w : World) (z : Sb) (jb cb k : Nat) (S : Sp) (c : Cf) (d : Int) (x : Cm) (gw nw cw : Nat) (ws : List Pr) (vv : Value) (fs : List Vc) (zv a1 c1 a2 c2 : Nat) (gn go : Int) (C : List Int) (H : List Hd) (W : List Int) : Prop where
  cm : CmS wb w z jb cb 8 k S c d x (gw :: zv :: a1 :: a2 :: vblk vv)
  ws : w.ownsRow 0 67 2 (.slice (some ⟨gw, 0, none⟩) nw cw) nw (prCells ws)
  vs : w.ownsRow 0 73 4 vv fs.length (vcCells fs)
  view : Blk w zv 45 (viewV a1 c1 gn go a2 c2)
  cl : OwnC w a1 c1 C
  sl : w.ownsRow 0 60 8 (.slice (some ⟨a2, 0, none⟩) 8 c2) 8 (slC H W)
section
variable {wb w w' : World} {z : Sb} {jb cb k : Nat} {S : Sp} {c : Cf} {d : Int} {x : Cm} {gw nw cw : Nat} {ws : List Pr} {vv : Value} {fs : List Vc} {zv a1 c1 a2 c2 : Nat} {gn go : Int} {C : List Int} {H : List Hd} {W : List Int}
theorem Bef.calm (h : Bef wb w z jb cb k S c d x gw nw cw ws vv fs zv a1 c1 a2 c2 gn go C H W) (hk : Keeps [] w w') : Bef wb w' z jb cb k S c d x gw nw cw ws vv fs zv a1 c1 a2 c2 gn go C H W :=
  ⟨h.cm.calm hk, own_keeps h.ws hk (by simp), own_keeps h.vs hk (by simp), h.view.keeps hk (by simp), own_keeps h.cl hk (by simp), own_keeps h.sl hk (by simp)⟩
theorem Bef.step (h : Bef wb w z jb cb k S c d x gw nw cw ws vv fs zv a1 c1 a2 c2 gn go C H W) (hk : k + 1 ≤ 1099511627776) :
    Calls Tryz.prog 28 #[PT cb] w fun e w' => e = .returned (.int .i64 (x.step S d).1) ∧ Bef wb w' z jb cb (k + 1) (x.step S d).2.2.1 c (x.step S d).2.2.2 (x.step S d).2.1 gw nw cw ws vv fs zv a1 c1 a2 c2 gn go C H W :=
  (h.cm.step hk).mono fun e w' ⟨he, h2, hx⟩ => ⟨he, h2, hx.own h.ws (fun q hq => by simp [Value.ownBlock] at hq; simp [hq]), hx.own h.vs (fun q hq => by simp [vblk, hq]), hx.blk h.view (by simp), hx.own h.cl (fun q hq => by simp [Value.ownBlock] at hq; simp [hq]), hx.own h.sl (fun q hq => by simp [Value.ownBlock] at hq; simp [hq])⟩
theorem ty_ne {p q : Nat} {t u : TypeId} (h1 : tyOf w p = some t) (h2 : tyOf w q = some u) (h : t ≠ u) : p ≠ q := fun e => by
  subst e
  rw [h1] at h2
  injection h2 with h2
  exact h h2
theorem Bef.tys (h : Bef wb w z jb cb k S c d x gw nw cw ws vv fs zv a1 c1 a2 c2 gn go C H W) : tyOf w gw = some 67 ∧ tyOf w zv = some 45 ∧ tyOf w a1 = some 2 ∧ tyOf w a2 = some 60 ∧ ∀ q, vv.ownBlock = some q → tyOf w q = some 73 :=
  ⟨own_tyOf h.ws rfl, h.view.tyOf, own_tyOf h.cl rfl, own_tyOf h.sl rfl, fun q hq => own_tyOf h.vs hq⟩
/-- A cell of the picture is set. -/
theorem Bef.store (h : Bef wb w z jb cb k S c d x gw nw cw ws vv fs zv a1 c1 a2 c2 gn go C H W) (i : Nat) (y : Int) : Bef wb (w.setCell ⟨a1, i, none⟩ (.int .i64 y)) z jb cb k S c d x gw nw cw ws vv fs zv a1 c1 a2 c2 gn go (C.set i y) H W := by
  obtain ⟨t1, t2, t3, t4, t5⟩ := h.tys
  have hk : Keeps [a1] w (w.setCell ⟨a1, i, none⟩ (.int .i64 y)) := (Keeps.refl _ _).setCell (.inl (by simp)) _
  have hst := (World.ownsRow.stored h.cl i (.int .i64 y)).1
  have hset : (C.flatMap RowI.cells).set i (.int .i64 y) = (C.set i y).flatMap RowI.cells := by
    have e : ∀ l : List Int, l.flatMap RowI.cells = l.map (Value.int .i64) := fun l => by
      induction l with
      | nil => rfl
      | cons y l ih => simp [RowI.cells] at ih ⊢; exact ih
    rw [e, e, List.map_set]
  rw [hset] at hst
  have n1 := ty_ne t1 t3 (by decide)
  have n2 := ty_ne t2 t3 (by decide)
  have n4 := ty_ne t4 t3 (by decide)
  have hcl : OwnC (w.setCell ⟨a1, i, none⟩ (.int .i64 y)) a1 c1 (C.set i y) := by
    unfold OwnC
    rw [List.length_set]
    exact hst
  refine ⟨h.cm.away hk (fun q hq => by simp at hq; simp [hq]) (fun q hq => ?_), own_keeps h.ws hk (fun q hq => ?_), own_keeps h.vs hk (fun q hq => ?_), h.view.keeps hk (by simpa using n2), hcl, own_keeps h.sl hk (fun q hq => ?_)⟩
  · simp at hq; subst hq; rw [t3]; exact own_tyOf hst rfl
  · simp [Value.ownBlock] at hq; subst hq; simpa using n1
  · have := ty_ne (t5 q hq) t3 (by decide); simpa using this
  · simp [Value.ownBlock] at hq; subst hq; simpa using n4
/-- Cells of the picture's slots are set. -/
theorem Bef.slot (h : Bef wb w z jb cb k S c d x gw nw cw ws vv fs zv a1 c1 a2 c2 gn go C H W) {H' : List Hd} (hk : Keeps [a2] w w') (hs : w'.ownsRow 0 60 8 (.slice (some ⟨a2, 0, none⟩) 8 c2) 8 (slC H' W)) : Bef wb w' z jb cb k S c d x gw nw cw ws vv fs zv a1 c1 a2 c2 gn go C H' W := by
  obtain ⟨t1, t2, t3, t4, t5⟩ := h.tys
  have n1 := ty_ne t1 t4 (by decide)
  have n2 := ty_ne t2 t4 (by decide)
  have n3 := ty_ne t3 t4 (by decide)
  refine ⟨h.cm.away hk (fun q hq => by simp at hq; simp [hq]) (fun q hq => ?_), own_keeps h.ws hk (fun q hq => ?_), own_keeps h.vs hk (fun q hq => ?_), h.view.keeps hk (by simpa using n2), own_keeps h.cl hk (fun q hq => ?_), hs⟩
  · simp at hq; subst hq; rw [t4]; exact own_tyOf hs rfl
  · simp [Value.ownBlock] at hq; subst hq; simpa using n1
  · have := ty_ne (t5 q hq) t4 (by decide); simpa using this
  · simp [Value.ownBlock] at hq; subst hq; simpa using n3
/-- The picture's gate is set. -/
theorem Bef.gate (h : Bef wb w z jb cb k S c d x gw nw cw ws vv fs zv a1 c1 a2 c2 gn go C H W) (g' o' : Int) (hk : Keeps [zv] w w') (hb : Blk w' zv 45 (viewV a1 c1 g' o' a2 c2)) : Bef wb w' z jb cb k S c d x gw nw cw ws vv fs zv a1 c1 a2 c2 g' o' C H W := by
  obtain ⟨t1, t2, t3, t4, t5⟩ := h.tys
  have n1 := ty_ne t1 t2 (by decide)
  have n3 := ty_ne t3 t2 (by decide)
  have n4 := ty_ne t4 t2 (by decide)
  refine ⟨h.cm.away hk (fun q hq => by simp at hq; simp [hq]) (fun q hq => ?_), own_keeps h.ws hk (fun q hq => ?_), own_keeps h.vs hk (fun q hq => ?_), hb, own_keeps h.cl hk (fun q hq => ?_), own_keeps h.sl hk (fun q hq => ?_)⟩
  · simp at hq; subst hq; rw [t2]; exact hb.tyOf
  · simp [Value.ownBlock] at hq; subst hq; simpa using n1
  · have := ty_ne (t5 q hq) t2 (by decide); simpa using this
  · simp [Value.ownBlock] at hq; subst hq; simpa using n3
  · simp [Value.ownBlock] at hq; subst hq; simpa using n4
/-- A head in the row of slots. -/
theorem slC_head : ∀ (H : List Hd) (W : List Int) (i : Nat) (y : Hd), W.length = 2 * H.length → i < H.length →
    slC (H.set i y) W = ((((((slC H W).set (i * 8) (.int .i64 y.gen)).set (i * 8 + 1) (.int .i64 y.state)).set (i * 8 + 2) (.int .i64 y.stamp)).set (i * 8 + 3) (.int .i64 y.thread)).set (i * 8 + 4) (.bool y.doomed)).set (i * 8 + 5) (.int .i64 y.who)
  | [], _, i, y, _, h => by simp at h
  | x :: H, a :: b :: W, 0, y, hw, h => rfl
  | x :: H, a :: b :: W, i + 1, y, hw, h => by
    simp at h hw
    have ih := slC_head H W i y (by omega) h
    have e : ∀ j, (i + 1) * 8 + j = (i * 8 + j) + 8 := fun j => by omega
    have e0 : (i + 1) * 8 = i * 8 + 8 := by omega
    rw [e, e, e, e, e, e0]
    show Sl.cells ⟨x, a, b⟩ ++ slC (H.set i y) W = _
    rw [ih]
    rfl
  | x :: H, [], _, _, hw, _ => by simp at hw
  | x :: H, [a], _, _, hw, _ => by simp at hw; omega
theorem slC_dm1 : ∀ (H : List Hd) (W : List Int) (i : Nat) (x : Hd), W.length = 2 * H.length → H[i]? = some x →
    slC (H.set i (dm1 x)) W = ((slC H W).set (i * 8 + 4) (.bool true)).set (i * 8 + 5) (.int .i64 1)
  | [], _, i, x, _, h => by simp at h
  | y :: H, a :: b :: W, 0, x, hw, h => by
    simp at h
    subst h
    rfl
  | y :: H, a :: b :: W, i + 1, x, hw, h => by
    simp at h hw
    have ih := slC_dm1 H W i x (by omega) h
    have e1 : (i + 1) * 8 + 4 = i * 8 + 4 + 8 := by omega
    have e2 : (i + 1) * 8 + 5 = i * 8 + 5 + 8 := by omega
    rw [e1, e2]
    show Sl.cells ⟨y, a, b⟩ ++ slC (H.set i (dm1 x)) W = _
    rw [ih]
    rfl
  | y :: H, [], _, _, hw, _ => by simp at hw
  | y :: H, [a], _, _, hw, _ => by simp at hw; omega
end
end Go.Proofs.YtdhgiohjdhcedaaGreat.al
