/- A law that plays: machines of the program's and of the document's in two arrays of four, beside a space and the document's, in one bundle; what a machine is comes as a kit. -/
import Derived.Test.YtmlnedilbneekaaGreatRawF
import Derived.Test.YtmlnedilbneekaaGreatRpNew
import Derived.Test.YtmlnedilbneekaaGreatSpF
namespace Go.Proofs.YtmlnedilbneekaaGreat
open Go.RowKit
set_option linter.unusedVariables false
set_option linter.unusedSimpArgs false
theorem i64_and3 (n : Int) : bits .and .i64 n 3 = n % 4 := by
  have hm : (BitVec.ofInt 64 3).toNat = 2 ^ 2 - 1 := by decide
  have key : (BitVec.ofInt 64 n &&& BitVec.ofInt 64 3).toNat = (n % ((2 ^ 64 : Nat) : Int)).toNat % 2 ^ 2 := by
    rw [BitVec.toNat_and, BitVec.toNat_ofInt, hm, Nat.and_two_pow_sub_one_eq_mod]
  show IntKind.i64.wrap ((BitVec.ofInt 64 n &&& BitVec.ofInt 64 3).toNat : Nat) = n % 4
  rw [key, IntKind.wrap_i64]
  omega
/-- A function, but for one place. -/
def upd' {ι α : Type} [DecidableEq ι] (f : ι → α) (i : ι) (x : α) : ι → α := fun j => if j = i then x else f j
theorem upd_at {ι α : Type} [DecidableEq ι] (f : ι → α) (i : ι) (x : α) : upd' f i x i = x := if_pos rfl
theorem upd_off {ι α : Type} [DecidableEq ι] (f : ι → α) (i : ι) (x : α) {j : ι} (h : j ≠ i) : upd' f i x j = f j := if_neg h
theorem raw_c (S : Sp) (kd i n x : Int) : (S.raw kd i n x).c = S.c := by
  unfold Sp.raw
  split; (unfold Sp.store; split <;> rfl)
  split; (unfold Sp.take; split; rfl; split <;> rfl)
  split; (unfold Sp.give; split; rfl; split <;> rfl)
  split; (unfold Sp.claim; split; rfl; split; rfl; split <;> rfl)
  split; (unfold Sp.ready; split; rfl; split; rfl; split <;> rfl)
  split; (unfold Sp.doom; split; rfl; split; rfl; split <;> rfl)
  split; (unfold Sp.free; split; rfl; split <;> rfl)
  split; (unfold Sp.put; split <;> rfl)
  rfl
/-- What a machine is, on either side; the types of the two arrays and of a step. -/
structure Kit (σ : Type) where
  PM : Sb → World → List Nat → Nat → σ → Prop
  PD : Rb → World → List Nat → Nat → σ → Prop
  TX : TypeId
  TY : TypeId
  TO : TypeId
  xy : TX ≠ TY
  xf : TX ∉ fixT
  yf : TY ∉ fixT
  of : TO ∉ fixT
  lm : ∀ w0 z a x, Lies w0 (fun w G => PM z w G a x)
  ld : ∀ w0 y a x, Lies w0 (fun w G => PD y w G a x)
  tm : ∀ z w G a x, PM z w G a x → ∀ q, q ∈ G → ∃ t, tyOf w q = some t ∧ t ∉ fixT
  td : ∀ y w G a x, PD y w G a x → ∀ q, q ∈ G → ∃ t, tyOf w q = some t ∧ t ∉ fixT
namespace PR
/-- The parts: the space, the document's, the two arrays, a step's box, the machines. -/
inductive Pt
  | s | r | xs | ys | o
  | m (i : Nat)
  | d (i : Nat)
deriving DecidableEq
section
variable {σ : Type}
def pv : Option (Nat × σ) → Value
  | none => .pointer none
  | some (a, _) => PT a
def arr (M : Nat → Option (Nat × σ)) : Array Value := #[pv (M 0), pv (M 1), pv (M 2), pv (M 3)]
def mPart (P : World → List Nat → Nat → σ → Prop) : Option (Nat × σ) → World → List Nat → Prop
  | none => fun w F => F = []
  | some (a, x) => fun w F => P w F a x
def oPart (TO : TypeId) : Option (Nat × Array Value) → World → List Nat → Prop
  | none => fun w F => F = []
  | some (b, cs) => fun w F => F = [b] ∧ Blk w b TO cs
theorem oPart_lies {w0 : World} {TO : TypeId} : ∀ q, Lies w0 (oPart TO q)
  | none => lies_none
  | some (b, cs) => lies_blk b TO cs
theorem mPart_lies {w0 : World} {P : World → List Nat → Nat → σ → Prop} (h : ∀ a x, Lies w0 (fun w G => P w G a x)) : ∀ q, Lies w0 (mPart P q)
  | none => lies_none
  | some (a, x) => h a x
variable (K : Kit σ)
def parts (w0 : World) (z : Sb) (y : Rb) (xb yb : Nat) (O : Option (Nat × Array Value)) (S T : Sp) (M N : Nat → Option (Nat × σ)) : Pt → World → List Nat → Prop
  | .s => fun w F => SP w0 w z F S
  | .r => fun w F => RP w0 w y F T
  | .xs => fun w F => F = [xb] ∧ Blk w xb K.TX (arr M)
  | .ys => fun w F => F = [yb] ∧ Blk w yb K.TY (arr N)
  | .o => oPart K.TO O
  | .m i => mPart (K.PM z) (M i)
  | .d i => mPart (K.PD y) (N i)
theorem parts_lies (w0 : World) (z : Sb) (y : Rb) (xb yb : Nat) (O : Option (Nat × Array Value)) (S T : Sp) (M N : Nat → Option (Nat × σ)) : ∀ p, Lies w0 (parts K w0 z y xb yb O S T M N p)
  | .s => lies_sp z S
  | .r => lies_rp y T
  | .xs => lies_blk xb K.TX (arr M)
  | .ys => lies_blk yb K.TY (arr N)
  | .o => oPart_lies O
  | .m i => mPart_lies (K.lm w0 z) (M i)
  | .d i => mPart_lies (K.ld w0 y) (N i)
section
variable {K : Kit σ} {w0 : World} {z : Sb} {y : Rb} {xb yb : Nat} {O : Option (Nat × Array Value)} {S T : Sp} {M N : Nat → Option (Nat × σ)}
theorem parts_m (i : Nat) : parts K w0 z y xb yb O S T M N (.m i) = mPart (K.PM z) (M i) := rfl
theorem parts_d (i : Nat) : parts K w0 z y xb yb O S T M N (.d i) = mPart (K.PD y) (N i) := rfl
theorem parts_xs : parts K w0 z y xb yb O S T M N .xs = fun w F => F = [xb] ∧ Blk w xb K.TX (arr M) := rfl
theorem parts_ys : parts K w0 z y xb yb O S T M N .ys = fun w F => F = [yb] ∧ Blk w yb K.TY (arr N) := rfl
end
structure Rig (w0 w : World) (z : Sb) (y : Rb) (xb yb : Nat) (O : Option (Nat × Array Value)) (S T : Sp) (M N : Nat → Option (Nat × σ)) : Prop where
  ex : ∃ G, Sep w0 w (parts K w0 z y xb yb O S T M N) G
theorem arr_same {M : Nat → Option (Nat × σ)} {i a : Nat} {x x' : σ} (h : M i = some (a, x)) : arr (upd' M i (some (a, x'))) = arr M := by
  have hp : ∀ k, pv (upd' M i (some (a, x')) k) = pv (M k) := fun k => by
    by_cases e : k = i
    · subst e; rw [upd_at, h]; rfl
    · rw [upd_off _ _ _ e]
  unfold arr
  rw [hp, hp, hp, hp]
theorem arr_get (M : Nat → Option (Nat × σ)) {j : Nat} (h : j < 4) : (arr M)[j]? = some (pv (M j)) := by
  have : j = 0 ∨ j = 1 ∨ j = 2 ∨ j = 3 := by omega
  rcases this with rfl | rfl | rfl | rfl <;> rfl
theorem arr_set (M : Nat → Option (Nat × σ)) {j : Nat} (h : j < 4) (q : Option (Nat × σ)) : (arr M).setIfInBounds j (pv q) = arr (upd' M j q) := by
  have : j = 0 ∨ j = 1 ∨ j = 2 ∨ j = 3 := by omega
  rcases this with rfl | rfl | rfl | rfl <;> simp [arr, upd']
end
section
variable {σ : Type} {K : Kit σ} {w0 w w1 w' : World} {z : Sb} {y : Rb} {xb yb k : Nat} {O : Option (Nat × Array Value)} {S S' T T' : Sp} {M N : Nat → Option (Nat × σ)} {G : Pt → List Nat} {F' G' X : List Nat} {i j a : Nat} {x x' : σ}
theorem Rig.calm (h : Rig K w0 w z y xb yb O S T M N) (hk : Keeps [] w w') : Rig K w0 w' z y xb yb O S T M N := by
  obtain ⟨G, hs⟩ := h
  exact ⟨G, hs.calm hk⟩
theorem Rig.keep (h : Rig K w0 w z y xb yb O S T M N) : Keeps [] w0 w := by
  obtain ⟨G, hs⟩ := h
  exact hs.keep
theorem Rig.xs (h : Rig K w0 w z y xb yb O S T M N) : Blk w xb K.TX (arr M) := by
  obtain ⟨G, hs⟩ := h
  exact (hs.at_ .xs).2
theorem Rig.ys (h : Rig K w0 w z y xb yb O S T M N) : Blk w yb K.TY (arr N) := by
  obtain ⟨G, hs⟩ := h
  exact (hs.at_ .ys).2
theorem Rig.sp (h : Rig K w0 w z y xb yb O S T M N) : ∃ F, SP w0 w z F S := by
  obtain ⟨G, hs⟩ := h
  exact ⟨_, hs.at_ .s⟩
theorem Rig.rp (h : Rig K w0 w z y xb yb O S T M N) : ∃ F, RP w0 w y F T := by
  obtain ⟨G, hs⟩ := h
  exact ⟨_, hs.at_ .r⟩
theorem Rig.box {b : Nat} {cs : Array Value} (h : Rig K w0 w z y xb yb (some (b, cs)) S T M N) : Blk w b K.TO cs := by
  obtain ⟨G, hs⟩ := h
  exact (hs.at_ .o).2
theorem Rig.m_of (h : Rig K w0 w z y xb yb O S T M N) (e : M j = some (a, x)) : ∃ F, K.PM z w F a x := by
  obtain ⟨G, hs⟩ := h
  have := hs.at_ (.m j)
  rw [parts_m, e] at this
  exact ⟨_, this⟩
theorem Rig.d_of (h : Rig K w0 w z y xb yb O S T M N) (e : N j = some (a, x)) : ∃ F, K.PD y w F a x := by
  obtain ⟨G, hs⟩ := h
  have := hs.at_ (.d j)
  rw [parts_d, e] at this
  exact ⟨_, this⟩
theorem Rig.zc (h : Rig K w0 w z y xb yb O S T M N) : w.cell? ⟨z.p, 0, none⟩ = some (PT z.m) := by
  obtain ⟨_, hs⟩ := h.sp
  exact hs.cells.1
theorem Rig.yc (h : Rig K w0 w z y xb yb O S T M N) : w.cell? ⟨y.p, 6, none⟩ = some (PT y.m) := by
  obtain ⟨_, hs⟩ := h.rp
  exact hs.cells.2.2.2.1
theorem Rig.done_cell (h : Rig K w0 w z y xb yb O S T M N) : w.cell? ⟨y.m, 2, none⟩ = some (.int .i64 T.met.done) := by
  obtain ⟨_, hr⟩ := h.rp
  obtain ⟨lb, v, hs, _⟩ := hr.ex
  obtain ⟨vx, hmx⟩ := hs.met
  exact (hmx.blk.cell 2).trans rfl
theorem Rig.done_call (h : Rig K w0 w z y xb yb O S T M N) : Calls Tryz.prog 19 #[PT z.m] w fun e w' => e = .returned (.int .i64 S.met.done) ∧ w = w' := by
  obtain ⟨_, hs⟩ := h.sp
  exact sp_done hs
theorem Rig.cx (h : Rig K w0 w z y xb yb O S T M N) (hj : j < 4) : w.cell? ⟨xb, j, none⟩ = some (pv (M j)) := by rw [h.xs.cell j, arr_get M hj]
theorem Rig.cy (h : Rig K w0 w z y xb yb O S T M N) (hj : j < 4) : w.cell? ⟨yb, j, none⟩ = some (pv (N j)) := by rw [h.ys.cell j, arr_get N hj]
theorem Rig.cx_none (h : Rig K w0 w z y xb yb O S T M N) (hj : j < 4) (e : M j = none) : w.cell? ⟨xb, j, none⟩ = some (.pointer none) := by rw [h.cx hj, e]; rfl
theorem Rig.cy_none (h : Rig K w0 w z y xb yb O S T M N) (hj : j < 4) (e : N j = none) : w.cell? ⟨yb, j, none⟩ = some (.pointer none) := by rw [h.cy hj, e]; rfl
theorem Rig.cx_some (h : Rig K w0 w z y xb yb O S T M N) (hj : j < 4) (e : M j = some (a, x)) : w.cell? ⟨xb, j, none⟩ = some (PT a) := by rw [h.cx hj, e]; rfl
theorem Rig.cy_some (h : Rig K w0 w z y xb yb O S T M N) (hj : j < 4) (e : N j = some (a, x)) : w.cell? ⟨yb, j, none⟩ = some (PT a) := by rw [h.cy hj, e]; rfl
theorem space (hs : Sep w0 w (parts K w0 z y xb yb O S T M N) G) (hw : Went w0 w w' z (G .s) S') : Rig K w0 w' z y xb yb O S' T M N := by
  obtain ⟨F', h1, h2, h3⟩ := hw
  refine ⟨upd' G .s F', hs.one .s h2 (fun q hq => hq) (fun j hj => ⟨?_, upd_off _ _ _ hj⟩) ?_ (parts_lies _ _ _ _ _ _ _ _ _ _ _ _) ?_ ?_⟩
  · cases j <;> first | rfl | exact absurd rfl hj
  · rw [upd_at]; exact h1
  · rw [upd_at]; exact h1.apart
  · rw [upd_at]; exact h3
theorem doc (hs : Sep w0 w (parts K w0 z y xb yb O S T M N) G) (hw : RWent w0 w w' y (G .r) T') : Rig K w0 w' z y xb yb O S T' M N := by
  obtain ⟨F', h1, h2, h3⟩ := hw
  refine ⟨upd' G .r F', hs.one .r h2 (fun q hq => hq) (fun j hj => ⟨?_, upd_off _ _ _ hj⟩) ?_ (parts_lies _ _ _ _ _ _ _ _ _ _ _ _) ?_ ?_⟩
  · cases j <;> first | rfl | exact absurd rfl hj
  · rw [upd_at]; exact h1
  · rw [upd_at]; exact h1.apart
  · rw [upd_at]; exact h3
theorem Rig.turn (h : Rig K w0 w z y xb yb O S T M N) (t : Int) : Calls Tryz.prog 13 #[PT z.p, .int .i64 t] w fun e w' => e = .returned (.tuple #[]) ∧ Rig K w0 w' z y xb yb O (S.begin t) T M N := by
  obtain ⟨G, hs⟩ := h
  exact (sp_turn (hs.at_ .s) t).mono fun e w' ⟨he, hw⟩ => ⟨he, space hs hw⟩
theorem Rig.begin (h : Rig K w0 w z y xb yb O S T M N) (t : Int) : Calls Tryz.prog 14 #[PT y.m, .int .i64 t] w fun e w' => e = .returned (.tuple #[]) ∧ Rig K w0 w' z y xb yb O S (T.begin t) M N := by
  obtain ⟨G, hs⟩ := h
  exact (rp_begin (hs.at_ .r) t).mono fun e w' ⟨he, hw⟩ => ⟨he, doc hs hw⟩
/-- Two spaces that hold the same, as a pair. -/
theorem two (hs : Sep w0 w (parts K w0 z y xb yb O S S M N) G) : Two w0 w z (G .s) y (G .r) S S := ⟨hs.at_ .s, hs.at_ .r, fun x hx => hs.dif .s .r (by decide) x hx⟩
theorem both (hs : Sep w0 w (parts K w0 z y xb yb O S S M N) G) (h : TwoWent w0 w w' z (G .s) y (G .r) S') : Rig K w0 w' z y xb yb O S' S' M N := by
  obtain ⟨F', G', h1, h2, h3, h4⟩ := h
  refine ⟨upd' (upd' G .s F') .r G', ?_⟩
  refine hs.two .s .r (by decide) h2 (fun q hq => by rw [List.mem_append] at hq; exact hq) (fun j h5 h6 => ⟨?_, by rw [upd_off _ _ _ h6, upd_off _ _ _ h5]⟩) ?_ (parts_lies _ _ _ _ _ _ _ _ _ _ _ _) ?_ ?_ ?_ (parts_lies _ _ _ _ _ _ _ _ _ _ _ _) ?_ ?_ ?_
  · cases j <;> first | rfl | exact absurd rfl h5 | exact absurd rfl h6
  · rw [upd_off _ _ _ (by decide), upd_at]; exact h1.sp
  · rw [upd_off _ _ _ (by decide), upd_at]; exact h1.sp.apart
  · rw [upd_off _ _ _ (by decide), upd_at]; exact fun q hq => (h3 q hq).imp Or.inl id
  · rw [upd_at]; exact h1.rp
  · rw [upd_at]; exact h1.rp.apart
  · rw [upd_at]; exact fun q hq => (h4 q hq).imp Or.inr id
  · rw [upd_off _ _ _ (by decide), upd_at, upd_at]; exact h1.far
/-- A box is laid. -/
theorem Rig.laid (h : Rig K w0 w z y xb yb none S T M N) (cs : Array Value) : Rig K w0 (w.alloc (.cells cs K.TO)) z y xb yb (some (w.heap.size, cs)) S T M N := by
  obtain ⟨G, hs⟩ := h
  refine ⟨upd' G .o [w.heap.size], hs.one .o ((Keeps.refl [] w).alloc _) (by simp) (fun j hj => ⟨?_, upd_off _ _ _ hj⟩) ?_ (parts_lies _ _ _ _ _ _ _ _ _ _ _ _) ?_ ?_⟩
  · cases j <;> first | rfl | exact absurd rfl hj
  · rw [upd_at]; exact ⟨rfl, Blk.new _ _ _⟩
  · rw [upd_at]; exact apart_blk (Blk.new w K.TO cs) hs.keep.size K.of
  · rw [upd_at]; exact fun q hq => .inr (by simp at hq; omega)
theorem Rig.left (h : Rig K w0 w z y xb yb O S T M N) : Rig K w0 w z y xb yb none S T M N := by
  obtain ⟨G, hs⟩ := h
  refine ⟨upd' G .o [], hs.one .o (Keeps.refl [] w) (by simp) (fun j hj => ⟨?_, upd_off _ _ _ hj⟩) ?_ (parts_lies _ _ _ _ _ _ _ _ _ _ _ _) ?_ ?_⟩
  · cases j <;> first | rfl | exact absurd rfl hj
  · rw [upd_at]; exact rfl
  · rw [upd_at]; exact Apart.nil
  · rw [upd_at]; simp
/-- A step of the program's machine i. -/
theorem mach (hs : Sep w0 w (parts K w0 z y xb yb O S T M N) G) (hm : M i = some (a, x)) (hk : Keeps X w w') (hX : ∀ q, q ∈ X → q ∈ G .s ∨ q ∈ G (.m i)) (h1 : SP w0 w' z F' S') (h3 : ∀ q, q ∈ F' → q ∈ G .s ∨ w.heap.size ≤ q)
    (h4 : K.PM z w' G' a x') (h5 : ∀ q, q ∈ G' → q ∈ G (.m i) ∨ w.heap.size ≤ q) (hd : ∀ q, q ∈ F' → q ∉ G') : Rig K w0 w' z y xb yb O S' T (upd' M i (some (a, x'))) N := by
  have hlow : ∀ q, q ∈ G' → w0.heap.size ≤ q := fun q hq => (h5 q hq).elim ((hs.apart (.m i)).low q) (fun h => Nat.le_trans hs.keep.size h)
  refine ⟨upd' (upd' G .s F') (.m i) G', ?_⟩
  refine hs.two .s (.m i) (by simp) hk hX (fun j h5 h6 => ⟨?_, by rw [upd_off _ _ _ h6, upd_off _ _ _ h5]⟩) ?_ (parts_lies _ _ _ _ _ _ _ _ _ _ _ _) ?_ ?_ ?_ (parts_lies _ _ _ _ _ _ _ _ _ _ _ _) ?_ ?_ ?_
  · cases j with
    | s => exact absurd rfl h5
    | m q =>
      have hqi : q ≠ i := fun e => h6 (e ▸ rfl)
      simp only [parts_m]
      rw [upd_off _ _ _ hqi]
    | xs => simp only [parts_xs]; rw [arr_same hm]
    | _ => rfl
  · rw [upd_off _ _ _ (by simp), upd_at]; exact h1
  · rw [upd_off _ _ _ (by simp), upd_at]; exact h1.apart
  · rw [upd_off _ _ _ (by simp), upd_at]; exact fun q hq => (h3 q hq).imp Or.inl id
  · rw [upd_at]; simp only [parts_m]; rw [upd_at]; exact h4
  · rw [upd_at]; exact ⟨hlow, K.tm _ _ _ _ _ h4⟩
  · rw [upd_at]; exact fun q hq => (h5 q hq).imp Or.inr id
  · rw [upd_off _ _ _ (by simp), upd_at, upd_at]; exact hd
/-- A step of the document's machine i. -/
theorem dmach (hs : Sep w0 w (parts K w0 z y xb yb O S T M N) G) (hm : N i = some (a, x)) (hk : Keeps X w w') (hX : ∀ q, q ∈ X → q ∈ G .r ∨ q ∈ G (.d i)) (h1 : RP w0 w' y F' T') (h3 : ∀ q, q ∈ F' → q ∈ G .r ∨ w.heap.size ≤ q)
    (h4 : K.PD y w' G' a x') (h5 : ∀ q, q ∈ G' → q ∈ G (.d i) ∨ w.heap.size ≤ q) (hd : ∀ q, q ∈ F' → q ∉ G') : Rig K w0 w' z y xb yb O S T' M (upd' N i (some (a, x'))) := by
  have hlow : ∀ q, q ∈ G' → w0.heap.size ≤ q := fun q hq => (h5 q hq).elim ((hs.apart (.d i)).low q) (fun h => Nat.le_trans hs.keep.size h)
  refine ⟨upd' (upd' G .r F') (.d i) G', ?_⟩
  refine hs.two .r (.d i) (by simp) hk hX (fun j h5 h6 => ⟨?_, by rw [upd_off _ _ _ h6, upd_off _ _ _ h5]⟩) ?_ (parts_lies _ _ _ _ _ _ _ _ _ _ _ _) ?_ ?_ ?_ (parts_lies _ _ _ _ _ _ _ _ _ _ _ _) ?_ ?_ ?_
  · cases j with
    | r => exact absurd rfl h5
    | d q =>
      have hqi : q ≠ i := fun e => h6 (e ▸ rfl)
      simp only [parts_d]
      rw [upd_off _ _ _ hqi]
    | ys => simp only [parts_ys]; rw [arr_same hm]
    | _ => rfl
  · rw [upd_off _ _ _ (by simp), upd_at]; exact h1
  · rw [upd_off _ _ _ (by simp), upd_at]; exact h1.apart
  · rw [upd_off _ _ _ (by simp), upd_at]; exact fun q hq => (h3 q hq).imp Or.inl id
  · rw [upd_at]; simp only [parts_d]; rw [upd_at]; exact h4
  · rw [upd_at]; exact ⟨hlow, K.td _ _ _ _ _ h4⟩
  · rw [upd_at]; exact fun q hq => (h5 q hq).imp Or.inr id
  · rw [upd_off _ _ _ (by simp), upd_at, upd_at]; exact hd
/-- A machine made since w in the blocks g (or none). -/
def Fresh (w w' : World) (P : World → List Nat → Nat → σ → Prop) (g : List Nat) : Option (Nat × σ) → Prop
  | none => g = []
  | some (a, x) => P w' g a x ∧ ∀ q, q ∈ g → w.heap.size ≤ q
theorem Fresh.low {P : World → List Nat → Nat → σ → Prop} {g : List Nat} : ∀ {p : Option (Nat × σ)}, Fresh w w' P g p → ∀ q, q ∈ g → w.heap.size ≤ q
  | none, h, q, hq => by rw [show g = [] from h] at hq; simp at hq
  | some _, h, q, hq => h.2 q hq
/-- Machine j is made anew, on both sides. -/
theorem Rig.renew (hj : j < 4) {p q : Option (Nat × σ)} {gm gd : List Nat} (h : Rig K w0 w z y xb yb O S T M N) (hk : Keeps [] w w1) (hp : Fresh w w1 (K.PM z) gm p) (hq : Fresh w w1 (K.PD y) gd q) (hmd : ∀ u, u ∈ gm → u ∉ gd) :
    Rig K w0 ((w1.setCell ⟨xb, j, none⟩ (pv p)).setCell ⟨yb, j, none⟩ (pv q)) z y xb yb O S T (upd' M j p) (upd' N j q) := by
  obtain ⟨G, hs⟩ := h
  have hbx := (hs.at_ .xs).2
  have hby := (hs.at_ .ys).2
  have hgx := (hs.at_ .xs).1
  have hgy := (hs.at_ .ys).1
  have hxy : xb ≠ yb := hbx.ne_ hby K.xy
  have hlx := hbx.lt
  have hly := hby.lt
  have hsz := hk.size
  have hgm := hp.low
  have hgd := hq.low
  obtain ⟨w2, hw2⟩ : ∃ v, (w1.setCell ⟨xb, j, none⟩ (pv p)).setCell ⟨yb, j, none⟩ (pv q) = v := ⟨_, rfl⟩
  have kk : Keeps [xb, yb] w1 w2 := hw2 ▸ ((Keeps.refl _ _).setCell (.inl (by simp)) _).setCell (.inl (by simp)) _
  have k2 : Keeps [xb, yb] w w2 := (hk.mono (T := [xb, yb]) (by simp)).trans kk (fun u hu => .inl hu)
  have bx : Blk w2 xb K.TX (arr (upd' M j p)) := by
    rw [← hw2, ← arr_set M hj p]
    exact ((hbx.keeps hk (by simp)).set_ j (pv p)).far hxy _
  have byy : Blk w2 yb K.TY (arr (upd' N j q)) := by
    rw [← hw2, ← arr_set N hj q]
    exact ((hby.keeps hk (by simp)).far (fun e => hxy e.symm) _).set_ j (pv q)
  rw [hw2]
  have hxa : Apart w1 w1 [] := Apart.nil
  have hoff : ∀ g : List Nat, (∀ u, u ∈ g → w.heap.size ≤ u) → ∀ u, u ∈ g → u ∉ [xb, yb] := fun g hg u hu => by
    have := hg u hu
    simp only [List.mem_cons, List.not_mem_nil, or_false]
    omega
  have hxyA : Apart w0 w1 [xb, yb] := ((hs.apart .xs).sub (Y := [xb]) (by rw [hgx]; simp)).keeps hk (by simp) |>.app (((hs.apart .ys).sub (Y := [yb]) (by rw [hgy]; simp)).keeps hk (by simp))
  have hpm : parts K w0 z y xb yb O S T (upd' M j p) (upd' N j q) (.m j) w2 gm := by
    simp only [parts_m]
    rw [upd_at]
    cases p with
    | none => exact hp
    | some v => exact K.lm w0 z v.1 v.2 w1 w2 gm [xb, yb] hp.1 kk (hoff gm hgm) hxyA
  have hpd : parts K w0 z y xb yb O S T (upd' M j p) (upd' N j q) (.d j) w2 gd := by
    simp only [parts_d]
    rw [upd_at]
    cases q with
    | none => exact hq
    | some v => exact K.ld w0 y v.1 v.2 w1 w2 gd [xb, yb] hq.1 kk (hoff gd hgd) hxyA
  have hbase := hs.keep.size
  have am : Apart w0 w2 gm := ⟨fun u hu => by have := hgm u hu; omega, fun u hu => by
    cases p with
    | none => rw [show gm = [] from hp] at hu; simp at hu
    | some v => simp only [parts_m] at hpm; rw [upd_at] at hpm; exact K.tm _ _ _ _ _ hpm u hu⟩
  have ad : Apart w0 w2 gd := ⟨fun u hu => by have := hgd u hu; omega, fun u hu => by
    cases q with
    | none => rw [show gd = [] from hq] at hu; simp at hu
    | some v => simp only [parts_d] at hpd; rw [upd_at] at hpd; exact K.td _ _ _ _ _ hpd u hu⟩
  refine ⟨upd' (upd' G (.m j) gm) (.d j) gd, hs.step (fun u => u = .xs ∨ u = .ys ∨ u = .m j ∨ u = .d j) k2 (fun u hu => ?_) (fun u hu => ?_) (fun u hu => ?_) (fun u v hu hv huv => ?_)⟩
  · simp at hu
    rcases hu with rfl | rfl
    · exact ⟨.xs, by simp, by rw [hgx]; simp⟩
    · exact ⟨.ys, by simp, by rw [hgy]; simp⟩
  · refine ⟨?_, by rw [upd_off _ _ _ (fun e => hu (by simp [e])), upd_off _ _ _ (fun e => hu (by simp [e]))]⟩
    cases u with
    | m q =>
      have : q ≠ j := fun e => hu (by simp [e])
      simp only [parts_m]
      rw [upd_off _ _ _ this]
    | d q =>
      have : q ≠ j := fun e => hu (by simp [e])
      simp only [parts_d]
      rw [upd_off _ _ _ this]
    | xs => exact absurd (.inl rfl) hu
    | ys => exact absurd (.inr (.inl rfl)) hu
    | _ => rfl
  · rcases hu with rfl | rfl | rfl | rfl
    · rw [upd_off _ _ _ (by simp), upd_off _ _ _ (by simp)]
      exact ⟨⟨hgx, bx⟩, parts_lies _ _ _ _ _ _ _ _ _ _ _ _, by rw [hgx]; exact apart_blk bx ((hs.apart .xs).low xb (by rw [hgx]; simp)) K.xf, fun u hu => .inl ⟨.xs, by simp, hu⟩⟩
    · rw [upd_off _ _ _ (by simp), upd_off _ _ _ (by simp)]
      exact ⟨⟨hgy, byy⟩, parts_lies _ _ _ _ _ _ _ _ _ _ _ _, by rw [hgy]; exact apart_blk byy ((hs.apart .ys).low yb (by rw [hgy]; simp)) K.yf, fun u hu => .inl ⟨.ys, by simp, hu⟩⟩
    · rw [upd_off _ _ _ (by simp), upd_at]
      exact ⟨hpm, parts_lies _ _ _ _ _ _ _ _ _ _ _ _, am, fun u hu => .inr (hgm u hu)⟩
    · rw [upd_at]
      exact ⟨hpd, parts_lies _ _ _ _ _ _ _ _ _ _ _ _, ad, fun u hu => .inr (hgd u hu)⟩
  · have hold : ∀ u, u ∈ G .xs ∨ u ∈ G .ys → u < w.heap.size := fun u hu => hu.elim (hs.lt .xs u) (hs.lt .ys u)
    have hgx' : upd' (upd' G (.m j) gm) (.d j) gd .xs = G .xs := by rw [upd_off _ _ _ (by simp), upd_off _ _ _ (by simp)]
    have hgy' : upd' (upd' G (.m j) gm) (.d j) gd .ys = G .ys := by rw [upd_off _ _ _ (by simp), upd_off _ _ _ (by simp)]
    have hgm' : upd' (upd' G (.m j) gm) (.d j) gd (.m j) = gm := by rw [upd_off _ _ _ (by simp), upd_at]
    have hgd' : upd' (upd' G (.m j) gm) (.d j) gd (.d j) = gd := by rw [upd_at]
    intro c hc hd
    rcases hu with rfl | rfl | rfl | rfl <;> rcases hv with rfl | rfl | rfl | rfl <;> first | exact huv rfl | skip
    all_goals
      simp only [hgx', hgy', hgm', hgd'] at hc hd
    · exact hs.dif .xs .ys (by simp) c hc hd
    · have := hold c (.inl hc); have := hgm c hd; omega
    · have := hold c (.inl hc); have := hgd c hd; omega
    · exact hs.dif .xs .ys (by simp) c hd hc
    · have := hold c (.inr hc); have := hgm c hd; omega
    · have := hold c (.inr hc); have := hgd c hd; omega
    · have := hold c (.inl hd); have := hgm c hc; omega
    · have := hold c (.inr hd); have := hgm c hc; omega
    · exact hmd c hc hd
    · have := hold c (.inl hd); have := hgd c hc; omega
    · have := hold c (.inr hd); have := hgd c hc; omega
    · exact hmd c hd hc
/-- The bundle at its start. -/
theorem Rig.start (K : Kit σ) {F G : List Nat} (hs : SP w0 w z F S) (hr : RP w0 w y G T) (hd : ∀ x, x ∈ F → x ∉ G) :
    Rig K w0 ((w.alloc (.cells (arr (fun _ => (none : Option (Nat × σ)))) K.TX)).alloc (.cells (arr (fun _ => (none : Option (Nat × σ)))) K.TY)) z y w.heap.size (w.heap.size + 1) none S T (fun _ => none) (fun _ => none) := by
  have hsz : (w.alloc (.cells (arr (fun _ => (none : Option (Nat × σ)))) K.TX)).heap.size = w.heap.size + 1 := by simp
  have k1 : Keeps [] w (w.alloc (.cells (arr (fun _ => (none : Option (Nat × σ)))) K.TX)) := (Keeps.refl _ _).alloc _
  have k2 : Keeps [] w ((w.alloc (.cells (arr (fun _ => (none : Option (Nat × σ)))) K.TX)).alloc (.cells (arr (fun _ => (none : Option (Nat × σ)))) K.TY)) := k1.alloc _
  have bx : Blk ((w.alloc (.cells (arr (fun _ => (none : Option (Nat × σ)))) K.TX)).alloc (.cells (arr (fun _ => (none : Option (Nat × σ)))) K.TY)) w.heap.size K.TX (arr (fun _ => (none : Option (Nat × σ)))) := (Blk.new _ _ _).alloc _
  have bY : Blk ((w.alloc (.cells (arr (fun _ => (none : Option (Nat × σ)))) K.TX)).alloc (.cells (arr (fun _ => (none : Option (Nat × σ)))) K.TY)) (w.heap.size + 1) K.TY (arr (fun _ => (none : Option (Nat × σ)))) := by
    have := Blk.new (w.alloc (.cells (arr (fun _ => (none : Option (Nat × σ)))) K.TX)) K.TY (arr (fun _ => (none : Option (Nat × σ))))
    rw [hsz] at this
    exact this
  have s2 := hs.calm k2
  have r2 := hr.calm k2
  have hb := hs.keep.size
  have hlF := hs.lt
  have hlG := hr.lt
  refine ⟨fun p => match p with
    | .s => F
    | .r => G
    | .xs => [w.heap.size]
    | .ys => [w.heap.size + 1]
    | _ => [], fun p => ?_, parts_lies _ _ _ _ _ _ _ _ _ _ _, fun p => ?_, fun p q hpq => ?_, hs.keep.trans k2 (by simp)⟩
  · cases p with
    | s => exact s2
    | r => exact r2
    | xs => exact ⟨rfl, bx⟩
    | ys => exact ⟨rfl, bY⟩
    | o => exact rfl
    | m i => exact rfl
    | d i => exact rfl
  · cases p with
    | s => exact s2.apart
    | r => exact r2.apart
    | xs => exact apart_blk bx hb K.xf
    | ys => exact apart_blk bY (by omega) K.yf
    | o => exact Apart.nil
    | m i => exact Apart.nil
    | d i => exact Apart.nil
  · intro c h1 h2
    cases p <;> cases q <;> first | exact hpq rfl | skip
    all_goals
      simp only [List.mem_cons, List.not_mem_nil, or_false] at h1 h2
    all_goals first
      | exact hd c h1 h2
      | exact hd c h2 h1
      | (have := hlF c h1; omega)
      | (have := hlF c h2; omega)
      | (have := hlG c h1; omega)
      | (have := hlG c h2; omega)
      | omega
/-- Both sides have the same machines. -/
def Pair (J : σ → Prop) (M N : Nat → Option (Nat × σ)) : Prop := ∀ j, (M j = none ∧ N j = none) ∨ ∃ a b x, M j = some (a, x) ∧ N j = some (b, x) ∧ J x
theorem Pair.set {J : σ → Prop} (h : Pair J M N) (j : Nat) {a b : Nat} {x : σ} (hj : J x) : Pair J (upd' M j (some (a, x))) (upd' N j (some (b, x))) := fun i => by
  by_cases e : i = j
  · subst e; exact .inr ⟨a, b, x, upd_at _ _ _, upd_at _ _ _, hj⟩
  · rw [upd_off _ _ _ e, upd_off _ _ _ e]; exact h i
theorem Pair.unset {J : σ → Prop} (h : Pair J M N) (j : Nat) : Pair J (upd' M j none) (upd' N j none) := fun i => by
  by_cases e : i = j
  · subst e; exact .inl ⟨upd_at _ _ _, upd_at _ _ _⟩
  · rw [upd_off _ _ _ e, upd_off _ _ _ e]; exact h i
end
end PR
end Go.Proofs.YtmlnedilbneekaaGreat
