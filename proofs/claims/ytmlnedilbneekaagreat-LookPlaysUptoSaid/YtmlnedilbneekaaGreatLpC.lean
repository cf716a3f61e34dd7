/- LookPlays: the document's look and dooming in the law's bundle. -/
import Derived.Test.YtmlnedilbneekaaGreatDdS
import Derived.Test.YtmlnedilbneekaaGreatRig
import Derived.Test.YtmlnedilbneekaaGreatLdS
namespace Go.Proofs.YtmlnedilbneekaaGreat
open Go.RowKit
set_option linter.unusedVariables false
namespace LP
open PR
inductive Pt
  | s | r | g | o
  | x (i : Nat)
  | a (i : Nat)
  | d (i : Nat)
deriving DecidableEq
abbrev ML := Nat → Option (Nat × Lk)
abbrev MD := Nat → Option (Nat × Dm)
def rigA (z : Sb) (y : Rb) (M N : ML) (A B : MD) : Array Value := #[PT z.p, PT y.p, pv (M 0), pv (M 1), pv (N 0), pv (N 1), pv (A 0), pv (A 1), pv (B 0), pv (B 1)]
def PX (z : Sb) (w : World) (F : List Nat) (a : Nat) (x : Lk) : Prop := ∃ tv wv vv, LkAt w z a tv wv vv x ∧ F = footL a tv wv vv
def PA (z : Sb) (w : World) (F : List Nat) (a : Nat) (x : Dm) : Prop := ∃ lv dv, DmAt w z a lv dv x ∧ F = footD a lv dv
/-- The document's look and dooming of one number; the dooming's list may be the look's victims. -/
structure PDx (w0 w : World) (y : Rb) (n : Nat) (q : Option (Nat × Lk)) (d : Option (Nat × Dm)) (F : List Nat) (vv : Value) (A : Option Addr) (c : Nat) (L : List Vc) (dv : Value) : Prop where
  lk : ∀ b x, q = some (b, x) → Ld.At w y n b x vv ∧ b ∈ F ∧ ∀ u, u ∈ vblk vv → u ∈ F
  dm : ∀ b x, d = some (b, x) → Ld.DAt w y b x A c L dv ∧ b ∈ F ∧ ∀ u, u ∈ vblk dv → u ∈ F
  ls : ∀ b x, d = some (b, x) → 0 < L.length → ∀ u off, A = some ⟨u, off, none⟩ → (u < w0.heap.size ∨ u ∈ F) ∧ u ∉ vblk dv ∧ u ≠ b
  two : ∀ b x b' x', q = some (b, x) → d = some (b', x') → (∀ u, u ∈ vblk vv → u ∉ vblk dv) ∧ (0 < L.length → ∀ u off, A = some ⟨u, off, none⟩ → u ≠ b ∧ (u ∈ vblk vv → off = 0 ∧ ∃ R, x.victims = L ++ R))
def PD (w0 : World) (y : Rb) (n : Nat) (q : Option (Nat × Lk)) (d : Option (Nat × Dm)) (w : World) (F : List Nat) : Prop := ∃ vv A c L dv, PDx w0 w y n q d F vv A c L dv
theorem PX_lies {w0 : World} (z : Sb) (a : Nat) (x : Lk) : Lies w0 (fun w G => PX z w G a x) := fun w w' G X h hk hX ha => by
  obtain ⟨tv, wv, vv, h1, rfl⟩ := h
  exact ⟨tv, wv, vv, h1.keeps hk hX, rfl⟩
theorem PA_lies {w0 : World} (z : Sb) (a : Nat) (x : Dm) : Lies w0 (fun w G => PA z w G a x) := fun w w' G X h hk hX ha => by
  obtain ⟨lv, dv, h1, rfl⟩ := h
  exact ⟨lv, dv, h1.keeps hk hX, rfl⟩
theorem PD_lies {w0 : World} (y : Rb) (n : Nat) (q : Option (Nat × Lk)) (d : Option (Nat × Dm)) : Lies w0 (PD w0 y n q d) := fun w w' G X h hk hX ha => by
  obtain ⟨vv, A, c, L, dv, h1, h2, h3, h4⟩ := h
  refine ⟨vv, A, c, L, dv, fun b x e => ?_, fun b x e => ?_, h3, h4⟩
  · obtain ⟨p1, p2, p3⟩ := h1 b x e
    exact ⟨p1.keeps hk (hX b p2) (fun u hu => hX u (p3 u (by simp [vblk, hu]))), p2, p3⟩
  · obtain ⟨p1, p2, p3⟩ := h2 b x e
    refine ⟨p1.keeps hk (hX b p2) (fun u hu => hX u (p3 u hu)) (fun hL u off hA hx => ?_), p2, p3⟩
    rcases (h3 b x e hL u off hA).1 with h5 | h5
    · have := ha.low u hx; omega
    · exact hX u h5 hx
theorem PD_wide {w0 w : World} {y : Rb} {n : Nat} {q : Option (Nat × Lk)} {d : Option (Nat × Dm)} {F F' : List Nat} (h : PD w0 y n q d w F) (hF : ∀ u, u ∈ F → u ∈ F') : PD w0 y n q d w F' := by
  obtain ⟨vv, A, c, L, dv, h1, h2, h3, h4⟩ := h
  exact ⟨vv, A, c, L, dv, fun b x e => ⟨(h1 b x e).1, hF b (h1 b x e).2.1, fun u hu => hF u ((h1 b x e).2.2 u hu)⟩, fun b x e => ⟨(h2 b x e).1, hF b (h2 b x e).2.1, fun u hu => hF u ((h2 b x e).2.2 u hu)⟩, fun b x e hL u off hA => ⟨(h3 b x e hL u off hA).1.imp id (hF u), (h3 b x e hL u off hA).2⟩, h4⟩
theorem PD_none {w0 w : World} {y : Rb} {n : Nat} : PD w0 y n none none w [] := ⟨.slice none 0 0, none, 0, [], .slice none 0 0, by simp, by simp, by simp, by simp⟩
def parts (w0 : World) (z : Sb) (y : Rb) (n gb : Nat) (O : Option (Nat × Array Value)) (S T : Sp) (M N : ML) (A B : MD) : Pt → World → List Nat → Prop
  | .s => fun w F => SP w0 w z F S
  | .r => fun w F => RP w0 w y F T
  | .g => fun w F => F = [gb] ∧ Blk w gb 43 (rigA z y M N A B)
  | .o => oPart 50 O
  | .x i => mPart (PX z) (M i)
  | .a i => mPart (PA z) (A i)
  | .d i => PD w0 y n (N i) (B i)
theorem parts_lies (w0 : World) (z : Sb) (y : Rb) (n gb : Nat) (O : Option (Nat × Array Value)) (S T : Sp) (M N : ML) (A B : MD) : ∀ p, Lies w0 (parts w0 z y n gb O S T M N A B p)
  | .s => lies_sp z S
  | .r => lies_rp y T
  | .g => lies_blk gb _ _
  | .o => oPart_lies O
  | .x i => mPart_lies (PX_lies z) (M i)
  | .a i => mPart_lies (PA_lies z) (A i)
  | .d i => PD_lies y n (N i) (B i)
section
variable {w0 w w1 w' : World} {z : Sb} {y : Rb} {n gb k : Nat} {O : Option (Nat × Array Value)} {S S' T T' : Sp} {M N M' N' : ML} {A B A' B' : MD} {G : Pt → List Nat} {F' G' X : List Nat} {i j a b : Nat} {x x' : Lk} {v v' : Dm}
theorem parts_x (i : Nat) : parts w0 z y n gb O S T M N A B (.x i) = mPart (PX z) (M i) := rfl
theorem parts_a (i : Nat) : parts w0 z y n gb O S T M N A B (.a i) = mPart (PA z) (A i) := rfl
theorem parts_d (i : Nat) : parts w0 z y n gb O S T M N A B (.d i) = PD w0 y n (N i) (B i) := rfl
theorem parts_g : parts w0 z y n gb O S T M N A B .g = fun w F => F = [gb] ∧ Blk w gb 43 (rigA z y M N A B) := rfl
theorem pv_upd {σ : Type} {M : Nat → Option (Nat × σ)} {i a : Nat} {x x' : σ} (h : M i = some (a, x)) (k : Nat) : pv (upd' M i (some (a, x')) k) = pv (M k) := by
  by_cases e : k = i
  · subst e; rw [upd_at, h]; rfl
  · rw [upd_off _ _ _ e]
/-- The bundle. -/
structure Rg (w0 w : World) (z : Sb) (y : Rb) (n gb : Nat) (O : Option (Nat × Array Value)) (S T : Sp) (M N : ML) (A B : MD) : Prop where
  ex : ∃ G, Sep w0 w (parts w0 z y n gb O S T M N A B) G
theorem Rg.calm (h : Rg w0 w z y n gb O S T M N A B) (hk : Keeps [] w w') : Rg w0 w' z y n gb O S T M N A B := by
  obtain ⟨G, hs⟩ := h
  exact ⟨G, hs.calm hk⟩
theorem Rg.keep (h : Rg w0 w z y n gb O S T M N A B) : Keeps [] w0 w := by
  obtain ⟨G, hs⟩ := h
  exact hs.keep
theorem Rg.rig (h : Rg w0 w z y n gb O S T M N A B) : Blk w gb 43 (rigA z y M N A B) := by
  obtain ⟨G, hs⟩ := h
  exact (hs.at_ .g).2
theorem Rg.box {bo : Nat} {cs : Array Value} (h : Rg w0 w z y n gb (some (bo, cs)) S T M N A B) : Blk w bo 50 cs := by
  obtain ⟨G, hs⟩ := h
  exact (hs.at_ .o).2
theorem Rg.sp (h : Rg w0 w z y n gb O S T M N A B) : ∃ F, SP w0 w z F S := by
  obtain ⟨G, hs⟩ := h
  exact ⟨_, hs.at_ .s⟩
theorem Rg.rp (h : Rg w0 w z y n gb O S T M N A B) : ∃ F, RP w0 w y F T := by
  obtain ⟨G, hs⟩ := h
  exact ⟨_, hs.at_ .r⟩
theorem Rg.zc (h : Rg w0 w z y n gb O S T M N A B) : w.cell? ⟨z.p, 0, none⟩ = some (PT z.m) := by
  obtain ⟨F, h⟩ := h.sp
  exact h.cells.1
theorem Rg.yc (h : Rg w0 w z y n gb O S T M N A B) : w.cell? ⟨y.p, 6, none⟩ = some (PT y.m) := by
  obtain ⟨F, h⟩ := h.rp
  exact h.cells.2.2.2.1
/-- A step that writes of one part p, besides the program's space. -/
theorem by_s (p : Pt) (hp : p ≠ .s) (hs : Sep w0 w (parts w0 z y n gb O S T M N A B) G) (hk : Keeps X w w') (hX : ∀ q, q ∈ X → q ∈ G .s ∨ q ∈ G p) (h1 : SP w0 w' z F' S') (h3 : ∀ q, q ∈ F' → q ∈ G .s ∨ w.heap.size ≤ q)
    (hold : ∀ j, j ≠ .s → j ≠ p → parts w0 z y n gb O S' T M' N' A' B' j = parts w0 z y n gb O S T M N A B j)
    (h4 : parts w0 z y n gb O S' T M' N' A' B' p w' G') (ht : ∀ q, q ∈ G' → ∃ t, tyOf w' q = some t ∧ t ∉ fixT) (h5 : ∀ q, q ∈ G' → q ∈ G p ∨ w.heap.size ≤ q) (hd : ∀ q, q ∈ F' → q ∉ G') : Rg w0 w' z y n gb O S' T M' N' A' B' := by
  have hlow : ∀ q, q ∈ G' → w0.heap.size ≤ q := fun q hq => (h5 q hq).elim ((hs.apart p).low q) (fun h => Nat.le_trans hs.keep.size h)
  refine ⟨upd' (upd' G .s F') p G', ?_⟩
  refine hs.two .s p (fun e => hp e.symm) hk hX (fun j h5 h6 => ⟨hold j h5 h6, by rw [upd_off _ _ _ h6, upd_off _ _ _ h5]⟩) ?_ (parts_lies _ _ _ _ _ _ _ _ _ _ _ _ _) ?_ ?_ ?_ (parts_lies _ _ _ _ _ _ _ _ _ _ _ _ _) ?_ ?_ ?_
  · rw [upd_off _ _ _ (fun e => hp e.symm), upd_at]; exact h1
  · rw [upd_off _ _ _ (fun e => hp e.symm), upd_at]; exact h1.apart
  · rw [upd_off _ _ _ (fun e => hp e.symm), upd_at]; exact fun q hq => (h3 q hq).imp Or.inl id
  · rw [upd_at]; exact h4
  · rw [upd_at]; exact ⟨hlow, ht⟩
  · rw [upd_at]; exact fun q hq => (h5 q hq).imp Or.inr id
  · rw [upd_off _ _ _ (fun e => hp e.symm), upd_at, upd_at]; exact hd
/-- The same beside the document's space. -/
theorem by_r (p : Pt) (hp : p ≠ .r) (hs : Sep w0 w (parts w0 z y n gb O S T M N A B) G) (hk : Keeps X w w') (hX : ∀ q, q ∈ X → q ∈ G .r ∨ q ∈ G p) (h1 : RP w0 w' y F' T') (h3 : ∀ q, q ∈ F' → q ∈ G .r ∨ w.heap.size ≤ q)
    (hold : ∀ j, j ≠ .r → j ≠ p → parts w0 z y n gb O S T' M' N' A' B' j = parts w0 z y n gb O S T M N A B j)
    (h4 : parts w0 z y n gb O S T' M' N' A' B' p w' G') (ht : ∀ q, q ∈ G' → ∃ t, tyOf w' q = some t ∧ t ∉ fixT) (h5 : ∀ q, q ∈ G' → q ∈ G p ∨ w.heap.size ≤ q) (hd : ∀ q, q ∈ F' → q ∉ G') : Rg w0 w' z y n gb O S T' M' N' A' B' := by
  have hlow : ∀ q, q ∈ G' → w0.heap.size ≤ q := fun q hq => (h5 q hq).elim ((hs.apart p).low q) (fun h => Nat.le_trans hs.keep.size h)
  refine ⟨upd' (upd' G .r F') p G', ?_⟩
  refine hs.two .r p (fun e => hp e.symm) hk hX (fun j h5 h6 => ⟨hold j h5 h6, by rw [upd_off _ _ _ h6, upd_off _ _ _ h5]⟩) ?_ (parts_lies _ _ _ _ _ _ _ _ _ _ _ _ _) ?_ ?_ ?_ (parts_lies _ _ _ _ _ _ _ _ _ _ _ _ _) ?_ ?_ ?_
  · rw [upd_off _ _ _ (fun e => hp e.symm), upd_at]; exact h1
  · rw [upd_off _ _ _ (fun e => hp e.symm), upd_at]; exact h1.apart
  · rw [upd_off _ _ _ (fun e => hp e.symm), upd_at]; exact fun q hq => (h3 q hq).imp Or.inl id
  · rw [upd_at]; exact h4
  · rw [upd_at]; exact ⟨hlow, ht⟩
  · rw [upd_at]; exact fun q hq => (h5 q hq).imp Or.inr id
  · rw [upd_off _ _ _ (fun e => hp e.symm), upd_at, upd_at]; exact hd
theorem space (hs : Sep w0 w (parts w0 z y n gb O S T M N A B) G) (h : Go.Proofs.YtmlnedilbneekaaGreat.Went w0 w w' z (G .s) S') : Rg w0 w' z y n gb O S' T M N A B := by
  obtain ⟨F', h1, h2, h3⟩ := h
  refine ⟨upd' G .s F', hs.one .s h2 (fun q hq => hq) (fun j hj => ⟨?_, upd_off _ _ _ hj⟩) ?_ (parts_lies _ _ _ _ _ _ _ _ _ _ _ _ _) ?_ ?_⟩
  · cases j <;> first | rfl | exact absurd rfl hj
  · rw [upd_at]; exact h1
  · rw [upd_at]; exact h1.apart
  · rw [upd_at]; exact h3
theorem doc (hs : Sep w0 w (parts w0 z y n gb O S T M N A B) G) (h : RWent w0 w w' y (G .r) T') : Rg w0 w' z y n gb O S T' M N A B := by
  obtain ⟨F', h1, h2, h3⟩ := h
  refine ⟨upd' G .r F', hs.one .r h2 (fun q hq => hq) (fun j hj => ⟨?_, upd_off _ _ _ hj⟩) ?_ (parts_lies _ _ _ _ _ _ _ _ _ _ _ _ _) ?_ ?_⟩
  · cases j <;> first | rfl | exact absurd rfl hj
  · rw [upd_at]; exact h1
  · rw [upd_at]; exact h1.apart
  · rw [upd_at]; exact h3
theorem Rg.turn (h : Rg w0 w z y n gb O S T M N A B) (t : Int) : Calls Tryz.prog 13 #[PT z.p, .int .i64 t] w fun e w' => e = .returned (.tuple #[]) ∧ Rg w0 w' z y n gb O (S.begin t) T M N A B := by
  obtain ⟨G, hs⟩ := h
  exact (sp_turn (hs.at_ .s) t).mono fun e w' ⟨he, hw⟩ => ⟨he, space hs hw⟩
theorem Rg.begin (h : Rg w0 w z y n gb O S T M N A B) (t : Int) : Calls Tryz.prog 14 #[PT y.m, .int .i64 t] w fun e w' => e = .returned (.tuple #[]) ∧ Rg w0 w' z y n gb O S (T.begin t) M N A B := by
  obtain ⟨G, hs⟩ := h
  exact (rp_begin (hs.at_ .r) t).mono fun e w' ⟨he, hw⟩ => ⟨he, doc hs hw⟩
theorem two (hs : Sep w0 w (parts w0 z y n gb O S S M N A B) G) : Two w0 w z (G .s) y (G .r) S S := ⟨hs.at_ .s, hs.at_ .r, fun x hx => hs.dif .s .r (by decide) x hx⟩
theorem both (hs : Sep w0 w (parts w0 z y n gb O S S M N A B) G) (h : TwoWent w0 w w' z (G .s) y (G .r) S') : Rg w0 w' z y n gb O S' S' M N A B := by
  obtain ⟨F', G', h1, h2, h3, h4⟩ := h
  refine ⟨upd' (upd' G .s F') .r G', ?_⟩
  refine hs.two .s .r (by decide) h2 (fun q hq => by rw [List.mem_append] at hq; exact hq) (fun j h5 h6 => ⟨?_, by rw [upd_off _ _ _ h6, upd_off _ _ _ h5]⟩) ?_ (parts_lies _ _ _ _ _ _ _ _ _ _ _ _ _) ?_ ?_ ?_ (parts_lies _ _ _ _ _ _ _ _ _ _ _ _ _) ?_ ?_ ?_
  · cases j <;> first | rfl | exact absurd rfl h5 | exact absurd rfl h6
  · rw [upd_off _ _ _ (by decide), upd_at]; exact h1.sp
  · rw [upd_off _ _ _ (by decide), upd_at]; exact h1.sp.apart
  · rw [upd_off _ _ _ (by decide), upd_at]; exact fun q hq => (h3 q hq).imp Or.inl id
  · rw [upd_at]; exact h1.rp
  · rw [upd_at]; exact h1.rp.apart
  · rw [upd_at]; exact fun q hq => (h4 q hq).imp Or.inr id
  · rw [upd_off _ _ _ (by decide), upd_at, upd_at]; exact h1.far
theorem Rg.laid (h : Rg w0 w z y n gb none S T M N A B) (cs : Array Value) : Rg w0 (w.alloc (.cells cs 50)) z y n gb (some (w.heap.size, cs)) S T M N A B := by
  obtain ⟨G, hs⟩ := h
  refine ⟨upd' G .o [w.heap.size], hs.one .o ((Keeps.refl [] w).alloc _) (by simp) (fun j hj => ⟨?_, upd_off _ _ _ hj⟩) ?_ (parts_lies _ _ _ _ _ _ _ _ _ _ _ _ _) ?_ ?_⟩
  · cases j <;> first | rfl | exact absurd rfl hj
  · rw [upd_at]; exact ⟨rfl, Blk.new _ _ _⟩
  · rw [upd_at]; exact apart_blk (Blk.new w 50 cs) hs.keep.size (by decide)
  · rw [upd_at]; exact fun q hq => .inr (by simp at hq; omega)
theorem Rg.left (h : Rg w0 w z y n gb O S T M N A B) : Rg w0 w z y n gb none S T M N A B := by
  obtain ⟨G, hs⟩ := h
  refine ⟨upd' G .o [], hs.one .o (Keeps.refl [] w) (by simp) (fun j hj => ⟨?_, upd_off _ _ _ hj⟩) ?_ (parts_lies _ _ _ _ _ _ _ _ _ _ _ _ _) ?_ ?_⟩
  · cases j <;> first | rfl | exact absurd rfl hj
  · rw [upd_at]; exact rfl
  · rw [upd_at]; exact Apart.nil
  · rw [upd_at]; simp
theorem rig_same (hM : ∀ k, pv (M' k) = pv (M k)) (hN : ∀ k, pv (N' k) = pv (N k)) (hA : ∀ k, pv (A' k) = pv (A k)) (hB : ∀ k, pv (B' k) = pv (B k)) : rigA z y M' N' A' B' = rigA z y M N A B := by
  unfold rigA
  simp only [hM, hN, hA, hB]
/-- The program's look goes a step. -/
theorem lk_calls (h : Rg w0 w z y n gb O S T M N A B) (hm : M i = some (a, x)) (hf : Fit k S) (hk : k ≤ 1099511627776) (hu : S.wu) {j : Nat} (hx : x.Ok j) (hj : j ≤ 1099511627776) :
    Calls Tryz.prog 32 #[PT a] w fun e w' => e = .returned (.int .i64 (x.step S).1) ∧ Rg w0 w' z y n gb O (x.step S).2.2 T (upd' M i (some (a, (x.step S).2.1))) N A B := by
  obtain ⟨G, hs⟩ := h
  have hq := hs.at_ (.x i)
  rw [parts_x, hm] at hq
  have hR : LK w0 w z (G .s) a (G (.x i)) x := ⟨hq, (hs.apart (.x i)).low, fun q hq hg => hs.dif (.x i) .s (by simp) q hq hg⟩
  refine (lk_step (hs.at_ .s) hf hk hR hu hx hj).mono fun e w' ⟨he, F', G', h1, h2, h3, h4, h5⟩ => ⟨he, ?_⟩
  obtain ⟨tv, wv, vv, h6, h7⟩ := id h2.ex
  refine by_s (.x i) (by simp) hs h3 (fun q hq => by rw [List.mem_append] at hq; exact hq.symm) h1 h4 (fun j e1 e2 => ?_) (G' := G') ?_ (fun q hq => ?_) h5 (fun q hq hg => h2.off q hg hq)
  · cases j with
    | s => exact absurd rfl e1
    | x q =>
      have hqi : q ≠ i := fun e => e2 (e ▸ rfl)
      simp only [parts_x]
      rw [upd_off _ _ _ hqi]
    | g => simp only [parts_g]; rw [rig_same (fun k => pv_upd hm k) (fun _ => rfl) (fun _ => rfl) (fun _ => rfl)]
    | _ => rfl
  · rw [parts_x, upd_at]; exact h2.ex
  · have hA := h1.keep
    obtain ⟨t, ht, hn⟩ : ∃ t, tyOf w' q = some t ∧ t ∉ fixT := by
      rw [h7] at hq
      simp only [footL, List.mem_cons, List.mem_append] at hq
      rcases hq with rfl | hq | hq | hq
      · exact ⟨_, h6.blk.tyOf, by decide⟩
      · exact ⟨_, h6.turns.ty q hq, by decide⟩
      · exact ⟨_, own_in h6.words q hq, by decide⟩
      · exact ⟨_, own_in h6.vs q hq, by decide⟩
    exact ⟨t, ht, hn⟩
/-- The program's dooming goes a step. -/
theorem dm_calls (h : Rg w0 w z y n gb O S T M N A B) (hm : A i = some (a, v)) (hf : Fit k S) (hk : k ≤ 1099511627776) (hdl : v.doomed.length ≤ 1099511627776) :
    Calls Tryz.prog 35 #[PT a] w fun e w' => e = .returned (.int .i64 (v.step S).1) ∧ Rg w0 w' z y n gb O (v.step S).2.2 T M N (upd' A i (some (a, (v.step S).2.1))) B := by
  obtain ⟨G, hs⟩ := h
  have hq := hs.at_ (.a i)
  rw [parts_a, hm] at hq
  have hR : DM w0 w z (G .s) a (G (.a i)) v := ⟨hq, (hs.apart (.a i)).low, fun q hq hg => hs.dif (.a i) .s (by simp) q hq hg⟩
  refine (dm_step (hs.at_ .s) hf hk hR hdl).mono fun e w' ⟨he, F', G', h1, h2, h3, h4, h5⟩ => ⟨he, ?_⟩
  obtain ⟨lv, dv, h6, h7⟩ := id h2.ex
  refine by_s (.a i) (by simp) hs h3 (fun q hq => by rw [List.mem_append] at hq; exact hq.symm) h1 h4 (fun j e1 e2 => ?_) (G' := G') ?_ (fun q hq => ?_) h5 (fun q hq hg => h2.off q hg hq)
  · cases j with
    | s => exact absurd rfl e1
    | a q =>
      have hqi : q ≠ i := fun e => e2 (e ▸ rfl)
      simp only [parts_a]
      rw [upd_off _ _ _ hqi]
    | g => simp only [parts_g]; rw [rig_same (fun _ => rfl) (fun _ => rfl) (fun k => pv_upd hm k) (fun _ => rfl)]
    | _ => rfl
  · rw [parts_a, upd_at]; exact h2.ex
  · rw [h7] at hq
    simp only [footD, List.mem_cons, List.mem_append] at hq
    rcases hq with rfl | hq | hq
    · exact ⟨_, h6.blk.tyOf, by decide⟩
    · exact ⟨_, h6.left.ty q hq, by decide⟩
    · exact ⟨_, own_in h6.doomed q hq, by decide⟩
end
end LP
end Go.Proofs.YtmlnedilbneekaaGreat

namespace Go.Proofs.YtmlnedilbneekaaGreat
open Go.RowKit
set_option linter.unusedVariables false
theorem Lk.step_vs (x : Lk) (S : Sp) : ∃ R, (x.step S).2.1.victims = x.victims ++ R := by
  unfold Lk.step
  split
  · exact ⟨[], by simp⟩
  · split
    · split
      · exact ⟨[], by simp [Lk.turn, Lk.at_]⟩
      · exact ⟨[], by simp [Lk.at_]⟩
    · split
      · exact ⟨[], by simp [Lk.word]⟩
      · split
        · exact ⟨_, rfl⟩
        · exact ⟨[], by simp [Lk.turn, Lk.word]⟩
namespace LP
open PR Ld
section
variable {w0 w w1 w' : World} {z : Sb} {y : Rb} {n gb k : Nat} {O : Option (Nat × Array Value)} {S S' T T' : Sp} {M N M' N' : ML} {A B A' B' : MD} {G : Pt → List Nat} {F' G' X : List Nat} {i j a b : Nat} {x x' : Lk} {v v' : Dm}
theorem ne_ty {p q : Nat} {t u : TypeId} (h : tyOf w p = some t) (h' : tyOf w q = some u) (hne : t ≠ u) : p ≠ q := fun e => by
  subst e
  rw [h] at h'
  injection h' with h'
  exact hne h'
/-- The document's look goes a step. -/
theorem ld_calls (h : Rg w0 w z y n gb O S T M N A B) (hm : N i = some (b, x)) (hf : Fit k T) (hk : k ≤ 1099511627776) (hu : T.wu) (hn : T.c.slots = (n : Int)) (hw : x.writes.ok) (hll : x.victims.length ≤ 1099511627776) :
    Calls Tryz.prog 50 #[PT b] w fun e w' => e = .returned (.int .i64 (x.step T).1) ∧ Rg w0 w' z y n gb O S (x.step T).2.2 M (upd' N i (some (b, (x.step T).2.1))) A B := by
  obtain ⟨G, hs⟩ := h
  have hq := hs.at_ (.d i)
  rw [parts_d, hm] at hq
  obtain ⟨vv, AA, c, L, dv, hp⟩ := hq
  obtain ⟨ha, hbG, hvG⟩ := hp.lk b x rfl
  have hoff : ∀ u, u ∈ G (.d i) → u ∉ G .r := fun u hu hg => hs.dif (.d i) .r (by simp) u hu hg
  have hlow := (hs.apart (.d i)).low
  have hrl := (hs.apart .r).low
  refine (doc_step (hs.at_ .r) hf hk hu ha hn (hlow b hbG) (hoff b hbG) (fun q hq => ⟨hlow q (hvG q hq), hoff q (hvG q hq)⟩) hw hll).mono fun e w' ⟨he, G', vv', h1, h2, h3, h4, h5, h6⟩ => ⟨he, ?_⟩
  have hvt : ∀ u, u ∈ vblk vv → tyOf w u = some 113 := own_in ha.own
  have hvt' : ∀ u, u ∈ vblk vv' → tyOf w' u = some 113 := own_in h2.own
  have hlt := hs.lt (.d i)
  have hgrow := Lk.step_vs x T
  generalize (x.step T).2.1 = x' at *
  generalize (x.step T).2.2 = T' at *
  have hX : ∀ q, q ∈ b :: (vblk vv ++ G .r) → q ∈ G .r ∨ q ∈ G (.d i) := fun q hq => by
    simp only [List.mem_cons, List.mem_append] at hq
    rcases hq with rfl | hq | hq
    · exact .inr hbG
    · exact .inr (hvG q hq)
    · exact .inl hq
  refine by_r (.d i) (by simp) hs h3 hX h1 h4 (fun j e1 e2 => ?_) (G' := G (.d i) ++ vblk vv') ?_ (fun q hq => ?_) (fun q hq => ?_) (fun q hq hg => ?_)
  · cases j with
    | r => exact absurd rfl e1
    | d q =>
      have hqi : q ≠ i := fun e => e2 (e ▸ rfl)
      simp only [parts_d]
      rw [upd_off _ _ _ hqi]
    | g => simp only [parts_g]; rw [rig_same (fun _ => rfl) (fun k => pv_upd hm k) (fun _ => rfl) (fun _ => rfl)]
    | _ => rfl
  · rw [parts_d, upd_at]
    refine ⟨vv', AA, c, L, dv, fun b1 x1 e1 => ?_, fun b1 x1 e1 => ?_, fun b1 x1 e1 hL u off hA => ?_, fun b1 x1 b2 x2 e1 e2 => ?_⟩
    · injection e1 with e1
      injection e1 with e1 e2
      subst e1 e2
      exact ⟨h2, by simp [hbG], fun u hu => by simp [hu]⟩
    · obtain ⟨q1, q2, q3⟩ := hp.dm b1 x1 e1
      obtain ⟨t1, t2⟩ := hp.two b x b1 x1 rfl e1
      have hXd : ∀ u, u ∈ vblk dv → u ∉ b :: (vblk vv ++ G .r) := fun u hu hx => by
        simp only [List.mem_cons, List.mem_append] at hx
        rcases hx with hx | hx | hx
        · exact ne_ty (own_in q1.own u hu) ha.ty (by decide) hx
        · exact t1 u hx hu
        · exact hoff u (q3 u hu) hx
      have hb1 : b1 ∉ b :: (vblk vv ++ G .r) := fun hx => by
        simp only [List.mem_cons, List.mem_append] at hx
        rcases hx with hx | hx | hx
        · exact ne_ty q1.ty ha.ty (by decide) hx
        · exact ne_ty q1.ty (hvt _ hx) (by decide) rfl
        · exact hoff b1 q2 hx
      refine ⟨⟨?_, own_keeps q1.own h3 (fun u hu => hXd u (by simp [vblk, hu])), fun hL => ?_, q1.cap⟩, by simp [q2], fun u hu => by simp [q3 u hu]⟩
      · obtain ⟨a1, k1, k2, k3⟩ := q1.ex
        exact ⟨a1, k1, k2, k3.keeps h3 hb1⟩
      · obtain ⟨q, off, eA, hc⟩ := q1.lst hL
        obtain ⟨t3, t4⟩ := t2 hL q off eA
        refine ⟨q, off, eA, fun i u hu => ?_⟩
        by_cases hqv : q ∈ vblk vv
        · obtain ⟨rfl, R, hR⟩ := t4 hqv
          have h7 := (h6 q (by simpa [vblk] using hqv)).2 i u
          rw [Nat.zero_add]
          refine h7 ?_
          rw [hR]
          unfold vcCells at hu ⊢
          rw [List.flatMap_append, List.getElem?_append_left (by exact (List.getElem?_eq_some_iff.1 hu).1)]
          exact hu
        · have hqlt := q1.lst.lt hL eA
          refine (World.cell?_of_block (h3.block q hqlt (fun hx => ?_))).trans (hc i u hu)
          simp only [List.mem_cons, List.mem_append] at hx
          rcases hx with hx | hx | hx
          · exact t3 hx
          · exact hqv hx
          · rcases (hp.ls b1 x1 e1 hL q off eA).1 with h8 | h8
            · have := hrl q hx; omega
            · exact hoff q h8 hx
    · obtain ⟨q1, q2, q3⟩ := hp.ls b1 x1 e1 hL u off hA
      exact ⟨q1.imp id (fun h => by simp [h]), q2, q3⟩
    · injection e1 with e1
      injection e1 with e1 e3
      subst e1 e3
      obtain ⟨q1, q2, q3⟩ := hp.dm b2 x2 e2
      obtain ⟨t1, t2⟩ := hp.two b x b2 x2 rfl e2
      refine ⟨fun u hu hd => ?_, fun hL u off hA => ?_⟩
      · rcases h5 u hu with h8 | ⟨h8, _⟩
        · exact t1 u h8 hd
        · have := hlt u (q3 u hd); omega
      · obtain ⟨t3, t4⟩ := t2 hL u off hA
        refine ⟨t3, fun hu => ?_⟩
        rcases h5 u hu with h8 | ⟨h8, _⟩
        · obtain ⟨r1, R, r2⟩ := t4 h8
          obtain ⟨R2, r3⟩ := hgrow
          exact ⟨r1, R ++ R2, by rw [r3, r2, List.append_assoc]⟩
        · have := q1.lst.lt hL hA; omega
  · rw [List.mem_append] at hq
    rcases hq with hq | hq
    · by_cases e1 : q = b
      · subst e1; exact ⟨_, h2.ty, by decide⟩
      · by_cases e2 : q ∈ vblk vv
        · exact ⟨_, (h6 q (by simpa [vblk] using e2)).1, by decide⟩
        · obtain ⟨t, ht, hn⟩ := (hs.apart (.d i)).ty q hq
          refine ⟨t, tyOf_keeps ht h3 (fun hx => ?_), hn⟩
          simp only [List.mem_cons, List.mem_append] at hx
          rcases hx with hx | hx | hx
          · exact e1 hx
          · exact e2 hx
          · exact hoff q hq hx
    · exact ⟨_, hvt' q hq, by decide⟩
  · rw [List.mem_append] at hq
    rcases hq with hq | hq
    · exact .inl hq
    · rcases h5 q hq with h8 | ⟨h8, _⟩
      · exact .inl (hvG q h8)
      · exact .inr h8
  · rw [List.mem_append] at hg
    rcases hg with hg | hg
    · rcases h4 q hq with h8 | h8
      · exact hoff q hg h8
      · have := hlt q hg; omega
    · rcases h5 q hg with h8 | ⟨_, h8⟩
      · rcases h4 q hq with h9 | h9
        · exact hoff q (hvG q h8) h9
        · have := hlt q (hvG q h8); omega
      · exact h8 hq
/-- The document's dooming goes a step. -/
theorem dd_calls (h : Rg w0 w z y n gb O S T M N A B) (hm : B i = some (b, v)) (hf : Fit k T) (hk : k ≤ 1099511627776) (hll : v.doomed.length ≤ 1099511627776) :
    Calls Tryz.prog 51 #[PT b] w fun e w' => e = .returned (.int .i64 (v.step T).1) ∧ Rg w0 w' z y n gb O S (v.step T).2.2 M N A (upd' B i (some (b, (v.step T).2.1))) := by
  obtain ⟨G, hs⟩ := h
  have hq := hs.at_ (.d i)
  rw [parts_d, hm] at hq
  obtain ⟨vv, AA, c, L, dv, hp⟩ := hq
  obtain ⟨ha, hbG, hvG⟩ := hp.dm b v rfl
  have hoff : ∀ u, u ∈ G (.d i) → u ∉ G .r := fun u hu hg => hs.dif (.d i) .r (by simp) u hu hg
  have hlow := (hs.apart (.d i)).low
  have hrl := (hs.apart .r).low
  have hls : 0 < L.length → ∀ q off, AA = some ⟨q, off, none⟩ → q ∉ G .r ∧ q ≠ b ∧ q ∉ vblk dv := fun hL q off e => by
    obtain ⟨q1, q2, q3⟩ := hp.ls b v rfl hL q off e
    refine ⟨fun hx => ?_, q3, q2⟩
    rcases q1 with h8 | h8
    · have := hrl q hx; omega
    · exact hoff q h8 hx
  refine (doom_step (hs.at_ .r) hf hk ha (hlow b hbG) (hoff b hbG) (fun q hq => ⟨hlow q (hvG q hq), hoff q (hvG q hq)⟩) hls hll).mono fun e w' ⟨he, G', dv', h1, h2, h3, h4, h5, h6⟩ => ⟨he, ?_⟩
  have hvt : ∀ u, u ∈ vblk dv → tyOf w u = some 113 := own_in ha.own
  have hvt' : ∀ u, u ∈ vblk dv' → tyOf w' u = some 113 := own_in h2.own
  have hlt := hs.lt (.d i)
  generalize (v.step T).2.1 = v' at *
  generalize (v.step T).2.2 = T' at *
  have hX : ∀ q, q ∈ b :: (vblk dv ++ G .r) → q ∈ G .r ∨ q ∈ G (.d i) := fun q hq => by
    simp only [List.mem_cons, List.mem_append] at hq
    rcases hq with rfl | hq | hq
    · exact .inr hbG
    · exact .inr (hvG q hq)
    · exact .inl hq
  refine by_r (.d i) (by simp) hs h3 hX h1 h4 (fun j e1 e2 => ?_) (G' := G (.d i) ++ vblk dv') ?_ (fun q hq => ?_) (fun q hq => ?_) (fun q hq hg => ?_)
  · cases j with
    | r => exact absurd rfl e1
    | d q =>
      have hqi : q ≠ i := fun e => e2 (e ▸ rfl)
      simp only [parts_d]
      rw [upd_off _ _ _ hqi]
    | g => simp only [parts_g]; rw [rig_same (fun _ => rfl) (fun _ => rfl) (fun _ => rfl) (fun k => pv_upd hm k)]
    | _ => rfl
  · rw [parts_d, upd_at]
    refine ⟨vv, AA, c, L, dv', fun b1 x1 e1 => ?_, fun b1 x1 e1 => ?_, fun b1 x1 e1 hL u off hA => ?_, fun b1 x1 b2 x2 e1 e2 => ?_⟩
    · obtain ⟨q1, q2, q3⟩ := hp.lk b1 x1 e1
      obtain ⟨t1, t2⟩ := hp.two b1 x1 b v e1 rfl
      refine ⟨q1.keeps h3 (fun hx => ?_) (fun u hu hx => ?_), by simp [q2], fun u hu => by simp [q3 u hu]⟩
      · simp only [List.mem_cons, List.mem_append] at hx
        rcases hx with hx | hx | hx
        · exact ne_ty q1.ty ha.ty (by decide) hx
        · exact ne_ty q1.ty (hvt _ hx) (by decide) rfl
        · exact hoff b1 q2 hx
      · have hu' : u ∈ vblk vv := by simp [vblk, hu]
        simp only [List.mem_cons, List.mem_append] at hx
        rcases hx with hx | hx | hx
        · exact ne_ty (own_in q1.own u hu') ha.ty (by decide) hx
        · exact t1 u hu' hx
        · exact hoff u (q3 u hu') hx
    · injection e1 with e1
      injection e1 with e1 e2
      subst e1 e2
      exact ⟨h2, by simp [hbG], fun u hu => by simp [hu]⟩
    · injection e1 with e1
      injection e1 with e1 e2
      subst e1 e2
      obtain ⟨q1, q2, q3⟩ := hp.ls b v rfl hL u off hA
      refine ⟨q1.imp id (fun h => by simp [h]), fun hu => ?_, q3⟩
      rcases h5 u hu with h8 | ⟨h8, _⟩
      · exact q2 h8
      · have := ha.lst.lt hL hA; omega
    · injection e2 with e2
      injection e2 with e2 e3
      subst e2 e3
      obtain ⟨q1, q2, q3⟩ := hp.lk b1 x1 e1
      obtain ⟨t1, t2⟩ := hp.two b1 x1 b v e1 rfl
      refine ⟨fun u hu hd => ?_, t2⟩
      rcases h5 u hd with h8 | ⟨h8, _⟩
      · exact t1 u hu h8
      · have := hlt u (q3 u hu); omega
  · rw [List.mem_append] at hq
    rcases hq with hq | hq
    · by_cases e1 : q = b
      · subst e1; exact ⟨_, h2.ty, by decide⟩
      · by_cases e2 : q ∈ vblk dv
        · exact ⟨_, (h6 q (by simpa [vblk] using e2)).1, by decide⟩
        · obtain ⟨t, ht, hn⟩ := (hs.apart (.d i)).ty q hq
          refine ⟨t, tyOf_keeps ht h3 (fun hx => ?_), hn⟩
          simp only [List.mem_cons, List.mem_append] at hx
          rcases hx with hx | hx | hx
          · exact e1 hx
          · exact e2 hx
          · exact hoff q hq hx
    · exact ⟨_, hvt' q hq, by decide⟩
  · rw [List.mem_append] at hq
    rcases hq with hq | hq
    · exact .inl hq
    · rcases h5 q hq with h8 | ⟨h8, _⟩
      · exact .inl (hvG q h8)
      · exact .inr h8
  · rw [List.mem_append] at hg
    rcases hg with hg | hg
    · rcases h4 q hq with h8 | h8
      · exact hoff q hg h8
      · have := hlt q hg; omega
    · rcases h5 q hg with h8 | ⟨_, h8⟩
      · rcases h4 q hq with h9 | h9
        · exact hoff q (hvG q h8) h9
        · have := hlt q (hvG q h8); omega
      · exact h8 hq
end
end LP
end Go.Proofs.YtmlnedilbneekaaGreat
