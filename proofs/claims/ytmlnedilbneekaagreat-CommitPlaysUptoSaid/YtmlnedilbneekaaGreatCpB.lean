/- CommitPlays: the law's state in one bundle: a space, the document's, four arrays of three, a step's box, judges and commits on either side. -/
import Derived.Test.YtmlnedilbneekaaGreatCdN
import Derived.Test.YtmlnedilbneekaaGreatRig
import Derived.Test.YtmlnedilbneekaaGreatCmNew
import Derived.Test.YtmlnedilbneekaaGreatRaw13
import Derived.Test.YtmlnedilbneekaaGreatSame13
set_option linter.unusedVariables false
set_option linter.unusedSimpArgs false
namespace Go.Proofs.YtmlnedilbneekaaGreat
open Go.RowKit Pol
theorem Sep.three {ι : Type} {w0 w w' : World} {P P' : ι → World → List Nat → Prop} {G G' : ι → List Nat} {X : List Nat} (h : Sep w0 w P G) (i k m : ι) (hik : i ≠ k) (him : i ≠ m) (hkm : k ≠ m) (hk : Keeps X w w') (hX : ∀ q,q ∈ X → q ∈ G i ∨ q ∈ G k ∨ q ∈ G m) (hold : ∀ j,j ≠ i → j ≠ k → j ≠ m → P' j = P j ∧ G' j = G j)
 (hP : ∀ u,u = i ∨ u = k ∨ u = m → P' u w' (G' u) ∧ Lies w0 (P' u) ∧ Apart w0 w' (G' u) ∧ ∀ q,q ∈ G' u → (q ∈ G i ∨ q ∈ G k ∨ q ∈ G m) ∨ w.heap.size ≤ q)
 (d1 : ∀ q,q ∈ G' i → q ∉ G' k) (d2 : ∀ q,q ∈ G' i → q ∉ G' m) (d3 : ∀ q,q ∈ G' k → q ∉ G' m) : Sep w0 w' P' G' := by
 refine h.step (fun j => j = i ∨ j = k ∨ j = m) hk (fun q hq => ?_) (fun j hj => hold j (fun e => hj (.inl e)) (fun e => hj (.inr (.inl e))) (fun e => hj (.inr (.inr e)))) (fun j hj => ?_) (fun a b ha hb hab q hq hg => ?_)
 · rcases hX q hq with h1 | h1 | h1
   · exact ⟨i,.inl rfl,h1⟩
   · exact ⟨k,.inr (.inl rfl),h1⟩
   · exact ⟨m,.inr (.inr rfl),h1⟩
 · obtain ⟨p1,p2,p3,p4⟩ := hP j hj
   refine ⟨p1,p2,p3,fun q hq => (p4 q hq).imp (fun hg => ?_) id⟩
   rcases hg with h1 | h1 | h1
   · exact ⟨i,.inl rfl,h1⟩
   · exact ⟨k,.inr (.inl rfl),h1⟩
   · exact ⟨m,.inr (.inr rfl),h1⟩
 ·
  rcases ha with rfl | rfl | rfl <;> rcases hb with rfl | rfl | rfl
  · exact hab rfl
  · exact d1 q hq hg
  · exact d2 q hq hg
  · exact d1 q hg hq
  · exact hab rfl
  · exact d3 q hq hg
  · exact d2 q hg hq
  · exact d3 q hg hq
  · exact hab rfl
namespace CP
open PR Cd Rj
inductive Pt
 | s | r | xs | ys | js | ks | o
 | j (i : Nat)
 | k (i : Nat)
 | c (i : Nat)
 | d (i : Nat)
deriving DecidableEq
structure Fx where
 z : Sb
 y : Rb
 n : Nat
 c : Cf
 xb : Nat
 yb : Nat
 jb : Nat
 kb : Nat
abbrev MC := Nat → Option (Nat × Cm)
abbrev MJ := Nat → Option (Nat × Int)
def arr3 {σ : Type} (M : Nat → Option (Nat × σ)) : Array Value := #[pv (M 0),pv (M 1),pv (M 2)]
def PC (w0 : World) (z : Sb) (J : MJ) (i : Nat) : Option (Nat × Cm) → World → List Nat → Prop
 | none => fun w H => H = []
 | some (cb,x) => fun w H => ∃ jb d dp,J i = some (jb,d) ∧ CmN w0 w z [] jb cb H dp (stgVal dp x.st) x
def PE (y : Rb) (n : Nat) (K : MJ) (i : Nat) : Option (Nat × Cm) → World → List Nat → Prop
 | none => fun w F => F = []
 | some (b,x) => fun w F => ∃ kb d,K i = some (kb,d) ∧ CD w y n kb b x F
theorem PC_lies {w0 : World} (z : Sb) (J : MJ) (i : Nat) : ∀ q,Lies w0 (PC w0 z J i q)
 | none => lies_none
 | some (cb,x) => fun w w' G X h hk hX ha => by
   obtain ⟨jb,d,dp,e,h⟩ := h
   exact ⟨jb,d,dp,e,h.keeps hk hX (by simp)⟩
theorem PE_lies {w0 : World} (y : Rb) (n : Nat) (K : MJ) (i : Nat) : ∀ q,Lies w0 (PE y n K i q)
 | none => lies_none
 | some (b,x) => fun w w' G X h hk hX ha => by
   obtain ⟨kb,d,e,h⟩ := h
   exact ⟨kb,d,e,h.keeps hk hX⟩
def PJ (c : Cf) (w : World) (F : List Nat) (a : Nat) (d : Int) : Prop := F = [a] ∧ JAt w a c d
def PK (c : Cf) (w : World) (F : List Nat) (a : Nat) (d : Int) : Prop := F = [a] ∧ JD w a c d
theorem PJ_lies {w0 : World} (c : Cf) (a : Nat) (d : Int) : Lies w0 (fun w F => PJ c w F a d) := fun w w' G X h hk hX ha => ⟨h.1,Blk.keeps h.2 hk (hX a (by rw [h.1]; simp))⟩
theorem PK_lies {w0 : World} (c : Cf) (a : Nat) (d : Int) : Lies w0 (fun w F => PK c w F a d) := fun w w' G X h hk hX ha => ⟨h.1,Blk.keeps h.2 hk (hX a (by rw [h.1]; simp))⟩
def parts (f : Fx) (w0 : World) (O : Option (Nat × Array Value)) (S T : Sp) (X Y : MC) (J K : MJ) : Pt → World → List Nat → Prop
 | .s => fun w F => SP w0 w f.z F S
 | .r => fun w F => RP w0 w f.y F T
 | .xs => fun w F => F = [f.xb] ∧ Blk w f.xb 56 (arr3 X)
 | .ys => fun w F => F = [f.yb] ∧ Blk w f.yb 58 (arr3 Y)
 | .js => fun w F => F = [f.jb] ∧ Blk w f.jb 60 (arr3 J)
 | .ks => fun w F => F = [f.kb] ∧ Blk w f.kb 62 (arr3 K)
 | .o => oPart 71 O
 | .j i => mPart (PJ f.c) (J i)
 | .k i => mPart (PK f.c) (K i)
 | .c i => PC w0 f.z J i (X i)
 | .d i => PE f.y f.n K i (Y i)
theorem parts_lies (f : Fx) (w0 : World) (O : Option (Nat × Array Value)) (S T : Sp) (X Y : MC) (J K : MJ) : ∀ p,Lies w0 (parts f w0 O S T X Y J K p)
 | .s => lies_sp f.z S
 | .r => lies_rp f.y T
 | .xs => lies_blk f.xb _ _
 | .ys => lies_blk f.yb _ _
 | .js => lies_blk f.jb _ _
 | .ks => lies_blk f.kb _ _
 | .o => oPart_lies O
 | .j i => mPart_lies (PJ_lies f.c) (J i)
 | .k i => mPart_lies (PK_lies f.c) (K i)
 | .c i => PC_lies f.z J i (X i)
 | .d i => PE_lies f.y f.n K i (Y i)
section
variable {f : Fx} {w0 w w1 w2 w' : World} {O : Option (Nat × Array Value)} {S S' T T' : Sp} {X X' Y Y' : MC} {J J' K K' : MJ} {G : Pt → List Nat} {i j a b cb jb kb k : Nat} {x x' : Cm} {d d' : Int}
theorem parts_c (i : Nat) : parts f w0 O S T X Y J K (.c i) = PC w0 f.z J i (X i) := rfl
theorem parts_d (i : Nat) : parts f w0 O S T X Y J K (.d i) = PE f.y f.n K i (Y i) := rfl
theorem parts_j (i : Nat) : parts f w0 O S T X Y J K (.j i) = mPart (PJ f.c) (J i) := rfl
theorem parts_k (i : Nat) : parts f w0 O S T X Y J K (.k i) = mPart (PK f.c) (K i) := rfl
theorem parts_xs : parts f w0 O S T X Y J K .xs = fun w F => F = [f.xb] ∧ Blk w f.xb 56 (arr3 X) := rfl
theorem parts_ys : parts f w0 O S T X Y J K .ys = fun w F => F = [f.yb] ∧ Blk w f.yb 58 (arr3 Y) := rfl
theorem parts_js : parts f w0 O S T X Y J K .js = fun w F => F = [f.jb] ∧ Blk w f.jb 60 (arr3 J) := rfl
theorem parts_ks : parts f w0 O S T X Y J K .ks = fun w F => F = [f.kb] ∧ Blk w f.kb 62 (arr3 K) := rfl
theorem pv_upd {σ : Type} {M : Nat → Option (Nat × σ)} {i a : Nat} {x x' : σ} (h : M i = some (a,x)) (k : Nat) : pv (upd' M i (some (a,x')) k) = pv (M k) := by
 by_cases e : k = i
 · subst e; rw [upd_at,h]; rfl
 · rw [upd_off _ _ _ e]
theorem arr3_same {σ : Type} {M : Nat → Option (Nat × σ)} {i a : Nat} {x x' : σ} (h : M i = some (a,x)) : arr3 (upd' M i (some (a,x'))) = arr3 M := by
 unfold arr3
 simp only [pv_upd h]
theorem arr3_get {σ : Type} (M : Nat → Option (Nat × σ)) {j : Nat} (h : j < 3) : (arr3 M)[j]? = some (pv (M j)) := by
 have : j = 0 ∨ j = 1 ∨ j = 2 := by omega
 rcases this with rfl | rfl | rfl <;> rfl
theorem arr3_set {σ : Type} (M : Nat → Option (Nat × σ)) {j : Nat} (h : j < 3) (q : Option (Nat × σ)) : (arr3 M).setIfInBounds j (pv q) = arr3 (upd' M j q) := by
 have : j = 0 ∨ j = 1 ∨ j = 2 := by omega
 rcases this with rfl | rfl | rfl <;> simp [arr3,upd']
structure Rg (f : Fx) (w0 w : World) (O : Option (Nat × Array Value)) (S T : Sp) (X Y : MC) (J K : MJ) : Prop where
 ex : ∃ G,Sep w0 w (parts f w0 O S T X Y J K) G
theorem Rg.calm (h : Rg f w0 w O S T X Y J K) (hk : Keeps [] w w') : Rg f w0 w' O S T X Y J K := by
 obtain ⟨G,hs⟩ := h
 exact ⟨G,hs.calm hk⟩
theorem Rg.keep (h : Rg f w0 w O S T X Y J K) : Keeps [] w0 w := by
 obtain ⟨G,hs⟩ := h
 exact hs.keep
theorem Rg.cells (h : Rg f w0 w O S T X Y J K) {j : Nat} (hj : j < 3) : w.cell? ⟨f.xb,j,none⟩ = some (pv (X j)) ∧ w.cell? ⟨f.yb,j,none⟩ = some (pv (Y j)) ∧ w.cell? ⟨f.jb,j,none⟩ = some (pv (J j)) ∧ w.cell? ⟨f.kb,j,none⟩ = some (pv (K j)) := by
 obtain ⟨G,hs⟩ := h
 exact ⟨((hs.at_ .xs).2.cell j).trans (arr3_get _ hj),((hs.at_ .ys).2.cell j).trans (arr3_get _ hj),((hs.at_ .js).2.cell j).trans (arr3_get _ hj),((hs.at_ .ks).2.cell j).trans (arr3_get _ hj)⟩
theorem Rg.arrs (h : Rg f w0 w O S T X Y J K) : Blk w f.xb 56 (arr3 X) ∧ Blk w f.yb 58 (arr3 Y) ∧ Blk w f.jb 60 (arr3 J) ∧ Blk w f.kb 62 (arr3 K) := by
 obtain ⟨G,hs⟩ := h
 exact ⟨(hs.at_ .xs).2,(hs.at_ .ys).2,(hs.at_ .js).2,(hs.at_ .ks).2⟩
theorem Rg.box {bo : Nat} {cs : Array Value} (h : Rg f w0 w (some (bo,cs)) S T X Y J K) : Blk w bo 71 cs := by
 obtain ⟨G,hs⟩ := h
 exact (hs.at_ .o).2
theorem Rg.sp (h : Rg f w0 w O S T X Y J K) : ∃ F,SP w0 w f.z F S := by
 obtain ⟨G,hs⟩ := h
 exact ⟨_,hs.at_ .s⟩
theorem Rg.rp (h : Rg f w0 w O S T X Y J K) : ∃ F,RP w0 w f.y F T := by
 obtain ⟨G,hs⟩ := h
 exact ⟨_,hs.at_ .r⟩
theorem Rg.zc (h : Rg f w0 w O S T X Y J K) : w.cell? ⟨f.z.p,0,none⟩ = some (PT f.z.m) := by
 obtain ⟨F,h⟩ := h.sp
 exact h.cells.1
theorem Rg.yc (h : Rg f w0 w O S T X Y J K) : w.cell? ⟨f.y.p,6,none⟩ = some (PT f.y.m) := by
 obtain ⟨F,h⟩ := h.rp
 exact h.cells.2.2.2.1
theorem Rg.done_cell (h : Rg f w0 w O S T X Y J K) : w.cell? ⟨f.y.m,2,none⟩ = some (.int .i64 T.met.done) := by
 obtain ⟨_,hr⟩ := h.rp
 obtain ⟨lb,v,hs,_⟩ := hr.ex
 obtain ⟨vx,hmx⟩ := hs.met
 exact (hmx.blk.cell 2).trans rfl
theorem Rg.done_call (h : Rg f w0 w O S T X Y J K) : Calls Tryz.prog 19 #[PT f.z.m] w fun e w' => e = .returned (.int .i64 S.met.done) ∧ w = w' := by
 obtain ⟨_,hs⟩ := h.sp
 exact sp_done hs
theorem Rg.j_of (h : Rg f w0 w O S T X Y J K) (e : J i = some (a,d)) : JAt w a f.c d := by
 obtain ⟨G,hs⟩ := h
 have hq := hs.at_ (.j i)
 rw [parts_j,e] at hq
 exact hq.2
theorem Rg.k_of (h : Rg f w0 w O S T X Y J K) (e : K i = some (a,d)) : JD w a f.c d := by
 obtain ⟨G,hs⟩ := h
 have hq := hs.at_ (.k i)
 rw [parts_k,e] at hq
 exact hq.2
theorem Rg.c_of (h : Rg f w0 w O S T X Y J K) (e : X i = some (cb,x)) : ∃ H jb dp,CmN w0 w f.z [] jb cb H dp (stgVal dp x.st) x := by
 obtain ⟨G,hs⟩ := h
 have hq := hs.at_ (.c i)
 rw [parts_c,e] at hq
 obtain ⟨jb,d,dp,_,hq⟩ := hq
 exact ⟨_,jb,dp,hq⟩
theorem Rg.d_of (h : Rg f w0 w O S T X Y J K) (e : Y i = some (b,x)) : ∃ F kb,CD w f.y f.n kb b x F := by
 obtain ⟨G,hs⟩ := h
 have hq := hs.at_ (.d i)
 rw [parts_d,e] at hq
 obtain ⟨kb,d,_,hq⟩ := hq
 exact ⟨_,kb,hq⟩
theorem space (hs : Sep w0 w (parts f w0 O S T X Y J K) G) (h : Go.Proofs.YtmlnedilbneekaaGreat.Went w0 w w' f.z (G .s) S') : Rg f w0 w' O S' T X Y J K := by
 obtain ⟨F',h1,h2,h3⟩ := h
 refine ⟨upd' G .s F',hs.one .s h2 (fun q hq => hq) (fun j hj => ⟨?_,upd_off _ _ _ hj⟩) ?_ (parts_lies _ _ _ _ _ _ _ _ _ _) ?_ ?_⟩
 · cases j <;> first | rfl | exact absurd rfl hj
 · rw [upd_at]; exact h1
 · rw [upd_at]; exact h1.apart
 · rw [upd_at]; exact h3
theorem doc (hs : Sep w0 w (parts f w0 O S T X Y J K) G) (h : RWent w0 w w' f.y (G .r) T') : Rg f w0 w' O S T' X Y J K := by
 obtain ⟨F',h1,h2,h3⟩ := h
 refine ⟨upd' G .r F',hs.one .r h2 (fun q hq => hq) (fun j hj => ⟨?_,upd_off _ _ _ hj⟩) ?_ (parts_lies _ _ _ _ _ _ _ _ _ _) ?_ ?_⟩
 · cases j <;> first | rfl | exact absurd rfl hj
 · rw [upd_at]; exact h1
 · rw [upd_at]; exact h1.apart
 · rw [upd_at]; exact h3
theorem Rg.turn (h : Rg f w0 w O S T X Y J K) (t : Int) : Calls Tryz.prog 13 #[PT f.z.p,.int .i64 t] w fun e w' => e = .returned (.tuple #[]) ∧ Rg f w0 w' O (S.begin t) T X Y J K := by
 obtain ⟨G,hs⟩ := h
 exact (sp_turn (hs.at_ .s) t).mono fun e w' ⟨he,hw⟩ => ⟨he,space hs hw⟩
theorem Rg.begin (h : Rg f w0 w O S T X Y J K) (t : Int) : Calls Tryz.prog 14 #[PT f.y.m,.int .i64 t] w fun e w' => e = .returned (.tuple #[]) ∧ Rg f w0 w' O S (T.begin t) X Y J K := by
 obtain ⟨G,hs⟩ := h
 exact (rp_begin (hs.at_ .r) t).mono fun e w' ⟨he,hw⟩ => ⟨he,doc hs hw⟩
theorem two (hs : Sep w0 w (parts f w0 O S S X Y J K) G) : Two w0 w f.z (G .s) f.y (G .r) S S := ⟨hs.at_ .s,hs.at_ .r,fun x hx => hs.dif .s .r (by decide) x hx⟩
theorem both (hs : Sep w0 w (parts f w0 O S S X Y J K) G) (h : TwoWent w0 w w' f.z (G .s) f.y (G .r) S') : Rg f w0 w' O S' S' X Y J K := by
 obtain ⟨F',G',h1,h2,h3,h4⟩ := h
 refine ⟨upd' (upd' G .s F') .r G',?_⟩
 refine hs.two .s .r (by decide) h2 (fun q hq => by rw [List.mem_append] at hq; exact hq) (fun j h5 h6 => ⟨?_,by rw [upd_off _ _ _ h6,upd_off _ _ _ h5]⟩) ?_ (parts_lies _ _ _ _ _ _ _ _ _ _) ?_ ?_ ?_ (parts_lies _ _ _ _ _ _ _ _ _ _) ?_ ?_ ?_
 · cases j <;> first | rfl | exact absurd rfl h5 | exact absurd rfl h6
 · rw [upd_off _ _ _ (by decide),upd_at]; exact h1.sp
 · rw [upd_off _ _ _ (by decide),upd_at]; exact h1.sp.apart
 · rw [upd_off _ _ _ (by decide),upd_at]; exact fun q hq => (h3 q hq).imp Or.inl id
 · rw [upd_at]; exact h1.rp
 · rw [upd_at]; exact h1.rp.apart
 · rw [upd_at]; exact fun q hq => (h4 q hq).imp Or.inr id
 · rw [upd_off _ _ _ (by decide),upd_at,upd_at]; exact h1.far
theorem raw_any (h : Rg f w0 w O S S X Y J K) (hf : Fit k S) (hk : k ≤ 1099511627776) (kd m i n1 x q0 q1 q2 q3 : Int) (q4 : Value) : Calls Tryz.prog 21 #[PT f.z.p,PT f.y.p,.agg #[.int .i64 kd,.int .i64 m,.int .i64 i,.int .i64 n1,.int .i64 x,.int .i64 q0,.int .i64 q1,.int .i64 q2,.int .i64 q3,q4]] w fun e w' => e = .returned (.bool true) ∧ Rg f w0 w' O (S.raw kd i n1 x) (S.raw kd i n1 x) X Y J K := by
 obtain ⟨G,hs⟩ := h
 exact (Raw13.any (two hs) hf hk kd m i n1 x q0 q1 q2 q3 q4).mono fun e w' ⟨he,hw⟩ => ⟨he,both hs hw⟩
theorem same_any (h : Rg f w0 w O S S X Y J K) (hf : Fit k S) (hk : k ≤ 1099511627776) : Calls Tryz.prog 23 #[PT f.z.p,PT f.y.p] w fun e w' => e = .returned (.bool true) ∧ Keeps [] w w' := by
 obtain ⟨G,hs⟩ := h
 exact Same13.any (two hs) hf hk
theorem Rg.laid (h : Rg f w0 w none S T X Y J K) (cs : Array Value) : Rg f w0 (w.alloc (.cells cs 71)) (some (w.heap.size,cs)) S T X Y J K := by
 obtain ⟨G,hs⟩ := h
 refine ⟨upd' G .o [w.heap.size],hs.one .o ((Keeps.refl [] w).alloc _) (by simp) (fun j hj => ⟨?_,upd_off _ _ _ hj⟩) ?_ (parts_lies _ _ _ _ _ _ _ _ _ _) ?_ ?_⟩
 · cases j <;> first | rfl | exact absurd rfl hj
 · rw [upd_at]; exact ⟨rfl,Blk.new _ _ _⟩
 · rw [upd_at]; exact apart_blk (Blk.new w 71 cs) hs.keep.size (by decide)
 · rw [upd_at]; exact fun q hq => .inr (by simp at hq; omega)
theorem Rg.left (h : Rg f w0 w O S T X Y J K) : Rg f w0 w none S T X Y J K := by
 obtain ⟨G,hs⟩ := h
 refine ⟨upd' G .o [],hs.one .o (Keeps.refl [] w) (by simp) (fun j hj => ⟨?_,upd_off _ _ _ hj⟩) ?_ (parts_lies _ _ _ _ _ _ _ _ _ _) ?_ ?_⟩
 · cases j <;> first | rfl | exact absurd rfl hj
 · rw [upd_at]; exact rfl
 · rw [upd_at]; exact Apart.nil
 · rw [upd_at]; simp
theorem CmN.tyf {H F : List Nat} {dp : Nat} {nv : Value} {z : Sb} (h : CmN w0 w z F jb cb H dp nv x) : ∀ q,q ∈ H → ∃ t,tyOf w q = some t ∧ t ∉ fixT := fun q hq => by
 obtain ⟨⟨wv,lp,Gl,Gd,h1,h2,h3,h4,rfl,h6,h7⟩,hlow,hoff,hty⟩ := h
 simp only [List.mem_cons,List.mem_append] at hq
 rcases hq with hq | hq | hq | hq
 · subst hq; exact ⟨_,h1.tyOf,by decide⟩
 · exact ⟨_,own_in h2 q hq,by decide⟩
 ·
  cases hl : x.lk with
  | none => rw [hl] at h3; obtain ⟨_,e⟩ := h3; rw [e] at hq; simp at hq
  | some l =>
    rw [hl] at h3
    obtain ⟨b,_,⟨tv,wv2,vv,h8,e⟩,_,_⟩ := h3
    rw [e] at hq
    simp only [footL,List.mem_cons,List.mem_append] at hq
    rcases hq with rfl | hq | hq | hq
    · exact ⟨_,h8.blk.tyOf,by decide⟩
    · exact ⟨_,h8.turns.ty q hq,by decide⟩
    · exact ⟨_,own_in h8.words q hq,by decide⟩
    · exact ⟨_,own_in h8.vs q hq,by decide⟩
 ·
  cases hl : x.dm with
  | none => rw [hl] at h4; have e : Gd = [] := h4; rw [e] at hq; simp at hq
  | some l =>
    rw [hl] at h4
    obtain ⟨⟨lv,dv,h8,e⟩,_,_⟩ := h4
    rw [e] at hq
    simp only [footD,List.mem_cons,List.mem_append] at hq
    rcases hq with rfl | hq | hq
    · exact ⟨_,h8.blk.tyOf,by decide⟩
    · exact ⟨_,h8.left.ty q hq,by decide⟩
    · exact ⟨_,own_in h8.doomed q hq,by decide⟩
theorem cm_calls (h : Rg f w0 w O S T X Y J K) (hx : X i = some (cb,x)) (hj : J i = some (jb,d)) (hf : Fit k S) (hk : k + 1 ≤ 1099511627776) (hcc : S.c = f.c) (hu : S.wu) (h0 : 0 ≤ d) (h1 : d ≤ 64) (ho : x.Ok S.H.length) :
 Calls Tryz.prog 17 #[PT cb] w fun e w' => e = .returned (.int .i64 (x.step S d).1) ∧ Rg f w0 w' O (x.step S d).2.2.1 T (upd' X i (some (cb,(x.step S d).2.1))) Y (upd' J i (some (jb,(x.step S d).2.2.2))) K := by
 obtain ⟨G,hs⟩ := h
 have hq := hs.at_ (.c i)
 rw [parts_c,hx] at hq
 obtain ⟨jb',d',dp,e,hq⟩ := hq
 rw [hj] at e
 injection e with e
 injection e with e1 e2
 subst e1 e2
 have hqj := hs.at_ (.j i)
 rw [parts_j,hj] at hqj
 obtain ⟨hgj,hja⟩ := hqj
 have hjG : jb ∈ G (.j i) := by rw [hgj]; simp
 have hT : CmTrio w0 w f.z (G .s) (G (.c i)) jb cb dp (stgVal dp x.st) S f.c d x := ⟨hs.at_ .s,hja,hq.beside (fun u hu hg => hs.dif (.c i) .s (by simp) u hu hg),fun hx => hs.dif (.j i) (.c i) (by simp) jb hjG hx,(hs.apart (.j i)).low jb hjG⟩
 refine (cm_step hT hf hk hcc hu h0 h1 ho).mono fun e w' ⟨he,dp',F',H',h2,h3,h4,h5,h6,h7⟩ => ⟨he,?_⟩
 refine ⟨upd' (upd' (upd' G .s F') (.j i) [jb]) (.c i) H',?_⟩
 have es : upd' (upd' (upd' G .s F') (.j i) [jb]) (.c i) H' .s = F' := by rw [upd_off _ _ _ (by simp),upd_off _ _ _ (by simp),upd_at]
 have ej : upd' (upd' (upd' G .s F') (.j i) [jb]) (.c i) H' (.j i) = [jb] := by rw [upd_off _ _ _ (by simp),upd_at]
 have ec : upd' (upd' (upd' G .s F') (.j i) [jb]) (.c i) H' (.c i) = H' := upd_at _ _ _
 have hjl := hs.lt (.j i) jb hjG
 have hjF : jb ∉ F' := fun hx => (h6 jb hx).elim (fun hg => hs.dif (.j i) .s (by simp) jb hjG hg) (fun hg => by omega)
 have hjH : jb ∉ H' := fun hx => (h7 jb hx).elim (fun hg => hs.dif (.j i) (.c i) (by simp) jb hjG hg) (fun hg => by omega)
 refine hs.three .s (.j i) (.c i) (by simp) (by simp) (by simp) h5 (fun q hq => ?_) (fun u u1 u2 u3 => ⟨?_,by rw [upd_off _ _ _ u3,upd_off _ _ _ u2,upd_off _ _ _ u1]⟩) (fun u hu => ?_) ?_ ?_ ?_
 · simp only [List.mem_cons,List.mem_append] at hq
   rcases hq with hq | hq | hq
   · subst hq; exact .inr (.inl hjG)
   · exact .inr (.inr hq)
   · exact .inl hq
 ·
  cases u with
  | s => exact absurd rfl u1
  | j q =>
    have hqi : q ≠ i := fun e => u2 (e ▸ rfl)
    simp only [parts_j]
    rw [upd_off _ _ _ hqi]
  | c q =>
    have hqi : q ≠ i := fun e => u3 (e ▸ rfl)
    simp only [parts_c]
    rw [upd_off _ _ _ hqi]
    unfold PC
    rw [upd_off _ _ _ hqi]
  | xs => simp only [parts_xs]; rw [arr3_same hx]
  | js => simp only [parts_js]; rw [arr3_same hj]
  | _ => rfl
 ·
  rcases hu with rfl | rfl | rfl
  · rw [es]
    exact ⟨h2,parts_lies _ _ _ _ _ _ _ _ _ _,h2.apart,fun q hq => (h6 q hq).imp Or.inl id⟩
  · rw [ej]
    refine ⟨?_,parts_lies _ _ _ _ _ _ _ _ _ _,apart_blk h3 ((hs.apart (.j i)).low jb hjG) (by decide),fun q hq => .inl (.inr (.inl (by simp at hq; subst hq; exact hjG)))⟩
    rw [parts_j,upd_at]
    exact ⟨rfl,h3⟩
  · rw [ec]
    refine ⟨?_,parts_lies _ _ _ _ _ _ _ _ _ _,⟨h4.low,CmN.tyf h4⟩,fun q hq => (h7 q hq).imp (fun hg => .inr (.inr hg)) id⟩
    rw [parts_c,upd_at]
    exact ⟨jb,_,dp',upd_at _ _ _,h4.bare⟩
 · rw [es,ej]; intro q hq2 hg; simp at hg; rw [hg] at hq2; exact hjF hq2
 · rw [es,ec]; intro q hq hg; exact h4.off q hg hq
 · rw [ej,ec]; intro q hq2 hg; simp at hq2; rw [hq2] at hg; exact hjH hg
theorem cd_calls (h : Rg f w0 w O S T X Y J K) (hx : Y i = some (b,x)) (hj : K i = some (kb,d)) (hf : Fit k T) (hk : k ≤ 1099511627776) (hcc : T.c = f.c) (hu : T.wu) (hn : T.c.slots = (f.n : Int)) (h0 : 0 ≤ d) (h1 : d ≤ 64) (ho : x.Ok f.n) :
 Calls Tryz.prog 18 #[PT b] w fun e w' => e = .returned (.int .i64 (x.step T d).1) ∧ Rg f w0 w' O S (x.step T d).2.2.1 X (upd' Y i (some (b,(x.step T d).2.1))) J (upd' K i (some (kb,(x.step T d).2.2.2))) := by
 obtain ⟨G,hs⟩ := h
 have hq := hs.at_ (.d i)
 rw [parts_d,hx] at hq
 obtain ⟨kb',d',e,hq⟩ := hq
 rw [hj] at e
 injection e with e
 injection e with e1 e2
 subst e1 e2
 have hqj := hs.at_ (.k i)
 rw [parts_k,hj] at hqj
 obtain ⟨hgj,hja⟩ := hqj
 have hjG : kb ∈ G (.k i) := by rw [hgj]; simp
 have hT : Tri w0 w f.y (G .r) f.n kb b x (G (.d i)) f.c d T := ⟨hs.at_ .r,hja,hq,fun hx => hs.dif (.k i) (.d i) (by simp) kb hjG hx,fun hx => hs.dif (.k i) .r (by simp) kb hjG hx,(hs.apart (.k i)).low kb hjG,fun u hu hg => hs.dif (.d i) .r (by simp) u hu hg,(hs.apart (.d i)).low,(hs.apart (.d i)).ty⟩
 refine (cd_step hT hf hk hcc hu hn h0 h1 ho).mono fun e w' ⟨he,G',F',h2,h3,h4,h5,h6,h7,h8,h9⟩ => ⟨he,?_⟩
 refine ⟨upd' (upd' (upd' G .r G') (.k i) [kb]) (.d i) F',?_⟩
 have es : upd' (upd' (upd' G .r G') (.k i) [kb]) (.d i) F' .r = G' := by rw [upd_off _ _ _ (by simp),upd_off _ _ _ (by simp),upd_at]
 have ej : upd' (upd' (upd' G .r G') (.k i) [kb]) (.d i) F' (.k i) = [kb] := by rw [upd_off _ _ _ (by simp),upd_at]
 have ec : upd' (upd' (upd' G .r G') (.k i) [kb]) (.d i) F' (.d i) = F' := upd_at _ _ _
 have hjl := hs.lt (.k i) kb hjG
 have hdl := hs.lt (.d i)
 have hjF : kb ∉ G' := fun hx => (h6 kb hx).elim (fun hg => hs.dif (.k i) .r (by simp) kb hjG hg) (fun hg => by omega)
 have hjH : kb ∉ F' := fun hx => (h8 kb hx).elim (fun hg => hs.dif (.k i) (.d i) (by simp) kb hjG hg) (fun hg => by omega)
 have hbase := hs.keep.size
 refine hs.three .r (.k i) (.d i) (by simp) (by simp) (by simp) h5 (fun q hq => ?_) (fun u u1 u2 u3 => ⟨?_,by rw [upd_off _ _ _ u3,upd_off _ _ _ u2,upd_off _ _ _ u1]⟩) (fun u hu => ?_) ?_ ?_ ?_
 · simp only [List.mem_cons,List.mem_append] at hq
   rcases hq with hq | hq | hq
   · subst hq; exact .inr (.inl hjG)
   · exact .inr (.inr hq)
   · exact .inl hq
 ·
  cases u with
  | r => exact absurd rfl u1
  | k q =>
    have hqi : q ≠ i := fun e => u2 (e ▸ rfl)
    simp only [parts_k]
    rw [upd_off _ _ _ hqi]
  | d q =>
    have hqi : q ≠ i := fun e => u3 (e ▸ rfl)
    simp only [parts_d]
    rw [upd_off _ _ _ hqi]
    unfold PE
    rw [upd_off _ _ _ hqi]
  | ys => simp only [parts_ys]; rw [arr3_same hx]
  | ks => simp only [parts_ks]; rw [arr3_same hj]
  | _ => rfl
 ·
  rcases hu with rfl | rfl | rfl
  · rw [es]
    exact ⟨h2,parts_lies _ _ _ _ _ _ _ _ _ _,h2.apart,fun q hq => (h6 q hq).imp Or.inl id⟩
  · rw [ej]
    refine ⟨?_,parts_lies _ _ _ _ _ _ _ _ _ _,apart_blk h3 ((hs.apart (.k i)).low kb hjG) (by decide),fun q hq => .inl (.inr (.inl (by simp at hq; subst hq; exact hjG)))⟩
    rw [parts_k,upd_at]
    exact ⟨rfl,h3⟩
  · rw [ec]
    refine ⟨?_,parts_lies _ _ _ _ _ _ _ _ _ _,⟨fun q hq => (h8 q hq).elim ((hs.apart (.d i)).low q) (fun hg => by omega),h9⟩,fun q hq => (h8 q hq).imp (fun hg => .inr (.inr hg)) And.left⟩
    rw [parts_d,upd_at]
    exact ⟨kb,_,upd_at _ _ _,h4⟩
 · rw [es,ej]; intro q hq2 hg; simp at hg; rw [hg] at hq2; exact hjF hq2
 ·
  rw [es,ec]
  intro q hq hg
  rcases h8 q hg with h10 | ⟨_,h10⟩
  · rcases h6 q hq with h11 | h11
    · exact hs.dif (.d i) .r (by simp) q h10 h11
    · have := hdl q h10; omega
  · exact h10 hq
 · rw [ej,ec]; intro q hq2 hg; simp at hq2; rw [hq2] at hg; exact hjH hg
end
end CP
end Go.Proofs.YtmlnedilbneekaaGreat