/- A raw step over what a space holds, as a function. Plain Lean. -/
import Derived.Test.YtmlnedilbneekaaGreatRp
import Derived.Test.YtmlnedilbneekaaGreatSlR
set_option linter.unusedVariables false
set_option linter.unusedSimpArgs false
namespace Go.Proofs.YtmlnedilbneekaaGreat
open Go.RowKit
def fixT : List TypeId := spFix ++ rpFix
theorem fix_sp {t : TypeId} (h : t ∉ fixT) : t ∉ spFix := fun hx => h (by simp [fixT,hx])
theorem fix_rp {t : TypeId} (h : t ∉ fixT) : t ∉ rpFix := fun hx => h (by simp [fixT,hx])
structure Apart (w0 w : World) (X : List Nat) : Prop where
 low : ∀ q,q ∈ X → w0.heap.size ≤ q
 ty : ∀ q,q ∈ X → ∃ t,tyOf w q = some t ∧ t ∉ fixT
def Lies (w0 : World) (P : World → List Nat → Prop) : Prop := ∀ w w' G X,P w G → Keeps X w w' → (∀ q,q ∈ G → q ∉ X) → Apart w0 w X → P w' G
structure Sep {ι : Type} (w0 w : World) (P : ι → World → List Nat → Prop) (G : ι → List Nat) : Prop where
 at_ : ∀ i,P i w (G i)
 lies : ∀ i,Lies w0 (P i)
 apart : ∀ i,Apart w0 w (G i)
 dif : ∀ i j,i ≠ j → ∀ q,q ∈ G i → q ∉ G j
 keep : Keeps [] w0 w
section
variable {ι : Type} {w0 w w' : World} {P P' : ι → World → List Nat → Prop} {G G' : ι → List Nat} {X Y : List Nat}
theorem Apart.lt (h : Apart w0 w X) : ∀ q,q ∈ X → q < w.heap.size := fun q hq => by
 obtain ⟨t,ht,_⟩ := h.ty q hq
 exact tyOf_lt ht
theorem Apart.keeps (h : Apart w0 w X) (hk : Keeps Y w w') (hY : ∀ q,q ∈ X → q ∉ Y) : Apart w0 w' X := ⟨h.low,fun q hq => by
 obtain ⟨t,ht,hn⟩ := h.ty q hq
 exact ⟨t,tyOf_keeps ht hk (hY q hq),hn⟩⟩
theorem Apart.sub (h : Apart w0 w X) (hY : ∀ q,q ∈ Y → q ∈ X) : Apart w0 w Y := ⟨fun q hq => h.low q (hY q hq),fun q hq => h.ty q (hY q hq)⟩
theorem Apart.app (h : Apart w0 w X) (h2 : Apart w0 w Y) : Apart w0 w (X ++ Y) := ⟨fun q hq => by rw [List.mem_append] at hq; exact hq.elim (h.low q) (h2.low q),fun q hq => by rw [List.mem_append] at hq; exact hq.elim (h.ty q) (h2.ty q)⟩
theorem Apart.cons {b : Nat} (hb : w0.heap.size ≤ b) {t : TypeId} (ht : tyOf w b = some t) (hn : t ∉ fixT) (h2 : Apart w0 w Y) : Apart w0 w (b :: Y) := ⟨fun q hq => by rw [List.mem_cons] at hq; rcases hq with rfl | hq; exact hb; exact h2.low q hq,fun q hq => by rw [List.mem_cons] at hq; rcases hq with rfl | hq; exact ⟨t,ht,hn⟩; exact h2.ty q hq⟩
theorem Apart.nil : Apart w0 w [] := ⟨by simp,by simp⟩
theorem Sep.lt (h : Sep w0 w P G) (i : ι) : ∀ q,q ∈ G i → q < w.heap.size := (h.apart i).lt
theorem Sep.step (h : Sep w0 w P G) (I : ι → Prop) (hk : Keeps X w w') (hX : ∀ q,q ∈ X → ∃ i,I i ∧ q ∈ G i)
 (hold : ∀ i,¬ I i → P' i = P i ∧ G' i = G i)
 (hP : ∀ i,I i → P' i w' (G' i) ∧ Lies w0 (P' i) ∧ Apart w0 w' (G' i) ∧ ∀ q,q ∈ G' i → (∃ j,I j ∧ q ∈ G j) ∨ w.heap.size ≤ q)
 (hd : ∀ i j,I i → I j → i ≠ j → ∀ q,q ∈ G' i → q ∉ G' j) : Sep w0 w' P' G' := by
 have hXa : Apart w0 w X := ⟨fun q hq => by obtain ⟨i,_,hg⟩ := hX q hq; exact (h.apart i).low q hg,fun q hq => by obtain ⟨i,_,hg⟩ := hX q hq; exact (h.apart i).ty q hg⟩
 have hoff : ∀ i,¬ I i → ∀ q,q ∈ G i → q ∉ X := fun i hi q hq hx => by
  obtain ⟨j,hj,hg⟩ := hX q hx
  exact h.dif j i (fun e => hi (e ▸ hj)) q hg hq
 have hcross : ∀ i j,I i → ¬ I j → ∀ q,q ∈ G' i → q ∉ G j := fun i j hi hj q hq hg => by
  rcases (hP i hi).2.2.2 q hq with ⟨m,hm,hg2⟩ | h1
  · exact h.dif m j (fun e => hj (e ▸ hm)) q hg2 hg
  · have := h.lt j q hg; omega
 refine ⟨fun i => ?_,fun i => ?_,fun i => ?_,fun i j hij q hq hg => ?_,h.keep.trans hk (fun q hq => .inr (hXa.low q hq))⟩
 · by_cases hi : I i
   · exact (hP i hi).1
   · rw [(hold i hi).1,(hold i hi).2]
     exact h.lies i w w' (G i) X (h.at_ i) hk (hoff i hi) hXa
 · by_cases hi : I i
   · exact (hP i hi).2.1
   · rw [(hold i hi).1]; exact h.lies i
 · by_cases hi : I i
   · exact (hP i hi).2.2.1
   · rw [(hold i hi).2]; exact (h.apart i).keeps hk (hoff i hi)
 ·
  by_cases hi : I i
  · by_cases hj : I j
    · exact hd i j hi hj hij q hq hg
    · rw [(hold j hj).2] at hg
      exact hcross i j hi hj q hq hg
  · rw [(hold i hi).2] at hq
    by_cases hj : I j
    · exact hcross j i hj hi q hg hq
    · rw [(hold j hj).2] at hg
      exact h.dif i j hij q hq hg
theorem Sep.calm (h : Sep w0 w P G) (hk : Keeps [] w w') : Sep w0 w' P G :=
 h.step (P' := P) (G' := G) (fun _ => False) hk (by simp) (fun i _ => ⟨rfl,rfl⟩) (fun i hi => hi.elim) (fun i j hi => hi.elim)
theorem Sep.one (h : Sep w0 w P G) (i : ι) (hk : Keeps X w w') (hX : ∀ q,q ∈ X → q ∈ G i) (hold : ∀ j,j ≠ i → P' j = P j ∧ G' j = G j)
 (hP : P' i w' (G' i)) (hl : Lies w0 (P' i)) (ha : Apart w0 w' (G' i)) (hn : ∀ q,q ∈ G' i → q ∈ G i ∨ w.heap.size ≤ q) : Sep w0 w' P' G' := by
 refine h.step (fun j => j = i) hk (fun q hq => ⟨i,rfl,hX q hq⟩) (fun j hj => hold j hj) (fun j hj => ?_) (fun a b ha hb hab => (hab (ha.trans hb.symm)).elim)
 subst hj
 exact ⟨hP,hl,ha,fun q hq => (hn q hq).imp (fun hg => ⟨j,rfl,hg⟩) id⟩
theorem Sep.two (h : Sep w0 w P G) (i k : ι) (hik : i ≠ k) (hk : Keeps X w w') (hX : ∀ q,q ∈ X → q ∈ G i ∨ q ∈ G k) (hold : ∀ j,j ≠ i → j ≠ k → P' j = P j ∧ G' j = G j)
 (hP : P' i w' (G' i)) (hl : Lies w0 (P' i)) (ha : Apart w0 w' (G' i)) (hn : ∀ q,q ∈ G' i → (q ∈ G i ∨ q ∈ G k) ∨ w.heap.size ≤ q)
 (hP2 : P' k w' (G' k)) (hl2 : Lies w0 (P' k)) (ha2 : Apart w0 w' (G' k)) (hn2 : ∀ q,q ∈ G' k → (q ∈ G i ∨ q ∈ G k) ∨ w.heap.size ≤ q) (hd : ∀ q,q ∈ G' i → q ∉ G' k) : Sep w0 w' P' G' := by
 refine h.step (fun j => j = i ∨ j = k) hk (fun q hq => ?_) (fun j hj => hold j (fun e => hj (.inl e)) (fun e => hj (.inr e))) (fun j hj => ?_) (fun a b ha hb hab q hq hg => ?_)
 · rcases hX q hq with h1 | h1
   · exact ⟨i,.inl rfl,h1⟩
   · exact ⟨k,.inr rfl,h1⟩
 · rcases hj with rfl | rfl
   · exact ⟨hP,hl,ha,fun q hq => (hn q hq).imp (fun hg => hg.elim (fun h1 => ⟨j,.inl rfl,h1⟩) (fun h1 => ⟨k,.inr rfl,h1⟩)) id⟩
   · exact ⟨hP2,hl2,ha2,fun q hq => (hn2 q hq).imp (fun hg => hg.elim (fun h1 => ⟨i,.inl rfl,h1⟩) (fun h1 => ⟨j,.inr rfl,h1⟩)) id⟩
 · rcases ha with rfl | rfl <;> rcases hb with rfl | rfl
   · exact hab rfl
   · exact hd q hq hg
   · exact hd q hg hq
   · exact hab rfl
end
section
variable {w0 w w' : World} {z : Sb} {y : Rb} {S T : Sp} {F : List Nat} {b : Nat} {t : TypeId} {cs : Array Value}
theorem lies_sp (z : Sb) (S : Sp) : Lies w0 (fun w F => SP w0 w z F S) := fun w w' G X h hk hX ha => h.away hk (fun q hq => ⟨ha.low q hq,fun hg => hX q hg hq,fun t ht => by
 obtain ⟨t',ht',hn⟩ := ha.ty q hq
 rw [ht] at ht'
 injection ht' with ht'
 subst ht'
 exact fix_sp hn⟩)
theorem lies_rp (y : Rb) (S : Sp) : Lies w0 (fun w F => RP w0 w y F S) := fun w w' G X h hk hX ha => h.away hk (fun q hq => ⟨ha.low q hq,fun hg => hX q hg hq,fun t ht => by
 obtain ⟨t',ht',hn⟩ := ha.ty q hq
 rw [ht] at ht'
 injection ht' with ht'
 subst ht'
 exact fix_rp hn⟩)
theorem lies_blk (b : Nat) (t : TypeId) (cs : Array Value) : Lies w0 (fun w F => F = [b] ∧ Blk w b t cs) := fun w w' G X h hk hX ha => ⟨h.1,h.2.keeps hk (hX b (by rw [h.1]; simp))⟩
theorem lies_none : Lies w0 (fun w F => F = []) := fun w w' G X h hk hX ha => h
theorem RWent.pre {w1 : World} {G : List Nat} {S' : Sp} (hk : Keeps [] w w1) (h : RWent w0 w1 w' y G S') : RWent w0 w w' y G S' := by
 obtain ⟨G',h1,h2,h3⟩ := h
 have := hk.size
 exact ⟨G',h1,(hk.mono (by simp)).trans h2 (fun q hq => .inl hq),fun q hq => (h3 q hq).imp id (fun h => by omega)⟩
theorem RP.base {w1 : World} (h : RP w1 w y F S) (hk : Keeps [] w0 w1) : RP w0 w y F S := ⟨h.ex,fun x hx => Nat.le_trans hk.size (h.low x hx),hk.trans h.keep (by simp)⟩
theorem spT_fix : ∀ t,t ∈ spT → t ∉ fixT := by decide
theorem rpT_fix : ∀ t,t ∈ rpT → t ∉ fixT := by decide
theorem SP.apart (h : SP w0 w z F S) : Apart w0 w F := ⟨h.low,fun q hq => by
 obtain ⟨t,ht,e⟩ := h.footT q hq
 exact ⟨t,e,spT_fix t ht⟩⟩
theorem RP.apart (h : RP w0 w y F S) : Apart w0 w F := ⟨h.low,fun q hq => by
 obtain ⟨t,ht,e⟩ := h.footT q hq
 exact ⟨t,e,rpT_fix t ht⟩⟩
theorem apart_blk (h : Blk w b t cs) (hb : w0.heap.size ≤ b) (ht : t ∉ fixT) : Apart w0 w [b] := Apart.cons hb h.tyOf ht Apart.nil
end
open Go.RowKit
def asU (x : Int) : Int := IntKind.u64.wrap x
def Sp.raw (S : Sp) (kd i n x : Int) : Sp :=
 if kd = 3 then (S.store i x).2 else if kd = 5 then (S.take i).2 else if kd = 6 then (S.give i).2 else if kd = 7 then (S.claim i n).2
 else if kd = 8 then (S.ready i n x).2 else if kd = 9 then (S.doom i n x).2 else if kd = 10 then (S.free i n).2 else if kd = 12 then (S.put i n (asU x)).2 else S
theorem Fit.raw {k : Nat} {S : Sp} (h : Fit k S) (kd i n x : Int) : Fit (k + 1) (S.raw kd i n x) := by
 unfold Sp.raw
 split; exact h.store _ _
 split; exact h.take _
 split; exact h.give _
 split; exact h.claim _ _
 split; exact h.ready _ _ _
 split; exact h.doom _ _ _
 split; exact h.free _ _
 split; exact h.put _ _ _
 exact h.succ
def TwoWent (w0 w w' : World) (z : Sb) (F : List Nat) (y : Rb) (G : List Nat) (S' : Sp) : Prop :=
 ∃ F' G',Two w0 w' z F' y G' S' S' ∧ Keeps (F ++ G) w w' ∧ (∀ q,q ∈ F' → q ∈ F ∨ w.heap.size ≤ q) ∧ (∀ q,q ∈ G' → q ∈ G ∨ w.heap.size ≤ q)
section
variable {w0 w w1 w2 w' : World} {z : Sb} {F F' : List Nat} {y : Rb} {G G' : List Nat} {S S' T T' : Sp} {k : Nat}
theorem Two.still (h : Two w0 w z F y G S S) (hk : Keeps [] w w') : TwoWent w0 w w' z F y G S := ⟨F,G,h.calm hk,hk.mono (by simp),fun q hq => .inl hq,fun q hq => .inl hq⟩
theorem Two.both (hk0 : Keeps [] w w1) (hk1 : Keeps F w1 w2) (hn : ∀ q,q ∈ F' → q ∈ F ∨ w1.heap.size ≤ q) (h : Two w0 w2 z F' y G S' S) (hw : RWent w0 w2 w' y G S') : TwoWent w0 w w' z F y G S' := by
 obtain ⟨G',h1,h2,h3⟩ := h.right hw
 have s0 := hk0.size
 have s1 := hk1.size
 exact ⟨F',G',h1,((hk0.mono (T := F ++ G) (by simp)).trans hk1 (fun q hq => .inl (by simp [hq]))).trans h2 (fun q hq => .inl (by simp [hq])),fun q hq => (hn q hq).imp id (fun h => by omega),fun q hq => (h3 q hq).imp id (fun h => by omega)⟩
theorem gate_held {wB : World} (h : SP w0 wB z F S) (hk : Keeps [] wB w) : Calls Tryz.prog 82 #[PT z.p] w fun e w' => e = .returned (PT z.q) ∧ Keeps [] wB w' :=
 (sp_gate (h.calm hk)).mono fun e w' ⟨he,h2⟩ => ⟨he,h2 ▸ hk⟩
end
end Go.Proofs.YtmlnedilbneekaaGreat