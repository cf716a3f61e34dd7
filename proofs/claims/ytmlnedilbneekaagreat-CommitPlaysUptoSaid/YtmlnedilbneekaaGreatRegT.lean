/- Layer 12: where a look and a dooming lie, beside a space. -/
import Derived.Test.YtmlnedilbneekaaGreatSpF
import Derived.Test.YtmlnedilbneekaaGreatSigMeets
import Derived.Test.YtmlnedilbneekaaGreatSlR
import Derived.Deep.RegionHeld3
set_option linter.unusedVariables false
set_option linter.unusedSimpArgs false
namespace Go.Proofs.YtmlnedilbneekaaGreat
open Go.RowKit
structure Vc where
 slot : Int
 gen : Int
 stamp : Int
 thread : Int
deriving DecidableEq
def Vc.cells (v : Vc) : List Value := [.int .i64 v.slot,.int .i64 v.gen,.int .i64 v.stamp,.int .i64 v.thread]
def vcCells (l : List Vc) : List Value := l.flatMap Vc.cells
theorem vcCells_len (l : List Vc) : (vcCells l).length = l.length * 4 := by
 induction l with
 | nil => rfl
 | cons x l ih => simp [vcCells,Vc.cells] at ih ⊢; omega
theorem vcCells_snoc (l : List Vc) (x : Vc) : vcCells (l ++ [x]) = vcCells l ++ x.cells := by simp [vcCells]
structure Lk where
 own : Int
 writes : Sg
 turns : List Int
 head : Hd
 words : List Int
 looked : Bool
 victims : List Vc
def turnsTo (slot : Int) : Nat → List Int
 | 0 => []
 | k + 1 => if (k : Int) = slot then turnsTo slot k else turnsTo slot k ++ [(k : Int)]
def Lk.new (n : Nat) (slot : Int) (s : Sg) : Lk := ⟨slot,s,turnsTo slot n,Hd.zero,[],false,[]⟩
def Lk.turn (x : Lk) : Lk := { x with turns := x.turns.tail,words := [],looked := false }
def sgOf (ws : List Int) : Sg := ⟨(ws.getD 0 0).toNat,(ws.getD 1 0).toNat⟩
def Lk.met (x : Lk) : Bool := !((sgOf x.words).meet x.writes).none
def Lk.at_ (x : Lk) (h : Hd) : Lk := { x with head := h,looked := true }
def Lk.word (x : Lk) (v : Int) : Lk := { x with words := x.words ++ [v] }
def Lk.meets (x : Lk) (t : Int) : Lk := { x with victims := x.victims ++ [⟨t,x.head.gen,x.head.stamp,x.head.thread⟩] }
def Lk.step (x : Lk) (S : Sp) : Int × Lk × Sp :=
 match x.turns with
 | [] => (3,x,S)
 | t :: _ =>
   if x.looked = false then
    (1,if (S.look t).1.1.state ≠ 2 ∨ (S.look t).1.1.doomed = true then (x.at_ (S.look t).1.1).turn else x.at_ (S.look t).1.1,(S.look t).2)
   else
    (1,if x.words.length + 1 < 2 then x.word (S.word t x.words.length).1.1
      else if (x.word (S.word t x.words.length).1.1).met = true then ((x.word (S.word t x.words.length).1.1).meets t).turn
      else (x.word (S.word t x.words.length).1.1).turn,(S.word t x.words.length).2)
def isU (x : Int) : Prop := 0 ≤ x ∧ x < 18446744073709551616
structure Lk.Ok (k : Nat) (x : Lk) : Prop where
 sg : x.writes.ok
 turns : x.turns.length ≤ 8
 rng : ∀ t,t ∈ x.turns → 0 ≤ t ∧ t < 8
 words : x.words.length ≤ 1
 wu : ∀ v,v ∈ x.words → isU v
 vs : x.victims.length ≤ k
theorem turnsTo_len (slot : Int) : ∀ k,(turnsTo slot k).length ≤ k
 | 0 => Nat.le_refl _
 | k + 1 => by
   have := turnsTo_len slot k
   unfold turnsTo
   split
   · omega
   · simp; omega
theorem turnsTo_rng (slot : Int) : ∀ k t,t ∈ turnsTo slot k → 0 ≤ t ∧ t < k
 | 0,t,h => by simp [turnsTo] at h
 | k + 1,t,h => by
   have hh := turnsTo_rng slot k t
   unfold turnsTo at h
   split at h
   · have := hh h; omega
   · rw [List.mem_append] at h
     rcases h with h | h
     · have := hh h; omega
     · simp at h; omega
def Sp.wu (S : Sp) : Prop := ∀ v,v ∈ S.W → isU v
theorem Sp.wu.word {S : Sp} (h : S.wu) (i j : Int) : isU (S.word i j).1.1 := by
 unfold Sp.word
 split
 · exact ⟨by simp,by simp⟩
 · rename_i x hx
   exact h x (List.mem_of_getElem? (wnth_some hx).2.2)
theorem Fit.lkstep {k : Nat} {S : Sp} (h : Fit k S) (x : Lk) : Fit (k + 1) (x.step S).2.2 := by
 unfold Lk.step
 split
 · exact h.succ
 · split
   · exact h.look _
   · exact h.word _ _
structure Dm where
 who : Int
 left : List Vc
 doomed : List Vc
def Dm.new (b : Int) (l : List Vc) : Dm := ⟨b,l,[]⟩
def Dm.step (x : Dm) (S : Sp) : Int × Dm × Sp :=
 match x.left with
 | [] => (3,x,S)
 | v :: l => (1,if (S.doom v.slot v.gen x.who).1 = 0 then ⟨x.who,l,x.doomed ++ [v]⟩ else ⟨x.who,l,x.doomed⟩,(S.doom v.slot v.gen x.who).2)
theorem Fit.dmstep {k : Nat} {S : Sp} (h : Fit k S) (x : Dm) : Fit (k + 1) (x.step S).2.2 := by
 unfold Dm.step
 split
 · exact h.succ
 · exact h.doom _ _ _
open Go.RowKit
theorem Tryz.infoVc : (Tryz.prog.info? 113).map (fun i => (i.zero,i.size,i.bytes)) = some (some (.agg #[.int .i64 0,.int .i64 0,.int .i64 0,.int .i64 0]),4,32) := by kernel_rfl
structure LkAt (w : World) (z : Sb) (b : Nat) (tv wv vv : Value) (x : Lk) : Prop where
 blk : Blk w b 189 #[PT z.p,.int .i64 x.own,.int .u64 (x.writes.a : Int),.int .u64 (x.writes.b : Int),tv,.int .i64 x.head.gen,.int .i64 x.head.state,.int .i64 x.head.stamp,.int .i64 x.head.thread,.bool x.head.doomed,.int .i64 x.head.who,wv,.bool x.looked,vv]
 turns : SlR w 3 1 tv x.turns.length (x.turns.map (Value.int .i64))
 words : w.ownsRow 0 45 1 wv x.words.length (x.words.map (Value.int .u64))
 vs : w.ownsRow 0 113 4 vv x.victims.length (vcCells x.victims)
def footL (b : Nat) (tv wv vv : Value) : List Nat := b :: (vblk tv ++ (vblk wv ++ vblk vv))
structure DmAt (w : World) (z : Sb) (b : Nat) (lv dv : Value) (x : Dm) : Prop where
 blk : Blk w b 193 #[PT z.p,.int .i64 x.who,lv,dv]
 left : SlR w 113 4 lv x.left.length (vcCells x.left)
 doomed : w.ownsRow 0 113 4 dv x.doomed.length (vcCells x.doomed)
 dif : ∀ q,q ∈ vblk lv → q ∉ vblk dv
def footD (b : Nat) (lv dv : Value) : List Nat := b :: (vblk lv ++ vblk dv)
structure Apt (w0 w : World) (F G : List Nat) : Prop where
 low : ∀ y,y ∈ G → w0.heap.size ≤ y
 off : ∀ y,y ∈ G → y ∉ F
 ty : ∀ y,y ∈ G → ∃ t,tyOf w y = some t ∧ t ∉ spFix
structure LK (w0 w : World) (z : Sb) (F : List Nat) (b : Nat) (G : List Nat) (x : Lk) : Prop where
 ex : ∃ tv wv vv,LkAt w z b tv wv vv x ∧ G = footL b tv wv vv
 low : ∀ y,y ∈ G → w0.heap.size ≤ y
 off : ∀ y,y ∈ G → y ∉ F
structure DM (w0 w : World) (z : Sb) (F : List Nat) (b : Nat) (G : List Nat) (x : Dm) : Prop where
 ex : ∃ lv dv,DmAt w z b lv dv x ∧ G = footD b lv dv
 low : ∀ y,y ∈ G → w0.heap.size ≤ y
 off : ∀ y,y ∈ G → y ∉ F
section
variable {w0 w w' w'' : World} {z : Sb} {F F' G G' X : List Nat} {S S' : Sp} {k b : Nat} {x x' : Lk} {y y' : Dm} {tv wv vv lv dv : Value}
theorem own_in {base size n : Nat} {t : TypeId} {v : Value} {xs : List Value} (h : w.ownsRow base t size v n xs) : ∀ q,q ∈ vblk v → tyOf w q = some t := fun q hq => own_tyOf h (by simpa [vblk] using hq)
theorem LkAt.keeps (h : LkAt w z b tv wv vv x) (hk : Keeps X w w') (hX : ∀ q,q ∈ footL b tv wv vv → q ∉ X) : LkAt w' z b tv wv vv x :=
 ⟨h.blk.keeps hk (hX b (by simp [footL])),h.turns.keeps hk (fun q hq => hX q (by simp [footL,hq])),own_keeps h.words hk (fun q hq => hX q (by simp [footL,vblk,hq])),own_keeps h.vs hk (fun q hq => hX q (by simp [footL,vblk,hq]))⟩
theorem DmAt.keeps (h : DmAt w z b lv dv y) (hk : Keeps X w w') (hX : ∀ q,q ∈ footD b lv dv → q ∉ X) : DmAt w' z b lv dv y :=
 ⟨h.blk.keeps hk (hX b (by simp [footD])),h.left.keeps hk (fun q hq => hX q (by simp [footD,hq])),own_keeps h.doomed hk (fun q hq => hX q (by simp [footD,vblk,hq])),h.dif⟩
theorem LkAt.ty (h : LkAt w z b tv wv vv x) : ∀ q,q ∈ footL b tv wv vv → ∃ t,tyOf w q = some t ∧ t ∉ spFix := fun q hq => by
 simp only [footL,List.mem_cons,List.mem_append] at hq
 rcases hq with rfl | hq | hq | hq
 · exact ⟨_,h.blk.tyOf,by decide⟩
 · exact ⟨_,h.turns.ty q hq,by decide⟩
 · exact ⟨_,own_in h.words q hq,by decide⟩
 · exact ⟨_,own_in h.vs q hq,by decide⟩
theorem DmAt.ty (h : DmAt w z b lv dv y) : ∀ q,q ∈ footD b lv dv → ∃ t,tyOf w q = some t ∧ t ∉ spFix := fun q hq => by
 simp only [footD,List.mem_cons,List.mem_append] at hq
 rcases hq with rfl | hq | hq
 · exact ⟨_,h.blk.tyOf,by decide⟩
 · exact ⟨_,h.left.ty q hq,by decide⟩
 · exact ⟨_,own_in h.doomed q hq,by decide⟩
theorem LK.apt (h : LK w0 w z F b G x) : Apt w0 w F G := by
 obtain ⟨⟨tv,wv,vv,h1,rfl⟩,h2,h3⟩ := h
 exact ⟨h2,h3,h1.ty⟩
theorem DM.apt (h : DM w0 w z F b G y) : Apt w0 w F G := by
 obtain ⟨⟨lv,dv,h1,rfl⟩,h2,h3⟩ := h
 exact ⟨h2,h3,h1.ty⟩
theorem Apt.lt (h : Apt w0 w F G) : ∀ q,q ∈ G → q < w.heap.size := fun q hq => by
 obtain ⟨t,ht,_⟩ := h.ty q hq
 exact tyOf_lt ht
theorem SP.apt (h : SP w0 w z F S) (ha : Apt w0 w F G) (hk : Keeps X w w') (hX : ∀ q,q ∈ X → q ∈ G) : SP w0 w' z F S := h.away hk fun q hq => by
 refine ⟨ha.low q (hX q hq),ha.off q (hX q hq),fun t ht => ?_⟩
 obtain ⟨t',ht',hn⟩ := ha.ty q (hX q hq)
 rw [ht'] at ht; injection ht with ht; subst ht; exact hn
theorem LK.keeps (h : LK w0 w z F b G x) (hk : Keeps X w w') (hX : ∀ q,q ∈ G → q ∉ X) (hF : ∀ q,q ∈ F' → q ∈ F ∨ w.heap.size ≤ q) : LK w0 w' z F' b G x := by
 have hlt := h.apt.lt
 obtain ⟨⟨tv,wv,vv,h1,rfl⟩,h2,h3⟩ := h
 refine ⟨⟨tv,wv,vv,h1.keeps hk hX,rfl⟩,h2,fun q hq hf => ?_⟩
 have := hlt q hq
 rcases hF q hf with h4 | h4
 · exact h3 q hq h4
 · omega
theorem DM.keeps (h : DM w0 w z F b G y) (hk : Keeps X w w') (hX : ∀ q,q ∈ G → q ∉ X) (hF : ∀ q,q ∈ F' → q ∈ F ∨ w.heap.size ≤ q) : DM w0 w' z F' b G y := by
 have hlt := h.apt.lt
 obtain ⟨⟨lv,dv,h1,rfl⟩,h2,h3⟩ := h
 refine ⟨⟨lv,dv,h1.keeps hk hX,rfl⟩,h2,fun q hq hf => ?_⟩
 have := hlt q hq
 rcases hF q hf with h4 | h4
 · exact h3 q hq h4
 · omega
theorem LK.step (h : LK w0 w z F b G x) (hk : Keeps F w w') (hF : ∀ q,q ∈ F' → q ∈ F ∨ w.heap.size ≤ q) : LK w0 w' z F' b G x := h.keeps hk h.off hF
theorem DM.step (h : DM w0 w z F b G y) (hk : Keeps F w w') (hF : ∀ q,q ∈ F' → q ∈ F ∨ w.heap.size ≤ q) : DM w0 w' z F' b G y := h.keeps hk h.off hF
theorem LK.calm (h : LK w0 w z F b G x) (hk : Keeps [] w w') : LK w0 w' z F b G x := h.keeps hk (by simp) (fun q hq => .inl hq)
theorem DM.calm (h : DM w0 w z F b G y) (hk : Keeps [] w w') : DM w0 w' z F b G y := h.keeps hk (by simp) (fun q hq => .inl hq)
end
def WentL (w0 w w' : World) (z : Sb) (F G : List Nat) (b : Nat) (S' : Sp) (x' : Lk) : Prop :=
 ∃ F' G',SP w0 w' z F' S' ∧ LK w0 w' z F' b G' x' ∧ Keeps (G ++ F) w w' ∧ (∀ q,q ∈ F' → q ∈ F ∨ w.heap.size ≤ q) ∧ (∀ q,q ∈ G' → q ∈ G ∨ w.heap.size ≤ q)
def WentD (w0 w w' : World) (z : Sb) (F G : List Nat) (b : Nat) (S' : Sp) (y' : Dm) : Prop :=
 ∃ F' G',SP w0 w' z F' S' ∧ DM w0 w' z F' b G' y' ∧ Keeps (G ++ F) w w' ∧ (∀ q,q ∈ F' → q ∈ F ∨ w.heap.size ≤ q) ∧ (∀ q,q ∈ G' → q ∈ G ∨ w.heap.size ≤ q)
section
variable {w0 w w' w'' : World} {z : Sb} {F F' G G' X : List Nat} {S S' : Sp} {k b : Nat} {x x' : Lk} {y y' : Dm} {tv wv vv lv dv tv' wv' vv' lv' dv' : Value}
theorem WentL.of (hs : SP w0 w z F S) (hl : LK w0 w z F b G x) (h : Went w0 w w' z F S') (hk : Keeps X w' w'') (hX : ∀ q,q ∈ X → q ∈ G ∨ w'.heap.size ≤ q) (ha : LkAt w'' z b tv wv vv x') (hG : ∀ q,q ∈ footL b tv wv vv → q ∈ G ∨ w'.heap.size ≤ q) : WentL w0 w w'' z F G b S' x' := by
 obtain ⟨F',h1,h2,h3⟩ := h
 have hl' := hl.step h2 h3
 have hsz := h2.size
 have hz := h1.keep.size
 have hk' : Keeps G w' w'' := hk.mono hX
 refine ⟨F',_,h1.apt hl'.apt hk' (fun q hq => hq),⟨⟨tv,wv,vv,ha,rfl⟩,fun q hq => ?_,fun q hq hf => ?_⟩,(h2.mono (T := G ++ F) (fun q hq => .inl (by simp [hq]))).trans hk' (fun q hq => .inl (by simp [hq])),h3,fun q hq => ?_⟩
 · rcases hG q hq with h4 | h4
   · exact hl.low q h4
   · omega
 · rcases hG q hq with h4 | h4
   · exact hl'.off q h4 hf
   · have := h1.lt q hf; omega
 · rcases hG q hq with h4 | h4
   · exact .inl h4
   · exact .inr (by omega)
theorem WentD.of (hs : SP w0 w z F S) (hl : DM w0 w z F b G y) (h : Went w0 w w' z F S') (hk : Keeps X w' w'') (hX : ∀ q,q ∈ X → q ∈ G ∨ w'.heap.size ≤ q) (ha : DmAt w'' z b lv dv y') (hG : ∀ q,q ∈ footD b lv dv → q ∈ G ∨ w'.heap.size ≤ q) : WentD w0 w w'' z F G b S' y' := by
 obtain ⟨F',h1,h2,h3⟩ := h
 have hl' := hl.step h2 h3
 have hsz := h2.size
 have hz := h1.keep.size
 have hk' : Keeps G w' w'' := hk.mono hX
 refine ⟨F',_,h1.apt hl'.apt hk' (fun q hq => hq),⟨⟨lv,dv,ha,rfl⟩,fun q hq => ?_,fun q hq hf => ?_⟩,(h2.mono (T := G ++ F) (fun q hq => .inl (by simp [hq]))).trans hk' (fun q hq => .inl (by simp [hq])),h3,fun q hq => ?_⟩
 · rcases hG q hq with h4 | h4
   · exact hl.low q h4
   · omega
 · rcases hG q hq with h4 | h4
   · exact hl'.off q h4 hf
   · have := h1.lt q hf; omega
 · rcases hG q hq with h4 | h4
   · exact .inl h4
   · exact .inr (by omega)
theorem WentL.still (hs : SP w0 w z F S) (hl : LK w0 w z F b G x) (hk : Keeps [] w w') : WentL w0 w w' z F G b S x :=
 ⟨F,G,hs.calm hk,hl.calm hk,hk.mono (by simp),fun q hq => .inl hq,fun q hq => .inl hq⟩
theorem WentD.still (hs : SP w0 w z F S) (hl : DM w0 w z F b G y) (hk : Keeps [] w w') : WentD w0 w w' z F G b S y :=
 ⟨F,G,hs.calm hk,hl.calm hk,hk.mono (by simp),fun q hq => .inl hq,fun q hq => .inl hq⟩
end
open Go
section
variable {P : Program} {ops : Array Oper} {Q : Exit → Act → World → Prop} {md : Region.Mode} {S : World → Prop} {last : Nat}
def wpAnyL (P : Program) (md : Region.Mode) (ops : Array Oper) (Q : Exit → Act → World → Prop) (S : World → Prop) (last : Nat) : Nat → Array Bool → Act → World → Prop
 | 0,listed,a,w => Region.ready md ops listed = [] ∧ Q .normal a w
 | fuel + 1,listed,a,w =>
   (Region.ready md ops listed = [] → Q .normal a w) ∧
   ∀ i ∈ Region.ready md ops listed,wpOp P ops Q i (fun a' w' => (i ≠ last → S w') ∧ wpAnyL P md ops Q S last fuel (listed.setIfInBounds i true) a' w') a w
theorem wpAny_of_L : ∀ (fuel : Nat) (listed : Array Bool) (a : Act) (w : World),wpAnyL P md ops Q S last fuel listed a w → wpAny P md ops Q fuel listed a w
 | 0,_,_,_,h => h
 | fuel + 1,_,_,_,h => ⟨h.1,fun i hi => wpOp_mono (fun a' w' h' => wpAny_of_L fuel _ a' w' h'.2) (h.2 i hi)⟩
theorem wpAnyL_first {i : Nat} {oi : Oper} {v : Value} (hi : ops[i]? = some oi) (hsel : ∀ (j : Nat) (o : Oper) cs b,ops[j]? = some o → o.op ≠ .select cs b)
 (hlast : ∀ o,ops[last]? = some o → ∃ e,e ∈ o.after ∧ Region.binds md e = true ∧ e.on = i)
 (hQ : ∀ c a w,Q (.panic c) (a.put oi.dst v) w → Q (.panic c) a w) :
 ∀ (fuel : Nat) (listed : Array Bool) (a : Act) (w : World),
  (∀ j oj,ops[j]? = some oj → j ≠ i → listed.getD j true = false → (∀ e ∈ oj.after,Region.binds md e = true → e.on ≠ i) → oi.apart ops oj = true) →
  i ∈ Region.ready md ops listed → YieldsIf P ops S oi v a → S w →
  wpAnyL P md ops Q S last fuel (listed.setIfInBounds i true) (a.put oi.dst v) w → wpAnyL P md ops Q S last (fuel + 1) listed a w := by
 intro fuel
 induction fuel with
 | zero =>
   intro listed a w _ hr hy hS H
   refine ⟨fun h => (by rw [h] at hr; cases hr),fun j hj => ?_⟩
   by_cases hji : j = i
   · subst hji; exact hy.wpOp hi hS ⟨fun _ => hS,H⟩
   · have := ready_mono hj hji
     rw [H.1] at this
     cases this
 | succ fuel ih =>
   intro listed a w hfree hr hy hS H
   refine ⟨fun h => (by rw [h] at hr; cases hr),fun j hj => ?_⟩
   by_cases hji : j = i
   · subst hji; exact hy.wpOp hi hS ⟨fun _ => hS,H⟩
   ·
    have h1 := H.2 j (ready_mono hj hji)
    obtain ⟨hjun,oj,hoj,hall⟩ := mem_ready.1 hj
    have hnot : ∀ e ∈ oj.after,Region.binds md e = true → e.on ≠ i := fun e he hb heq => by
     have h1 := hall e he hb
     have h0 := (mem_ready.1 hr).1
     rw [heq] at h1
     rcases Nat.lt_or_ge i listed.size with h' | h'
     · simp [h'] at h0 h1; rw [h0] at h1; cases h1
     · simp [Array.getElem?_eq_none h'] at h1
    have hjl : j ≠ last := fun e => by
     subst e
     obtain ⟨e,he,hb,heq⟩ := hlast oj hoj
     exact hnot e he hb heq
    have h2 := wpOp_putIf hoj (hfree j oj hoj hji hjun hnot) (fun cs b => hsel i oi cs b hi) (fun cs b => hsel j oj cs b hoj) hQ hy h1
    have hfree' : ∀ k ok,ops[k]? = some ok → k ≠ i → (listed.setIfInBounds j true).getD k true = false →
     (∀ e ∈ ok.after,Region.binds md e = true → e.on ≠ i) → oi.apart ops ok = true := fun k ok hk hki hun hno => by
     refine hfree k ok hk hki ?_ hno
     by_cases hjk : j = k
     · subst hjk; exact hjun
     · rw [getD_set_ne true hjk] at hun; exact hun
    refine wpOp_mono (fun a' w' h3 => ⟨h3.2.1,ih (listed.setIfInBounds j true) a' w' hfree' (ready_mono hr (Ne.symm hji)) h3.1 (h3.2.1 hjl) ?_⟩) h2
    rw [Array.setIfInBounds_comm _ _ hji]
    exact h3.2.2
def waits (md : Region.Mode) (ops : Array Oper) (last i : Nat) : Bool := match ops[last]? with
 | some o => o.after.any fun e => Region.binds md e && e.on == i
 | none => true
theorem waits_spec {i : Nat} (h : waits md ops last i = true) : ∀ o,ops[last]? = some o → ∃ e,e ∈ o.after ∧ Region.binds md e = true ∧ e.on = i := by
 intro o ho
 unfold waits at h
 rw [ho] at h
 simp only [Array.any_eq_true'] at h
 obtain ⟨e,he,h2⟩ := h
 simp at h2
 exact ⟨e,he,h2.1,h2.2⟩
theorem wpAnyL_take {i : Nat} {oi : Oper} {v : Value} {fuel : Nat} {listed : Array Bool} {a : Act} {w : World} (hi : ops[i]? = some oi)
 (hs : Region.noSelect ops = true) (hf : Region.free md ops listed i = true) (hr : (Region.ready md ops listed).contains i = true) (hl : waits md ops last i = true)
 (hQ : ∀ c a w,Q (.panic c) (a.put oi.dst v) w → Q (.panic c) a w) (hy : YieldsIf P ops S oi v a) (hS : S w)
 (h : wpAnyL P md ops Q S last fuel (listed.setIfInBounds i true) (a.put oi.dst v) w) : wpAnyL P md ops Q S last (fuel + 1) listed a w :=
 wpAnyL_first hi (Region.noSelect_spec hs) (waits_spec hl) hQ fuel listed a w (Region.free_spec hi hf) (by simpa using hr) hy hS h
theorem Sq.k {i : Nat} {oi : Oper} {v : Value} {fuel : Nat} {listed : Array Bool} {a : Act} {w : World} (hi : ops[i]? = some oi) (hy : ∀ w, S w → (execOp a.eval oi).run P w = .ok (.value v) w) (hS : S w)
 (h : wpAnyL P md ops Q S last fuel (listed.setIfInBounds i true) (a.put oi.dst v) w)
 (hs : Region.noSelect ops = true := by kernel_rfl) (hf : Region.free md ops listed i = true := by kernel_rfl) (hr : (Region.ready md ops listed).contains i = true := by kernel_rfl) (hl : waits md ops last i = true := by kernel_rfl)
 (hQ : ∀ c a w, Q (.panic c) (a.put oi.dst v) w → Q (.panic c) a w := by exact fun _ _ _ h => h) (hw : Region.wanted oi (yielded ops a.tmps) = true := by rfl) : wpAnyL P md ops Q S last (fuel + 1) listed a w := wpAnyL_take hi hs hf hr hl hQ (Or.inl ⟨hw, hy⟩) hS h
theorem wpAnyL_done {listed : Array Bool} {a : Act} {w : World} (hr : Region.ready md ops listed = []) (h : Q .normal a w) : ∀ fuel,wpAnyL P md ops Q S last fuel listed a w
 | 0 => ⟨hr,h⟩
 | _ + 1 => ⟨fun _ => h,by rw [hr]; simp⟩
theorem wpAnyL_one {i : Nat} {o : Oper} {fuel : Nat} {listed : Array Bool} {a : Act} {w : World} (hr : Region.ready md ops listed = [i]) (ho : ops[i]? = some o)
 (h : ∀ K' : Act → World → Prop,Shut (∀ a w,(i ≠ last → S w) → wpAnyL P md ops Q S last fuel (listed.setIfInBounds i true) a w → K' a w) → if Region.wanted o (yielded ops a.tmps) = true then Oper.wp P o a w K' Q else K' (a.put o.dst undef) w) :
 wpAnyL P md ops Q S last (fuel + 1) listed a w := by
 refine ⟨fun h0 => (by rw [hr] at h0; cases h0),fun j hj => ?_⟩
 rw [hr] at hj
 rw [List.mem_singleton] at hj
 subst hj
 exact wpOp_step ho (fun K' hK => h K' (fun a w h1 h2 => hK a w ⟨h1,h2⟩))
theorem Sq.o {i : Nat} {o : Oper} {fuel : Nat} {listed : Array Bool} {a : Act} {w : World} (ho : ops[i]? = some o)
 (h : ∀ K' : Act → World → Prop, Shut (∀ a w, (i ≠ last → S w) → wpAnyL P md ops Q S last fuel (listed.setIfInBounds i true) a w → K' a w) → if Region.wanted o (yielded ops a.tmps) = true then Oper.wp P o a w K' Q else K' (a.put o.dst undef) w)
 (hr : Region.ready md ops listed = [i] := by kernel_rfl) : wpAnyL P md ops Q S last (fuel + 1) listed a w := wpAnyL_one hr ho h
theorem wp_region_L {id : Nat} {a : Act} {w : World} (last : Nat) (S : World → Prop) (hm : P.follows .mixedOrders = true) (h : wpAnyL P .any ops Q S last ops.size (Array.replicate ops.size false) a w.drew) : (Code.region id ops true).wp P Q a w :=
 wp_region_any hm (wpAny_of_L _ _ _ _ h)
end
open Go
section
variable {P : Program} {ops : Array Oper} {Q : Exit → Act → World → Prop} {md : Region.Mode} {S : World → Prop} {last : Nat}
theorem wpAnyL_takeT {i : Nat} {oi : Oper} {v : Value} {fuel : Nat} {listed : Array Bool} {a : Act} {w : World} (hi : ops.toList[i]? = some oi)
 (hs : Region.noSelect ops = true) (hf : Region.free md ops listed i = true) (hr : (Region.ready md ops listed).contains i = true) (hl : waits md ops last i = true)
 (hQ : ∀ c a w,Q (.panic c) (a.put oi.dst v) w → Q (.panic c) a w) (hy : YieldsIf P ops S oi v a) (hS : S w)
 (h : wpAnyL P md ops Q S last fuel (listed.setIfInBounds i true) (a.put oi.dst v) w) : wpAnyL P md ops Q S last (fuel + 1) listed a w :=
 wpAnyL_take (by rw [← Array.getElem?_toList]; exact hi) hs hf hr hl hQ hy hS h
theorem Sq.kT {i : Nat} {oi : Oper} {v : Value} {fuel : Nat} {listed : Array Bool} {a : Act} {w : World} (hi : ops.toList[i]? = some oi) (hy : ∀ w, S w → (execOp a.eval oi).run P w = .ok (.value v) w) (hS : S w)
 (h : wpAnyL P md ops Q S last fuel (listed.setIfInBounds i true) (a.put oi.dst v) w)
 (hs : Region.noSelect ops = true := by kernel_rfl) (hf : Region.free md ops listed i = true := by kernel_rfl) (hr : (Region.ready md ops listed).contains i = true := by kernel_rfl) (hl : waits md ops last i = true := by kernel_rfl)
 (hQ : ∀ c a w, Q (.panic c) (a.put oi.dst v) w → Q (.panic c) a w := by exact fun _ _ _ h => h) (hw : Region.wanted oi (yielded ops a.tmps) = true := by rfl) : wpAnyL P md ops Q S last (fuel + 1) listed a w := wpAnyL_takeT hi hs hf hr hl hQ (Or.inl ⟨hw, hy⟩) hS h
theorem wpAnyL_oneT {i : Nat} {o : Oper} {fuel : Nat} {listed : Array Bool} {a : Act} {w : World} (hr : Region.ready md ops listed = [i]) (ho : ops.toList[i]? = some o)
 (h : ∀ K' : Act → World → Prop,Shut (∀ a w,(i ≠ last → S w) → wpAnyL P md ops Q S last fuel (listed.setIfInBounds i true) a w → K' a w) → if Region.wanted o (yielded ops a.tmps) = true then Oper.wp P o a w K' Q else K' (a.put o.dst undef) w) :
 wpAnyL P md ops Q S last (fuel + 1) listed a w := wpAnyL_one hr (by rw [← Array.getElem?_toList]; exact ho) h
theorem Sq.oT {i : Nat} {o : Oper} {fuel : Nat} {listed : Array Bool} {a : Act} {w : World} (ho : ops.toList[i]? = some o)
 (h : ∀ K' : Act → World → Prop, Shut (∀ a w, (i ≠ last → S w) → wpAnyL P md ops Q S last fuel (listed.setIfInBounds i true) a w → K' a w) → if Region.wanted o (yielded ops a.tmps) = true then Oper.wp P o a w K' Q else K' (a.put o.dst undef) w)
 (hr : Region.ready md ops listed = [i] := by kernel_rfl) : wpAnyL P md ops Q S last (fuel + 1) listed a w := wpAnyL_oneT hr ho h
theorem wpAnyL_twoT {i j : Nat} {o o' : Oper} {fuel : Nat} {listed : Array Bool} {a : Act} {w : World} (hr : Region.ready md ops listed = [i,j]) (hoi : ops.toList[i]? = some o) (hoj : ops.toList[j]? = some o')
 (h1 : ∀ K' : Act → World → Prop,Shut (∀ a w,(i ≠ last → S w) → wpAnyL P md ops Q S last fuel (listed.setIfInBounds i true) a w → K' a w) → if Region.wanted o (yielded ops a.tmps) = true then Oper.wp P o a w K' Q else K' (a.put o.dst undef) w)
 (h2 : ∀ K' : Act → World → Prop,Shut (∀ a w,(j ≠ last → S w) → wpAnyL P md ops Q S last fuel (listed.setIfInBounds j true) a w → K' a w) → if Region.wanted o' (yielded ops a.tmps) = true then Oper.wp P o' a w K' Q else K' (a.put o'.dst undef) w) :
 wpAnyL P md ops Q S last (fuel + 1) listed a w := by
 refine ⟨fun h0 => (by rw [h0] at hr; cases hr),fun q hq => ?_⟩
 rw [hr] at hq
 simp only [List.mem_cons,List.not_mem_nil,or_false] at hq
 rcases hq with rfl | rfl
 · exact wpOp_step (by rw [← Array.getElem?_toList]; exact hoi) (fun K' hK => h1 K' (fun a w h3 h4 => hK a w ⟨h3,h4⟩))
 · exact wpOp_step (by rw [← Array.getElem?_toList]; exact hoj) (fun K' hK => h2 K' (fun a w h3 h4 => hK a w ⟨h3,h4⟩))
end
end Go.Proofs.YtmlnedilbneekaaGreat