/- Layer 8, the document's side: where its space lies; the calls of its parts as the same functions on what it holds. -/
import Derived.Test.YtmlnedilbneekaaGreatSpAt
import Derived.Test.YtmlnedilbneekaaGreatRefFill
import Derived.Test.YtmlnedilbneekaaGreatRefGate
import Derived.Test.YtmlnedilbneekaaGreatRefSlots
set_option linter.unusedVariables false
set_option linter.unusedSimpArgs false
namespace Go.Proofs.YtmlnedilbneekaaGreat
open Go.RowKit
theorem set_same {α : Type} {l : List α} {j : Nat} {x : α} (h : l[j]? = some x) : l.set j x = l := by
 obtain ⟨hj,e⟩ := List.getElem?_eq_some_iff.1 h
 subst e
 exact List.set_getElem_self hj
structure Rb where
 p : Nat
 m : Nat
 r : Nat
 b : Nat
 g : Nat
 t : Nat
 d : Nat
def rpVals (z : Rb) (c : Cf) (v : Value) : Array Value := #[.int .i64 c.cells,.int .i64 c.slots,.int .i64 c.bits,.int .i64 c.tag,.int .i64 c.bias,.int .i64 c.defer,PT z.m,PT z.r,PT z.g,PT z.t,v]
structure RpAt (w : World) (z : Rb) (lb : Nat) (v : Value) (S : Sp) : Prop where
 blk : Blk w z.p 79 (rpVals z S.c v)
 met : MetAt XT w (some z.m) lb S.met
 row : RowI.At RefI.R w z.r z.b 1 (some z.m) S.cells
 gate : RG w z.g z.m S.gate
 tab : RT w z.t z.m z.d S.H S.W
 ev : w.ownsRow 0 266 10 v S.ev.length (evCells S.ev)
def footY (z : Rb) (lb : Nat) (v : Value) : List Nat := z.p :: z.b :: z.g :: z.d :: z.m :: lb :: v.ownBlock.toList
def rpT : List TypeId := [79,2,131,224,XT,216,266]
section
variable {w w' : World} {z : Rb} {lb : Nat} {v : Value} {S : Sp} {X : List Nat} {L : List TypeId}
theorem RpAt.footT (h : RpAt w z lb v S) : InT w (footY z lb v) rpT := by
 have hf := foot_ty h.met
 intro x hx
 simp only [footY,List.mem_cons,Option.mem_toList] at hx
 rcases hx with rfl | rfl | rfl | rfl | rfl | rfl | hx
 · exact ⟨_,by simp [rpT],h.blk.tyOf⟩
 · exact ⟨_,by simp [rpT],h.row.row.tyOf⟩
 · exact ⟨_,by simp [rpT],Blk.tyOf h.gate⟩
 · exact ⟨_,by simp [rpT],h.tab.row.tyOf⟩
 · obtain ⟨t,ht,e⟩ := hf z.m (by simp [foot])
   exact ⟨t,by simp at ht; rcases ht with rfl | rfl <;> simp [rpT],e⟩
 · obtain ⟨t,ht,e⟩ := hf x (by simp [foot])
   exact ⟨t,by simp at ht; rcases ht with rfl | rfl <;> simp [rpT],e⟩
 · exact ⟨_,by simp [rpT],own_tyOf h.ev hx⟩
theorem RpAt.blk_keeps (h : RpAt w z lb v S) (hX : InT w X L) (hk : Keeps X w w') (hL : 79 ∉ L) : Blk w' z.p 79 (rpVals z S.c v) := h.blk.keeps hk (hX.out h.blk.tyOf hL)
theorem RpAt.row_keeps (h : RpAt w z lb v S) (hX : InT w X L) (hk : Keeps X w w') (h1 : RefI.R ∉ L) (h2 : 2 ∉ L) : RowI.At RefI.R w' z.r z.b 1 (some z.m) S.cells := h.row.keeps hk (hX.out h.row.blk.tyOf h1) (hX.out h.row.row.tyOf h2)
theorem RpAt.gate_keeps (h : RpAt w z lb v S) (hX : InT w X L) (hk : Keeps X w w') (h1 : 131 ∉ L) : RG w' z.g z.m S.gate := Blk.keeps h.gate hk (hX.out (Blk.tyOf h.gate) h1)
theorem RpAt.tab_keeps (h : RpAt w z lb v S) (hX : InT w X L) (hk : Keeps X w w') (h1 : 207 ∉ L) (h2 : 224 ∉ L) : RT w' z.t z.m z.d S.H S.W := h.tab.keeps hk (hX.out h.tab.blk.tyOf h1) (hX.out h.tab.row.tyOf h2)
theorem RpAt.ev_keeps (h : RpAt w z lb v S) (hX : InT w X L) (hk : Keeps X w w') (h1 : 266 ∉ L) : w'.ownsRow 0 266 10 v S.ev.length (evCells S.ev) := own_keeps h.ev hk (fun k hv => hX.out (own_tyOf h.ev hv) h1)
theorem RpAt.keeps (h : RpAt w z lb v S) (hk : Keeps X w w') (h1 : z.p ∉ X ∧ z.r ∉ X ∧ z.b ∉ X ∧ z.g ∉ X ∧ z.t ∉ X ∧ z.d ∉ X) (h3 : z.m ∉ X ∧ lb ∉ X) (h4 : ∀ k,v.ownBlock = some k → k ∉ X) : RpAt w' z lb v S :=
 ⟨h.blk.keeps hk h1.1,h.met.keeps hk (fun k hf => by simp [foot] at hf; rcases hf with rfl | rfl; exact h3.1; exact h3.2),h.row.keeps hk h1.2.1 h1.2.2.1,Blk.keeps h.gate hk h1.2.2.2.1,h.tab.keeps hk h1.2.2.2.2.1 h1.2.2.2.2.2,own_keeps h.ev hk h4⟩
theorem RpAt.calm (h : RpAt w z lb v S) (hk : Keeps [] w w') : RpAt w' z lb v S := h.keeps hk (by simp) (by simp) (by simp)
def rpFix : List TypeId := [RefI.R,207]
theorem RpAt.away (h : RpAt w z lb v S) (hk : Keeps X w w') (hX : ∀ x,x ∈ X → x ∉ footY z lb v ∧ (∀ t,tyOf w x = some t → t ∉ rpFix)) : RpAt w' z lb v S := by
 have hn : ∀ k t,tyOf w k = some t → t ∈ rpFix → k ∉ X := fun k t hk ht hx => (hX k hx).2 t hk ht
 have hm : ∀ k,k ∈ footY z lb v → k ∉ X := fun k hk hx => (hX k hx).1 hk
 exact h.keeps hk ⟨hm _ (by simp [footY]),hn _ _ h.row.blk.tyOf (by simp [rpFix]),hm _ (by simp [footY]),hm _ (by simp [footY]),hn _ _ h.tab.blk.tyOf (by simp [rpFix]),hm _ (by simp [footY])⟩
  ⟨hm _ (by simp [footY]),hm _ (by simp [footY])⟩ (fun k hv => hm _ (by simp [footY,hv]))
end
def RpWent (w w' : World) (z : Rb) (lb : Nat) (v : Value) (S' : Sp) : Prop := ∃ lb' v',RpAt w' z lb' v' S' ∧ Keeps (footY z lb v) w w' ∧ (lb' = lb ∨ w.heap.size ≤ lb') ∧ (∀ k,v'.ownBlock = some k → v.ownBlock = some k ∨ w.heap.size ≤ k)
section
variable {w w' : World} {z : Rb} {lb lb' : Nat} {v : Value} {S : Sp} {s' : MS}
theorem footY_sub {X : List Nat} (h : ∀ x,x ∈ X → x = z.p ∨ x = z.b ∨ x = z.g ∨ x = z.d ∨ x = z.m ∨ x = lb ∨ v.ownBlock = some x) (hk : Keeps X w w') : Keeps (footY z lb v) w w' := hk.mono fun x hx => .inl (by
 have := h x hx
 simp only [footY,List.mem_cons,Option.mem_toList]
 exact this)
theorem RpAt.turned (h : RpAt w z lb v S) (hm : MetAt XT w' (some z.m) lb' s') (hk : Keeps (foot (some z.m) lb) w w') (hl : lb' = lb ∨ w.heap.size ≤ lb') : RpWent w w' z lb v { S with met := s' } := by
 have hX := foot_ty h.met
 exact ⟨lb',v,⟨h.blk_keeps hX hk (by decide),hm,h.row_keeps hX hk (by decide) (by decide),h.gate_keeps hX hk (by decide),h.tab_keeps hX hk (by decide) (by decide),h.ev_keeps hX hk (by decide)⟩,footY_sub (fun x hx => by simp [foot] at hx; omega) hk,hl,fun k hv => .inl hv⟩
theorem RpAt.rowed (h : RpAt w z lb v S) {l' : List Int} (hl : RowI.Left RefI.R XT z.r z.b 1 (some z.m) l' lb s' w w') : RpWent w w' z lb v { S with met := s',cells := l' } := by
 obtain ⟨h1,lb',h2,hk,h4⟩ := hl
 have hX := InT.cons h.row.row.tyOf (foot_ty h.met)
 exact ⟨lb',v,⟨h.blk_keeps hX hk (by decide),h2,h1,h.gate_keeps hX hk (by decide),h.tab_keeps hX hk (by decide) (by decide),h.ev_keeps hX hk (by decide)⟩,footY_sub (fun x hx => by simp [foot] at hx; omega) hk,h4,fun k hv => .inl hv⟩
theorem RpAt.gated (h : RpAt w z lb v S) {g' : Gt} (hl : RLeft z.g z.m g' lb s' w w') : RpWent w w' z lb v { S with met := s',gate := g' } := by
 obtain ⟨h1,lb',h2,hk,h4⟩ := hl
 have hX := InT.cons (Blk.tyOf h.gate) (foot_ty h.met)
 exact ⟨lb',v,⟨h.blk_keeps hX hk (by decide),h2,h.row_keeps hX hk (by decide) (by decide),h1,h.tab_keeps hX hk (by decide) (by decide),h.ev_keeps hX hk (by decide)⟩,footY_sub (fun x hx => by simp [foot] at hx; omega) hk,h4,fun k hv => .inl hv⟩
theorem RpAt.tabbed (h : RpAt w z lb v S) {H' : List Hd} {W' : List Int} (hl : RTLeft z.t z.m z.d H' W' lb s' w w') : RpWent w w' z lb v { S with met := s',H := H',W := W' } := by
 obtain ⟨h1,lb',h2,hk,h4⟩ := hl
 have hX := InT.cons h.tab.row.tyOf (foot_ty h.met)
 exact ⟨lb',v,⟨h.blk_keeps hX hk (by decide),h2,h.row_keeps hX hk (by decide) (by decide),h.gate_keeps hX hk (by decide),h1,h.ev_keeps hX hk (by decide)⟩,footY_sub (fun x hx => by simp [foot] at hx; omega) hk,h4,fun k hv => .inl hv⟩
end
structure RP (w0 w : World) (z : Rb) (F : List Nat) (S : Sp) : Prop where
 ex : ∃ lb v,RpAt w z lb v S ∧ F = footY z lb v
 low : ∀ x,x ∈ F → w0.heap.size ≤ x
 keep : Keeps [] w0 w
def RWent (w0 w w' : World) (z : Rb) (F : List Nat) (S' : Sp) : Prop := ∃ F',RP w0 w' z F' S' ∧ Keeps F w w' ∧ ∀ x,x ∈ F' → x ∈ F ∨ w.heap.size ≤ x
section
variable {w0 w w' w'' : World} {z : Rb} {F : List Nat} {S S' : Sp} {k : Nat}
theorem RP.footT (h : RP w0 w z F S) : InT w F rpT := by
 obtain ⟨⟨lb,v,h1,rfl⟩,_,_⟩ := h
 exact h1.footT
theorem RP.lt (h : RP w0 w z F S) : ∀ x,x ∈ F → x < w.heap.size := fun x hx => by
 obtain ⟨t,_,e⟩ := h.footT x hx
 exact tyOf_lt e
theorem RP.went (h : RP w0 w z F S) {lb : Nat} {v : Value} (hF : F = footY z lb v) (hs : RpWent w w' z lb v S') : RWent w0 w w' z F S' := by
 obtain ⟨lb',v',h1,h2,h3,h4⟩ := hs
 subst hF
 have hz := h.keep.size
 have hn : ∀ x,x ∈ footY z lb' v' → x ∈ footY z lb v ∨ w.heap.size ≤ x := fun x hx => by
  simp only [footY,List.mem_cons,Option.mem_toList] at hx ⊢
  rcases hx with hx | hx | hx | hx | hx | hx | hx
  · exact .inl (by simp [hx])
  · exact .inl (by simp [hx])
  · exact .inl (by simp [hx])
  · exact .inl (by simp [hx])
  · exact .inl (by simp [hx])
  · subst hx
    rcases h3 with h3 | h3
    · exact .inl (by simp [h3])
    · exact .inr h3
  · rcases h4 x hx with h5 | h5
    · exact .inl (by simp [h5])
    · exact .inr h5
 exact ⟨_,⟨⟨lb',v',h1,rfl⟩,fun x hx => by
  rcases hn x hx with h5 | h5
  · exact h.low x h5
  · omega,h.keep.trans h2 (fun x hx => .inr (h.low x hx))⟩,h2,hn⟩
theorem RP.calm (h : RP w0 w z F S) (hk : Keeps [] w w') : RP w0 w' z F S := by
 obtain ⟨⟨lb,v,h1,h2⟩,h3,h4⟩ := h
 exact ⟨⟨lb,v,h1.calm hk,h2⟩,h3,h4.trans hk (by simp)⟩
theorem RP.away (h : RP w0 w z F S) {X : List Nat} (hk : Keeps X w w') (hX : ∀ x,x ∈ X → w0.heap.size ≤ x ∧ x ∉ F ∧ (∀ t,tyOf w x = some t → t ∉ rpFix)) : RP w0 w' z F S := by
 obtain ⟨⟨lb,v,h1,rfl⟩,h3,h4⟩ := h
 exact ⟨⟨lb,v,h1.away hk (fun x hx => (hX x hx).2),rfl⟩,h3,h4.trans hk (fun x hx => .inr (hX x hx).1)⟩
theorem RP.stay (h : RP w0 w z F S) (hk : Keeps [] w w') : RWent w0 w w' z F S := ⟨F,h.calm hk,hk.mono (by simp),fun x hx => .inl hx⟩
theorem Fit.rlog (h : Fit k S) (hk : k ≤ 1099511627776) : S.met.log.length < 2199023255552 := by have := h.log; omega
theorem rp_claim (h : RP w0 w z F S) (hf : Fit k S) (hk : k ≤ 1099511627776) (i t : Int) :
 Calls Tryz.prog 86 #[PT z.t,.int .i64 i,.int .i64 t] w fun e w' => e = .returned (.tuple #[.int .i64 (S.claim i t).1.1,.int .i64 (S.claim i t).1.2]) ∧ RWent w0 w w' z F (S.claim i t).2 := by
 obtain ⟨lb,v,hs,hF⟩ := h.ex
 unfold Sp.claim
 split
 · rename_i ht
   exact (rclaim_bad w z.t i t ht).mono fun e w' ⟨he,hk⟩ => ⟨he,h.stay (hk ▸ Keeps.refl _ _)⟩
 ·
  rename_i ht
  split
  · rename_i hn
    exact (rclaim_place w z.t z.m z.d S.H S.W hs.tab i (nth_none hn) t (by omega) (by omega)).mono fun e w' ⟨he,hk⟩ => ⟨he,h.stay (hk ▸ Keeps.refl _ _)⟩
  ·
   rename_i x hn
   obtain ⟨h0,h1,hx⟩ := nth_len hn
   obtain ⟨j,rfl⟩ : ∃ j : Nat,i = j := ⟨i.toNat,by omega⟩
   simp only [Int.toNat_natCast] at hx ⊢
   have hg := hf.gens _ _ hx
   split
   · rename_i h2
     exact (rclaim_ok w z.t z.m z.d S.H S.W hs.tab lb S.met hs.met (hf.rlog hk) j x hx t (by omega) (by omega) hg.1 (by omega) h2).mono fun e w' ⟨he,hl⟩ => ⟨he,h.went hF (hs.tabbed hl)⟩
   · rename_i h2
     exact (rclaim_held w z.t z.m z.d S.H S.W hs.tab lb S.met hs.met (hf.rlog hk) j x hx t (by omega) (by omega) h2).mono fun e w' ⟨he,hl⟩ => ⟨he,h.went hF (hs.tabbed hl)⟩
theorem rp_ready (h : RP w0 w z F S) (hf : Fit k S) (hk : k ≤ 1099511627776) (i g t : Int) :
 Calls Tryz.prog 87 #[PT z.t,.int .i64 i,.int .i64 g,.int .i64 t] w fun e w' => e = .returned (.int .i64 (S.ready i g t).1) ∧ RWent w0 w w' z F (S.ready i g t).2 := by
 obtain ⟨lb,v,hs,hF⟩ := h.ex
 unfold Sp.ready
 split
 · rename_i ht
   exact (rready_bad w z.t i g t ht).mono fun e w' ⟨he,hk⟩ => ⟨he,h.stay (hk ▸ Keeps.refl _ _)⟩
 ·
  rename_i ht
  split
  · rename_i hn
    exact (rready_place w z.t z.m z.d S.H S.W hs.tab i (nth_none hn) g t (by omega)).mono fun e w' ⟨he,hk⟩ => ⟨he,h.stay (hk ▸ Keeps.refl _ _)⟩
  ·
   rename_i x hn
   obtain ⟨h0,h1,hx⟩ := nth_len hn
   obtain ⟨j,rfl⟩ : ∃ j : Nat,i = j := ⟨i.toNat,by omega⟩
   simp only [Int.toNat_natCast] at hx ⊢
   have hg := hf.gens _ _ hx
   split
   · rename_i h2
     exact (rready_ok w z.t z.m z.d S.H S.W hs.tab lb S.met hs.met (hf.rlog hk) j x hx g t (by omega) h2.1 h2.2).mono fun e w' ⟨he,hl⟩ => ⟨he,h.went hF (hs.tabbed hl)⟩
   · rename_i h2
     by_cases h3 : x.state = 1
     · exact (rready_no w z.t z.m z.d S.H S.W hs.tab lb S.met hs.met (hf.rlog hk) j x hx g t (by omega) h3 (fun h4 => h2 ⟨h3,h4⟩)).mono fun e w' ⟨he,hl⟩ => ⟨he,h.went hF (hs.tabbed hl)⟩
     · exact (rready_not w z.t z.m z.d S.H S.W hs.tab lb S.met hs.met (hf.rlog hk) j x hx g t (by omega) h3).mono fun e w' ⟨he,hl⟩ => ⟨he,h.went hF (hs.tabbed hl)⟩
theorem rp_doom (h : RP w0 w z F S) (hf : Fit k S) (hk : k ≤ 1099511627776) (i g t : Int) :
 Calls Tryz.prog 89 #[PT z.t,.int .i64 i,.int .i64 g,.int .i64 t] w fun e w' => e = .returned (.int .i64 (S.doom i g t).1) ∧ RWent w0 w w' z F (S.doom i g t).2 := by
 obtain ⟨lb,v,hs,hF⟩ := h.ex
 unfold Sp.doom
 split
 · rename_i ht
   exact (rdoom_bad w z.t i g t ht).mono fun e w' ⟨he,hk⟩ => ⟨he,h.stay (hk ▸ Keeps.refl _ _)⟩
 ·
  rename_i ht
  split
  · rename_i hn
    exact (rdoom_place w z.t z.m z.d S.H S.W hs.tab i (nth_none hn) g t (by omega) (by omega)).mono fun e w' ⟨he,hk⟩ => ⟨he,h.stay (hk ▸ Keeps.refl _ _)⟩
  ·
   rename_i x hn
   obtain ⟨h0,h1,hx⟩ := nth_len hn
   obtain ⟨j,rfl⟩ : ∃ j : Nat,i = j := ⟨i.toNat,by omega⟩
   simp only [Int.toNat_natCast] at hx ⊢
   have hg := hf.gens _ _ hx
   split
   · rename_i h2
     cases hd : x.doomed
     · rw [show x.doom t = ⟨x.gen,x.state,x.stamp,x.thread,true,t⟩ from by simp [Hd.doom,hd]]
       exact (rdoom_new w z.t z.m z.d S.H S.W hs.tab lb S.met hs.met (hf.rlog hk) j x hx g t (by omega) (by omega) h2.1 h2.2 hd).mono fun e w' ⟨he,hl⟩ => ⟨he,h.went hF (hs.tabbed hl)⟩
     · rw [show x.doom t = x from by simp [Hd.doom,hd],set_same hx]
       exact (rdoom_old w z.t z.m z.d S.H S.W hs.tab lb S.met hs.met (hf.rlog hk) j x hx g t (by omega) (by omega) h2.1 h2.2 hd).mono fun e w' ⟨he,hl⟩ => ⟨he,h.went hF (hs.tabbed hl)⟩
   · rename_i h2
     by_cases h3 : x.state = 2
     · exact (rdoom_no w z.t z.m z.d S.H S.W hs.tab lb S.met hs.met (hf.rlog hk) j x hx g t (by omega) (by omega) h3 (fun h4 => h2 ⟨h3,h4⟩)).mono fun e w' ⟨he,hl⟩ => ⟨he,h.went hF (hs.tabbed hl)⟩
     · exact (rdoom_not w z.t z.m z.d S.H S.W hs.tab lb S.met hs.met (hf.rlog hk) j x hx g t (by omega) (by omega) h3).mono fun e w' ⟨he,hl⟩ => ⟨he,h.went hF (hs.tabbed hl)⟩
theorem rp_free (h : RP w0 w z F S) (hf : Fit k S) (hk : k ≤ 1099511627776) (i g : Int) :
 Calls Tryz.prog 79 #[PT z.t,.int .i64 i,.int .i64 g] w fun e w' => e = .returned (.int .i64 (S.free i g).1) ∧ RWent w0 w w' z F (S.free i g).2 := by
 obtain ⟨lb,v,hs,hF⟩ := h.ex
 unfold Sp.free
 split
 · rename_i hn
   exact (rfree_place w z.t z.m z.d S.H S.W hs.tab i (nth_none hn) g).mono fun e w' ⟨he,hk⟩ => ⟨he,h.stay (hk ▸ Keeps.refl _ _)⟩
 ·
  rename_i x hn
  obtain ⟨h0,h1,hx⟩ := nth_len hn
  obtain ⟨j,rfl⟩ : ∃ j : Nat,i = j := ⟨i.toNat,by omega⟩
  simp only [Int.toNat_natCast] at hx ⊢
  have hg := hf.gens _ _ hx
  split
  · rename_i h2
    obtain ⟨h3,h4⟩ := h2
    subst h4
    exact (rfree_ok w z.t z.m z.d S.H S.W hs.tab lb S.met hs.met (hf.rlog hk) j x hx x.gen h3 rfl).mono fun e w' ⟨he,hl⟩ => ⟨he,h.went hF (hs.tabbed hl)⟩
  · rename_i h2
    by_cases h3 : x.state = 0
    · exact (rfree_not w z.t z.m z.d S.H S.W hs.tab lb S.met hs.met (hf.rlog hk) j x hx g h3).mono fun e w' ⟨he,hl⟩ => ⟨he,h.went hF (hs.tabbed hl)⟩
    · exact (rfree_no w z.t z.m z.d S.H S.W hs.tab lb S.met hs.met (hf.rlog hk) j x hx g h3 (fun h4 => h2 ⟨h3,h4⟩)).mono fun e w' ⟨he,hl⟩ => ⟨he,h.went hF (hs.tabbed hl)⟩
theorem rp_look (h : RP w0 w z F S) (hf : Fit k S) (hk : k ≤ 1099511627776) (i : Int) :
 Calls Tryz.prog 117 #[PT z.t,.int .i64 i] w fun e w' => e = .returned (.tuple #[(S.look i).1.1.val,.int .i64 (S.look i).1.2]) ∧ RWent w0 w w' z F (S.look i).2 := by
 obtain ⟨lb,v,hs,hF⟩ := h.ex
 unfold Sp.look
 split
 · rename_i hn
   exact (rlook6_no w z.t z.m z.d S.H S.W hs.tab i (nth_none hn)).mono fun e w' ⟨he,hk⟩ => ⟨he,h.stay hk⟩
 · rename_i x hn
   obtain ⟨h0,h1,hx⟩ := nth_len hn
   obtain ⟨j,rfl⟩ : ∃ j : Nat,i = j := ⟨i.toNat,by omega⟩
   simp only [Int.toNat_natCast] at hx ⊢
   have hg := hf.gens _ _ hx
   exact (rlook6 w z.t z.m z.d S.H S.W hs.tab lb S.met hs.met (hf.rlog hk) j x hx).mono fun e w' ⟨he,hl⟩ => ⟨he,h.went hF (hs.tabbed hl)⟩
theorem rp_word (h : RP w0 w z F S) (hf : Fit k S) (hk : k ≤ 1099511627776) (i j : Int) :
 Calls Tryz.prog 118 #[PT z.t,.int .i64 i,.int .i64 j] w fun e w' => e = .returned (.tuple #[.int .u64 (S.word i j).1.1,.int .i64 (S.word i j).1.2]) ∧ RWent w0 w w' z F (S.word i j).2 := by
 obtain ⟨lb,v,hs,hF⟩ := h.ex
 unfold Sp.word
 split
 · rename_i hn
   exact (rword6_no w z.t z.m z.d S.H S.W hs.tab i j (wnth_none hf.words hn)).mono fun e w' ⟨he,hk⟩ => ⟨he,h.stay (hk ▸ Keeps.refl _ _)⟩
 ·
  rename_i x hn
  obtain ⟨h0,h1,hx⟩ := wnth_some hn
  obtain ⟨i,rfl⟩ : ∃ n : Nat,i = n := ⟨i.toNat,by omega⟩
  obtain ⟨j,rfl⟩ : ∃ n : Nat,j = n := ⟨j.toNat,by omega⟩
  simp only [Int.toNat_natCast] at hx ⊢
  have hc := rword6 w z.t z.m z.d S.H S.W hs.tab lb S.met hs.met (hf.rlog hk) i j (by omega) x hx
  exact hc.mono fun e w' ⟨he,hl⟩ => ⟨he,h.went hF (by have := hs.tabbed hl; simpa [Sp.acc] using this)⟩
theorem rp_put (h : RP w0 w z F S) (hf : Fit k S) (hk : k ≤ 1099511627776) (i j x : Int) :
 Calls Tryz.prog 90 #[PT z.t,.int .i64 i,.int .i64 j,.int .u64 x] w fun e w' => e = .returned (.int .i64 (S.put i j x).1) ∧ RWent w0 w w' z F (S.put i j x).2 := by
 obtain ⟨lb,v,hs,hF⟩ := h.ex
 unfold Sp.put
 split
 · rename_i hn
   exact (rput6_no w z.t z.m z.d S.H S.W hs.tab i j (wnth_none hf.words hn) x).mono fun e w' ⟨he,hk⟩ => ⟨he,h.stay (hk ▸ Keeps.refl _ _)⟩
 ·
  rename_i x0 hn
  obtain ⟨h0,h1,hx⟩ := wnth_some hn
  obtain ⟨i,rfl⟩ : ∃ n : Nat,i = n := ⟨i.toNat,by omega⟩
  obtain ⟨j,rfl⟩ : ∃ n : Nat,j = n := ⟨j.toNat,by omega⟩
  simp only [Int.toNat_natCast] at hx ⊢
  have hj : j = 0 ∨ j = 1 := by omega
  rcases hj with rfl | rfl
  · exact (rput6_0 w z.t z.m z.d S.H S.W hs.tab lb S.met hs.met (hf.rlog hk) i (by omega) x).mono fun e w' ⟨he,hl⟩ => ⟨he,h.went hF (by have := hs.tabbed hl; simpa [Sp.acc] using this)⟩
  · exact (rput6_1 w z.t z.m z.d S.H S.W hs.tab lb S.met hs.met (hf.rlog hk) i (by omega) x).mono fun e w' ⟨he,hl⟩ => ⟨he,h.went hF (by have := hs.tabbed hl; simpa [Sp.acc] using this)⟩
theorem rp_take (h : RP w0 w z F S) (hf : Fit k S) (hk : k ≤ 1099511627776) (t : Int) :
 Calls Tryz.prog 84 #[PT z.g,.int .i64 t] w fun e w' => e = .returned (.tuple #[.int .i64 (S.take t).1.1,.int .i64 (S.take t).1.2]) ∧ RWent w0 w w' z F (S.take t).2 := by
 obtain ⟨lb,v,hs,hF⟩ := h.ex
 have h0 := hf.g0
 have h1 := hf.g1
 unfold Sp.take
 split
 · rename_i ht
   exact (rtake_bad w z.g t ht).mono fun e w' ⟨he,hk⟩ => ⟨he,h.stay (hk ▸ Keeps.refl _ _)⟩
 · rename_i ht
   split
   · rename_i h2
     exact (rtake_ok w z.g z.m S.gate hs.gate lb S.met hs.met (hf.rlog hk) t (by omega) (by omega) h0 (by omega) h2).mono fun e w' ⟨he,hl⟩ => ⟨he,h.went hF (hs.gated hl)⟩
   · rename_i h2
     exact (rtake_held w z.g z.m S.gate hs.gate lb S.met hs.met (hf.rlog hk) t (by omega) (by omega) h0 (by omega) (by omega)).mono fun e w' ⟨he,hl⟩ => ⟨he,h.went hF (hs.gated hl)⟩
theorem rp_give (h : RP w0 w z F S) (hf : Fit k S) (hk : k ≤ 1099511627776) (t : Int) :
 Calls Tryz.prog 77 #[PT z.g,.int .i64 t] w fun e w' => e = .returned (.int .i64 (S.give t).1) ∧ RWent w0 w w' z F (S.give t).2 := by
 obtain ⟨lb,v,hs,hF⟩ := h.ex
 have h0 := hf.g0
 have h1 := hf.g1
 have h5 := hf.even
 unfold Sp.give
 split
 · rename_i ht
   exact (rgive_bad w z.g t ht).mono fun e w' ⟨he,hk⟩ => ⟨he,h.stay (hk ▸ Keeps.refl _ _)⟩
 ·
  rename_i ht
  by_cases h3 : S.gate.number % 2 = 0
  · have := h5 h3
    rw [if_neg (by omega)]
    exact (rgive_free w z.g z.m S.gate hs.gate lb S.met hs.met (hf.rlog hk) t (by omega) (by omega) h0 (by omega) h3).mono fun e w' ⟨he,hl⟩ => ⟨he,h.went hF (hs.gated hl)⟩
  · split
    · rename_i h2
      exact (rgive_ok w z.g z.m S.gate hs.gate lb S.met hs.met (hf.rlog hk) t (by omega) (by omega) h0 (by omega) (by omega) h2).mono fun e w' ⟨he,hl⟩ => ⟨he,h.went hF (hs.gated hl)⟩
    · rename_i h2
      exact (rgive_other w z.g z.m S.gate hs.gate lb S.met hs.met (hf.rlog hk) t (by omega) (by omega) h0 (by omega) (by omega) h2).mono fun e w' ⟨he,hl⟩ => ⟨he,h.went hF (hs.gated hl)⟩
theorem rp_store (h : RP w0 w z F S) (hf : Fit k S) (hk : k ≤ 1099511627776) (i x : Int) :
 Calls Tryz.prog 81 #[PT z.r,.int .i64 i,.int .i64 x] w fun e w' => e = .returned (.int .i64 (S.store i x).1) ∧ RWent w0 w w' z F (S.store i x).2 := by
 obtain ⟨lb,v,hs,hF⟩ := h.ex
 unfold Sp.store
 split
 · rename_i x0 hn
   obtain ⟨h0,h1,hx⟩ := nth_len hn
   obtain ⟨i,rfl⟩ : ∃ n : Nat,i = n := ⟨i.toNat,by omega⟩
   simp only [Int.toNat_natCast] at hx ⊢
   exact (RefI.store_at w z.r z.b 1 z.m S.cells hs.row lb S.met hs.met (hf.room hk _) i _ x hx).mono fun e w' ⟨he,hl⟩ => ⟨he,h.went hF (hs.rowed hl)⟩
 · rename_i hn
   exact (RefI.store_no w z.r z.b 1 (some z.m) S.cells hs.row i x (nth_none hn)).mono fun e w' ⟨he,hk⟩ => ⟨he,h.stay (hk ▸ Keeps.refl _ _)⟩
theorem rp_begin (h : RP w0 w z F S) (t : Int) :
 Calls Tryz.prog 14 #[PT z.m,.int .i64 t] w fun e w' => e = .returned (.tuple #[]) ∧ RWent w0 w w' z F (S.begin t) := by
 obtain ⟨lb,v,hs,hF⟩ := h.ex
 exact (RefM.begin_any w z.m lb S.met hs.met t).mono fun e w' ⟨he,h1,h2⟩ => ⟨he,h.went hF (hs.turned h1 h2 (.inl rfl))⟩
end
structure Two (w0 w : World) (z : Sb) (F : List Nat) (y : Rb) (G : List Nat) (S T : Sp) : Prop where
 sp : SP w0 w z F S
 rp : RP w0 w y G T
 far : ∀ x,x ∈ F → x ∉ G
section
variable {w0 w w' : World} {z : Sb} {F : List Nat} {y : Rb} {G : List Nat} {S S' T T' : Sp} {k : Nat}
theorem Two.calm (h : Two w0 w z F y G S T) (hk : Keeps [] w w') : Two w0 w' z F y G S T := ⟨h.sp.calm hk,h.rp.calm hk,h.far⟩
theorem InT.off {X : List Nat} {L : List TypeId} (h : InT w X L) {x : Nat} (hx : x ∈ X) {M : List TypeId} (hM : ∀ t,t ∈ L → t ∉ M) : ∀ t,tyOf w x = some t → t ∉ M := fun t ht => by
 obtain ⟨s,hs,e⟩ := h x hx
 rw [ht] at e
 injection e with e
 subst e
 exact hM _ hs
theorem Two.left (h : Two w0 w z F y G S T) (hw : Went w0 w w' z F S') : ∃ F',Two w0 w' z F' y G S' T ∧ Keeps F w w' ∧ ∀ x,x ∈ F' → x ∈ F ∨ w.heap.size ≤ x := by
 obtain ⟨F',h1,h2,h3⟩ := hw
 refine ⟨F',⟨h1,h.rp.away h2 (fun x hx => ⟨h.sp.low x hx,h.far x hx,h.sp.footT.off hx (by decide)⟩),fun x hx hG => ?_⟩,h2,h3⟩
 rcases h3 x hx with h4 | h4
 · exact h.far x h4 hG
 · have := h.rp.lt x hG; omega
theorem Two.right (h : Two w0 w z F y G S T) (hw : RWent w0 w w' y G T') : ∃ G',Two w0 w' z F y G' S T' ∧ Keeps G w w' ∧ ∀ x,x ∈ G' → x ∈ G ∨ w.heap.size ≤ x := by
 obtain ⟨G',h1,h2,h3⟩ := hw
 refine ⟨G',⟨h.sp.away h2 (fun x hx => ⟨h.rp.low x hx,fun hF => h.far x hF hx,h.rp.footT.off hx (by decide)⟩),h1,fun x hx hG => ?_⟩,h2,h3⟩
 rcases h3 x hG with h4 | h4
 · exact h.far x hx h4
 · have := h.sp.lt x hx; omega
theorem RP.cells (h : RP w0 w y G S) : w.cell? ⟨y.p,0,none⟩ = some (.int .i64 S.c.cells) ∧ w.cell? ⟨y.p,1,none⟩ = some (.int .i64 S.c.slots) ∧ w.cell? ⟨y.p,2,none⟩ = some (.int .i64 S.c.bits) ∧ w.cell? ⟨y.p,6,none⟩ = some (PT y.m) ∧ w.cell? ⟨y.p,7,none⟩ = some (PT y.r) ∧ w.cell? ⟨y.p,8,none⟩ = some (PT y.g) ∧ w.cell? ⟨y.p,9,none⟩ = some (PT y.t) := by
 obtain ⟨⟨lb,v,h1,_⟩,_,_⟩ := h
 exact ⟨(h1.blk.cell 0).trans rfl,(h1.blk.cell 1).trans rfl,(h1.blk.cell 2).trans rfl,(h1.blk.cell 6).trans rfl,(h1.blk.cell 7).trans rfl,(h1.blk.cell 8).trans rfl,(h1.blk.cell 9).trans rfl⟩
end
end Go.Proofs.YtmlnedilbneekaaGreat