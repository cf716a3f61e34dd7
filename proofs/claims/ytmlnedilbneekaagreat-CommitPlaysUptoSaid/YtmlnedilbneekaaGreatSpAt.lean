/- Layer 8: where a space lies; the calls of its parts as functions on what it holds. -/
import Derived.Test.YtmlnedilbneekaaGreatSpF
import Derived.Test.YtmlnedilbneekaaGreatRowIb
import Derived.Test.YtmlnedilbneekaaGreatMeter
import Derived.Test.YtmlnedilbneekaaGreatGateGive
set_option linter.unusedVariables false
set_option linter.unusedSimpArgs false
namespace Go.Proofs.YtmlnedilbneekaaGreat
open Go.RowKit
def tyOf (w : World) (k : Nat) : Option TypeId := match w.heap[k]? with
 | some (.cells _ t _) => some t
 | _ => none
def InT (w : World) (X : List Nat) (L : List TypeId) : Prop := ∀ x,x ∈ X → ∃ t,t ∈ L ∧ tyOf w x = some t
section
variable {w w' : World} {X Y : List Nat} {L M : List TypeId} {k : Nat} {t T : TypeId} {cs : Array Value}
theorem Blk.tyOf (h : Blk w k t cs) : tyOf w k = some t := by
 unfold Blk at h
 simp [Go.Proofs.YtmlnedilbneekaaGreat.tyOf,h]
theorem tyOf_lt (h : tyOf w k = some t) : k < w.heap.size := by
 rcases Nat.lt_or_ge k w.heap.size with hlt | hge
 · exact hlt
 · unfold tyOf at h; rw [Array.getElem?_eq_none hge] at h; cases h
theorem tyOf_keeps (h : tyOf w k = some t) (hk : Keeps X w w') (hX : k ∉ X) : tyOf w' k = some t := by
 have h1 := hk.block k (tyOf_lt h) hX
 unfold tyOf at h ⊢
 rw [h1]; exact h
theorem own_tyOf {base size n : Nat} {v : Value} {xs : List Value} (h : w.ownsRow base t size v n xs) (hk : v.ownBlock = some k) : tyOf w k = some t := by
 rcases h.2 with ⟨rfl,_⟩ | ⟨g',cap,cur,rfl,_,hh,_⟩
 · simp [Value.ownBlock] at hk
 · have : g' = k := by simpa [Value.ownBlock] using hk
   subst this
   exact Blk.tyOf (cs := cur) hh
theorem InT.out (h : InT w X L) (hk : tyOf w k = some T) (hT : T ∉ L) : k ∉ X := fun hx => by
 obtain ⟨t,ht,e⟩ := h k hx
 rw [hk] at e
 injection e with e
 exact hT (e ▸ ht)
theorem InT.nil (w : World) : InT w [] L := fun x hx => by simp at hx
theorem InT.cons (hk : tyOf w k = some t) (h : InT w X L) : InT w (k :: X) (t :: L) := fun x hx => by
 rw [List.mem_cons] at hx
 rcases hx with rfl | hx
 · exact ⟨t,by simp,hk⟩
 · obtain ⟨s,hs,e⟩ := h x hx
   exact ⟨s,by simp [hs],e⟩
theorem foot_ty {mp : Option Nat} {lb : Nat} {s : MS} (hm : MetAt T w mp lb s) : InT w (foot mp lb) [T,216] := by
 cases mp with
 | none => exact InT.nil w
 | some g =>
   obtain ⟨v,hb,ho,hc⟩ := hm
   intro x hx
   simp only [foot,List.mem_cons,List.not_mem_nil,or_false] at hx
   rcases hx with rfl | rfl
   · exact ⟨T,by simp,hb.tyOf⟩
   · rcases hc with ⟨_,rfl⟩ | hc
     · exact ⟨T,by simp,hb.tyOf⟩
     · exact ⟨_,by simp,own_tyOf ho hc⟩
end
structure Sb where
 p : Nat
 m : Nat
 r : Nat
 b : Nat
 q : Nat
 gr : Nat
 gb : Nat
 t : Tb
abbrev PT (g : Nat) : Value := .pointer (some ⟨g,0,none⟩)
def spVals (z : Sb) (c : Cf) (v : Value) : Array Value := #[PT z.m,.int .i64 c.cells,.int .i64 c.slots,.int .i64 c.bits,.int .i64 c.tag,.int .i64 c.bias,.int .i64 c.defer,PT z.r,PT z.q,PT z.t.q,v]
structure SpAt (w : World) (z : Sb) (lb : Nat) (v : Value) (S : Sp) : Prop where
 blk : Blk w z.p 92 (spVals z S.c v)
 met : MetAt MT w (some z.m) lb S.met
 row : RowI.At RowI.R w z.r z.b 1 (some z.m) S.cells
 gate : GateAt w z.q z.gr z.gb (some z.m) S.gate
 tab : TabAt w z.t (some z.m) S.H S.W
 ev : w.ownsRow 0 266 10 v S.ev.length (evCells S.ev)
def footS (z : Sb) (lb : Nat) (v : Value) : List Nat := z.p :: z.b :: z.gb :: z.t.b :: z.t.c :: z.m :: lb :: v.ownBlock.toList
def spT : List TypeId := [92,2,129,115,45,MT,216,266]
section
variable {w w' : World} {z : Sb} {lb : Nat} {v : Value} {S : Sp} {X : List Nat} {L : List TypeId}
theorem SpAt.footT (h : SpAt w z lb v S) : InT w (footS z lb v) spT := by
 have hf := foot_ty h.met
 intro x hx
 simp only [footS,List.mem_cons,Option.mem_toList] at hx
 rcases hx with rfl | rfl | rfl | rfl | rfl | rfl | rfl | hx
 · exact ⟨_,by simp [spT],h.blk.tyOf⟩
 · exact ⟨_,by simp [spT],h.row.row.tyOf⟩
 · exact ⟨_,by simp [spT],h.gate.2.row.tyOf⟩
 · exact ⟨_,by simp [spT],h.tab.heads.row.tyOf⟩
 · exact ⟨_,by simp [spT],h.tab.words.row.tyOf⟩
 · obtain ⟨t,ht,e⟩ := hf z.m (by simp [foot])
   exact ⟨t,by simp at ht; rcases ht with rfl | rfl <;> simp [spT],e⟩
 · obtain ⟨t,ht,e⟩ := hf x (by simp [foot])
   exact ⟨t,by simp at ht; rcases ht with rfl | rfl <;> simp [spT],e⟩
 · exact ⟨_,by simp [spT],own_tyOf h.ev hx⟩
theorem SpAt.blk_keeps (h : SpAt w z lb v S) (hX : InT w X L) (hk : Keeps X w w') (hL : 92 ∉ L) : Blk w' z.p 92 (spVals z S.c v) := h.blk.keeps hk (hX.out h.blk.tyOf hL)
theorem SpAt.row_keeps (h : SpAt w z lb v S) (hX : InT w X L) (hk : Keeps X w w') (h1 : RowI.R ∉ L) (h2 : 2 ∉ L) : RowI.At RowI.R w' z.r z.b 1 (some z.m) S.cells := h.row.keeps hk (hX.out h.row.blk.tyOf h1) (hX.out h.row.row.tyOf h2)
theorem SpAt.gate_keeps (h : SpAt w z lb v S) (hX : InT w X L) (hk : Keeps X w w') (h1 : 205 ∉ L) (h2 : RowG.R ∉ L) (h3 : 129 ∉ L) : GateAt w' z.q z.gr z.gb (some z.m) S.gate := h.gate.keeps hk (hX.out h.gate.1.tyOf h1) (hX.out h.gate.2.blk.tyOf h2) (hX.out h.gate.2.row.tyOf h3)
theorem SpAt.tab_keeps (h : SpAt w z lb v S) (hX : InT w X L) (hk : Keeps X w w') (h1 : 183 ∉ L) (h2 : RowH.R ∉ L) (h3 : 115 ∉ L) (h4 : RowU.R ∉ L) (h5 : 45 ∉ L) : TabAt w' z.t (some z.m) S.H S.W :=
 h.tab.keeps hk (hX.out h.tab.blk.tyOf h1) (hX.out h.tab.heads.blk.tyOf h2) (hX.out h.tab.heads.row.tyOf h3) (hX.out h.tab.words.blk.tyOf h4) (hX.out h.tab.words.row.tyOf h5)
theorem SpAt.ev_keeps (h : SpAt w z lb v S) (hX : InT w X L) (hk : Keeps X w w') (h1 : 266 ∉ L) : w'.ownsRow 0 266 10 v S.ev.length (evCells S.ev) := own_keeps h.ev hk (fun k hv => hX.out (own_tyOf h.ev hv) h1)
theorem SpAt.keeps (h : SpAt w z lb v S) (hk : Keeps X w w') (h1 : z.p ∉ X ∧ z.r ∉ X ∧ z.b ∉ X ∧ z.q ∉ X ∧ z.gr ∉ X ∧ z.gb ∉ X) (h2 : z.t.q ∉ X ∧ z.t.r ∉ X ∧ z.t.b ∉ X ∧ z.t.s ∉ X ∧ z.t.c ∉ X) (h3 : z.m ∉ X ∧ lb ∉ X) (h4 : ∀ k,v.ownBlock = some k → k ∉ X) : SpAt w' z lb v S :=
 ⟨h.blk.keeps hk h1.1,h.met.keeps hk (fun k hf => by simp [foot] at hf; rcases hf with rfl | rfl; exact h3.1; exact h3.2),h.row.keeps hk h1.2.1 h1.2.2.1,h.gate.keeps hk h1.2.2.2.1 h1.2.2.2.2.1 h1.2.2.2.2.2,h.tab.keeps hk h2.1 h2.2.1 h2.2.2.1 h2.2.2.2.1 h2.2.2.2.2,own_keeps h.ev hk h4⟩
theorem SpAt.calm (h : SpAt w z lb v S) (hk : Keeps [] w w') : SpAt w' z lb v S := h.keeps hk (by simp) (by simp) (by simp) (by simp)
def spFix : List TypeId := [RowI.R,205,RowG.R,183,RowH.R,RowU.R]
theorem SpAt.away (h : SpAt w z lb v S) (hk : Keeps X w w') (hX : ∀ x,x ∈ X → x ∉ footS z lb v ∧ (∀ t,tyOf w x = some t → t ∉ spFix)) : SpAt w' z lb v S := by
 have hn : ∀ k t,tyOf w k = some t → t ∈ spFix → k ∉ X := fun k t hk ht hx => (hX k hx).2 t hk ht
 have hm : ∀ k,k ∈ footS z lb v → k ∉ X := fun k hk hx => (hX k hx).1 hk
 exact h.keeps hk ⟨hm _ (by simp [footS]),hn _ _ h.row.blk.tyOf (by simp [spFix]),hm _ (by simp [footS]),hn _ _ h.gate.1.tyOf (by simp [spFix]),hn _ _ h.gate.2.blk.tyOf (by simp [spFix]),hm _ (by simp [footS])⟩
  ⟨hn _ _ h.tab.blk.tyOf (by simp [spFix]),hn _ _ h.tab.heads.blk.tyOf (by simp [spFix]),hm _ (by simp [footS]),hn _ _ h.tab.words.blk.tyOf (by simp [spFix]),hm _ (by simp [footS])⟩
  ⟨hm _ (by simp [footS]),hm _ (by simp [footS])⟩ (fun k hv => hm _ (by simp [footS,hv]))
end
def SpWent (w w' : World) (z : Sb) (lb : Nat) (v : Value) (S' : Sp) : Prop := ∃ lb' v',SpAt w' z lb' v' S' ∧ Keeps (footS z lb v) w w' ∧ (lb' = lb ∨ w.heap.size ≤ lb') ∧ (∀ k,v'.ownBlock = some k → v.ownBlock = some k ∨ w.heap.size ≤ k)
section
variable {w w' : World} {z : Sb} {lb lb' : Nat} {v : Value} {S : Sp} {s' : MS}
theorem foot_sub {X : List Nat} (h : ∀ x,x ∈ X → x = z.p ∨ x = z.b ∨ x = z.gb ∨ x = z.t.b ∨ x = z.t.c ∨ x = z.m ∨ x = lb ∨ v.ownBlock = some x) (hk : Keeps X w w') : Keeps (footS z lb v) w w' := hk.mono fun x hx => .inl (by
 have := h x hx
 simp only [footS,List.mem_cons,Option.mem_toList]
 exact this)
theorem SpAt.turned (h : SpAt w z lb v S) (hm : MetAt MT w' (some z.m) lb' s') (hk : Keeps (foot (some z.m) lb) w w') (hl : lb' = lb ∨ w.heap.size ≤ lb') : SpWent w w' z lb v { S with met := s' } := by
 have hX := foot_ty h.met
 exact ⟨lb',v,⟨h.blk_keeps hX hk (by decide),hm,h.row_keeps hX hk (by decide) (by decide),h.gate_keeps hX hk (by decide) (by decide) (by decide),h.tab_keeps hX hk (by decide) (by decide) (by decide) (by decide) (by decide),h.ev_keeps hX hk (by decide)⟩,foot_sub (fun x hx => by simp [foot] at hx; omega) hk,hl,fun k hv => .inl hv⟩
theorem SpAt.rowed (h : SpAt w z lb v S) {l' : List Int} (hl : RowI.Left RowI.R MT z.r z.b 1 (some z.m) l' lb s' w w') : SpWent w w' z lb v { S with met := s',cells := l' } := by
 obtain ⟨h1,lb',h2,hk,h4⟩ := hl
 have hX := InT.cons h.row.row.tyOf (foot_ty h.met)
 exact ⟨lb',v,⟨h.blk_keeps hX hk (by decide),h2,h1,h.gate_keeps hX hk (by decide) (by decide) (by decide),h.tab_keeps hX hk (by decide) (by decide) (by decide) (by decide) (by decide),h.ev_keeps hX hk (by decide)⟩,foot_sub (fun x hx => by simp [foot] at hx; omega) hk,h4,fun k hv => .inl hv⟩
theorem SpAt.gated (h : SpAt w z lb v S) {g' : Gt} (hl : GLeft z.q z.gr z.gb (some z.m) g' lb s' w w') : SpWent w w' z lb v { S with met := s',gate := g' } := by
 obtain ⟨h1,lb',h2,hk,h4⟩ := hl
 have hX := InT.cons h.gate.2.row.tyOf (foot_ty h.met)
 exact ⟨lb',v,⟨h.blk_keeps hX hk (by decide),h2,h.row_keeps hX hk (by decide) (by decide),h1,h.tab_keeps hX hk (by decide) (by decide) (by decide) (by decide) (by decide),h.ev_keeps hX hk (by decide)⟩,foot_sub (fun x hx => by simp [foot] at hx; omega) hk,h4,fun k hv => .inl hv⟩
theorem SpAt.tabbed (h : SpAt w z lb v S) {H' : List Hd} {W' : List Int} (hl : TLeft z.t (some z.m) H' W' lb s' w w') : SpWent w w' z lb v { S with met := s',H := H',W := W' } := by
 obtain ⟨h1,lb',h2,hk,h4⟩ := hl
 have hX := InT.cons h.tab.heads.row.tyOf (InT.cons h.tab.words.row.tyOf (foot_ty h.met))
 exact ⟨lb',v,⟨h.blk_keeps hX hk (by decide),h2,h.row_keeps hX hk (by decide) (by decide),h.gate_keeps hX hk (by decide) (by decide) (by decide),h1,h.ev_keeps hX hk (by decide)⟩,foot_sub (fun x hx => by simp [foot] at hx; omega) hk,h4,fun k hv => .inl hv⟩
end
structure SP (w0 w : World) (z : Sb) (F : List Nat) (S : Sp) : Prop where
 ex : ∃ lb v,SpAt w z lb v S ∧ F = footS z lb v
 low : ∀ x,x ∈ F → w0.heap.size ≤ x
 keep : Keeps [] w0 w
def Went (w0 w w' : World) (z : Sb) (F : List Nat) (S' : Sp) : Prop := ∃ F',SP w0 w' z F' S' ∧ Keeps F w w' ∧ ∀ x,x ∈ F' → x ∈ F ∨ w.heap.size ≤ x
section
variable {w0 w w' w'' : World} {z : Sb} {F : List Nat} {S S' : Sp} {k : Nat}
theorem SP.footT (h : SP w0 w z F S) : InT w F spT := by
 obtain ⟨⟨lb,v,h1,rfl⟩,_,_⟩ := h
 exact h1.footT
theorem SP.lt (h : SP w0 w z F S) : ∀ x,x ∈ F → x < w.heap.size := fun x hx => by
 obtain ⟨t,_,e⟩ := h.footT x hx
 exact tyOf_lt e
theorem SP.out (h : SP w0 w z F S) {k : Nat} {t : TypeId} {cs : Array Value} (hb : Blk w k t cs) (ht : t ∉ spT) : k ∉ F := h.footT.out hb.tyOf ht
theorem SP.went (h : SP w0 w z F S) {lb : Nat} {v : Value} (hF : F = footS z lb v) (hs : SpWent w w' z lb v S') : Went w0 w w' z F S' := by
 obtain ⟨lb',v',h1,h2,h3,h4⟩ := hs
 subst hF
 have hz := h.keep.size
 have hn : ∀ x,x ∈ footS z lb' v' → x ∈ footS z lb v ∨ w.heap.size ≤ x := fun x hx => by
  simp only [footS,List.mem_cons,Option.mem_toList] at hx ⊢
  rcases hx with hx | hx | hx | hx | hx | hx | hx | hx
  · exact .inl (by simp [hx])
  · exact .inl (by simp [hx])
  · exact .inl (by simp [hx])
  · exact .inl (by simp [hx])
  · exact .inl (by simp [hx])
  · exact .inl (by simp [hx])
  · subst hx
    rcases h3 with h3 | h3
    · exact .inl (by simp [h3])
    · exact .inr h3
  · rcases h4 x hx with h5 | h5
    · exact .inl (by simp [h5])
    · exact .inr h5
 exact ⟨_,⟨⟨lb',v',h1,rfl⟩,fun x hx => by
  rcases hn x hx with h5 | h5
  · exact h.low x h5
  · omega,h.keep.trans h2 (fun x hx => .inr (h.low x hx))⟩,h2,hn⟩
theorem SP.calm (h : SP w0 w z F S) (hk : Keeps [] w w') : SP w0 w' z F S := by
 obtain ⟨⟨lb,v,h1,h2⟩,h3,h4⟩ := h
 exact ⟨⟨lb,v,h1.calm hk,h2⟩,h3,h4.trans hk (by simp)⟩
theorem SP.away (h : SP w0 w z F S) {X : List Nat} (hk : Keeps X w w') (hX : ∀ x,x ∈ X → w0.heap.size ≤ x ∧ x ∉ F ∧ (∀ t,tyOf w x = some t → t ∉ spFix)) : SP w0 w' z F S := by
 obtain ⟨⟨lb,v,h1,rfl⟩,h3,h4⟩ := h
 exact ⟨⟨lb,v,h1.away hk (fun x hx => (hX x hx).2),rfl⟩,h3,h4.trans hk (fun x hx => .inr (hX x hx).1)⟩
theorem SP.stay (h : SP w0 w z F S) (hk : Keeps [] w w') : Went w0 w w' z F S := ⟨F,h.calm hk,hk.mono (by simp),fun x hx => .inl hx⟩
theorem Fit.room (h : Fit k S) (hk : k ≤ 1099511627776) (m : Nat) : Room (some m) S.met := fun _ => by have := h.log; omega
theorem wrap_gen {g : Int} (h0 : 0 ≤ g) (h1 : g ≤ 1099511627776) : wrap64 (g + 1) = g + 1 := by unfold wrap64; omega
theorem sp_claim (h : SP w0 w z F S) (hf : Fit k S) (hk : k ≤ 1099511627776) (i t : Int) :
 Calls Tryz.prog 26 #[PT z.t.q,.int .i64 i,.int .i64 t] w fun e w' => e = .returned (.tuple #[.int .i64 (S.claim i t).1.1,.int .i64 (S.claim i t).1.2]) ∧ Went w0 w w' z F (S.claim i t).2 := by
 obtain ⟨lb,v,hs,hF⟩ := h.ex
 unfold Sp.claim
 split
 · rename_i ht
   exact (claim_bad w z.t.q i t ht).mono fun e w' ⟨he,hk⟩ => ⟨he,h.stay hk⟩
 ·
  rename_i ht
  split
  · rename_i hn
    exact (claim_place w z.t (some z.m) S.H S.W hs.tab i (nth_none hn) t (by omega) (by omega)).mono fun e w' ⟨he,hk⟩ => ⟨he,h.stay hk⟩
  ·
   rename_i x hn
   obtain ⟨h0,h1,hx⟩ := nth_len hn
   obtain ⟨j,rfl⟩ : ∃ j : Nat,i = j := ⟨i.toNat,by omega⟩
   simp only [Int.toNat_natCast] at hx ⊢
   have hg := hf.gens _ _ hx
   split
   · rename_i h2
     have hc := claim_ok w z.t (some z.m) S.H S.W hs.tab lb S.met hs.met (hf.room hk _) j x hx t (by omega) (by omega) h2
     rw [wrap_gen hg.1 (by omega)] at hc
     exact hc.mono fun e w' ⟨he,hl⟩ => ⟨he,h.went hF (hs.tabbed hl)⟩
   · rename_i h2
     exact (claim_held w z.t (some z.m) S.H S.W hs.tab lb S.met hs.met (hf.room hk _) j x hx t (by omega) (by omega) (by omega) h2).mono fun e w' ⟨he,hl⟩ => ⟨he,h.went hF (hs.tabbed hl)⟩
theorem sp_ready (h : SP w0 w z F S) (hf : Fit k S) (hk : k ≤ 1099511627776) (i g t : Int) :
 Calls Tryz.prog 29 #[PT z.t.q,.int .i64 i,.int .i64 g,.int .i64 t] w fun e w' => e = .returned (.int .i64 (S.ready i g t).1) ∧ Went w0 w w' z F (S.ready i g t).2 := by
 obtain ⟨lb,v,hs,hF⟩ := h.ex
 unfold Sp.ready
 split
 · rename_i ht
   exact (ready_bad w z.t.q i g t ht).mono fun e w' ⟨he,hk⟩ => ⟨he,h.stay hk⟩
 ·
  rename_i ht
  split
  · rename_i hn
    exact (ready_place w z.t (some z.m) S.H S.W hs.tab i (nth_none hn) g t (by omega)).mono fun e w' ⟨he,hk⟩ => ⟨he,h.stay hk⟩
  ·
   rename_i x hn
   obtain ⟨h0,h1,hx⟩ := nth_len hn
   obtain ⟨j,rfl⟩ : ∃ j : Nat,i = j := ⟨i.toNat,by omega⟩
   simp only [Int.toNat_natCast] at hx ⊢
   have hg := hf.gens _ _ hx
   split
   · rename_i h2
     exact (ready_ok w z.t (some z.m) S.H S.W hs.tab lb S.met hs.met (hf.room hk _) j x hx g t (by omega) h2.1 h2.2).mono fun e w' ⟨he,hl⟩ => ⟨he,h.went hF (hs.tabbed hl)⟩
   · rename_i h2
     by_cases h3 : x.state = 1
     · exact (ready_no w z.t (some z.m) S.H S.W hs.tab lb S.met hs.met (hf.room hk _) j x hx g t (by omega) (by omega) h3 (fun h4 => h2 ⟨h3,h4⟩)).mono fun e w' ⟨he,hl⟩ => ⟨he,h.went hF (hs.tabbed hl)⟩
     · exact (ready_not w z.t (some z.m) S.H S.W hs.tab lb S.met hs.met (hf.room hk _) j x hx g t (by omega) (by omega) h3).mono fun e w' ⟨he,hl⟩ => ⟨he,h.went hF (hs.tabbed hl)⟩
theorem sp_doom (h : SP w0 w z F S) (hf : Fit k S) (hk : k ≤ 1099511627776) (i g t : Int) :
 Calls Tryz.prog 88 #[PT z.t.q,.int .i64 i,.int .i64 g,.int .i64 t] w fun e w' => e = .returned (.int .i64 (S.doom i g t).1) ∧ Went w0 w w' z F (S.doom i g t).2 := by
 obtain ⟨lb,v,hs,hF⟩ := h.ex
 unfold Sp.doom
 split
 · rename_i ht
   exact (doom_bad w z.t.q i g t ht).mono fun e w' ⟨he,hk⟩ => ⟨he,h.stay hk⟩
 ·
  rename_i ht
  split
  · rename_i hn
    exact (doom_place w z.t (some z.m) S.H S.W hs.tab i (nth_none hn) g t (by omega) (by omega)).mono fun e w' ⟨he,hk⟩ => ⟨he,h.stay hk⟩
  ·
   rename_i x hn
   obtain ⟨h0,h1,hx⟩ := nth_len hn
   obtain ⟨j,rfl⟩ : ∃ j : Nat,i = j := ⟨i.toNat,by omega⟩
   simp only [Int.toNat_natCast] at hx ⊢
   have hg := hf.gens _ _ hx
   cases hd : x.doomed
   · split
     · rename_i h2
       rw [show x.doom t = ⟨x.gen,x.state,x.stamp,x.thread,true,t⟩ from by simp [Hd.doom,hd]]
       exact (doom_new w z.t (some z.m) S.H S.W hs.tab lb S.met hs.met (hf.room hk _) j x hx g t (by omega) (by omega) h2.1 h2.2 hd).mono fun e w' ⟨he,hl⟩ => ⟨he,h.went hF (hs.tabbed hl)⟩
     · rename_i h2
       by_cases h3 : x.state = 2
       · exact (doom_no0 w z.t (some z.m) S.H S.W hs.tab lb S.met hs.met (hf.room hk _) j x hx g t (by omega) (by omega) (by omega) h3 (fun h4 => h2 ⟨h3,h4⟩) hd).mono fun e w' ⟨he,hl⟩ => ⟨he,h.went hF (hs.tabbed hl)⟩
       · exact (doom_not0 w z.t (some z.m) S.H S.W hs.tab lb S.met hs.met (hf.room hk _) j x hx g t (by omega) (by omega) (by omega) h3 hd).mono fun e w' ⟨he,hl⟩ => ⟨he,h.went hF (hs.tabbed hl)⟩
   · split
     · rename_i h2
       rw [show x.doom t = x from by simp [Hd.doom,hd]]
       exact (doom_old w z.t (some z.m) S.H S.W hs.tab lb S.met hs.met (hf.room hk _) j x hx g t (by omega) (by omega) h2.1 h2.2 hd).mono fun e w' ⟨he,hl⟩ => ⟨he,h.went hF (hs.tabbed hl)⟩
     · rename_i h2
       by_cases h3 : x.state = 2
       · exact (doom_no1 w z.t (some z.m) S.H S.W hs.tab lb S.met hs.met (hf.room hk _) j x hx g t (by omega) (by omega) (by omega) h3 (fun h4 => h2 ⟨h3,h4⟩) hd).mono fun e w' ⟨he,hl⟩ => ⟨he,h.went hF (hs.tabbed hl)⟩
       · exact (doom_not1 w z.t (some z.m) S.H S.W hs.tab lb S.met hs.met (hf.room hk _) j x hx g t (by omega) (by omega) (by omega) h3 hd).mono fun e w' ⟨he,hl⟩ => ⟨he,h.went hF (hs.tabbed hl)⟩
theorem sp_free (h : SP w0 w z F S) (hf : Fit k S) (hk : k ≤ 1099511627776) (i g : Int) :
 Calls Tryz.prog 27 #[PT z.t.q,.int .i64 i,.int .i64 g] w fun e w' => e = .returned (.int .i64 (S.free i g).1) ∧ Went w0 w w' z F (S.free i g).2 := by
 obtain ⟨lb,v,hs,hF⟩ := h.ex
 unfold Sp.free
 split
 · rename_i hn
   exact (free_place w z.t (some z.m) S.H S.W hs.tab i (nth_none hn) g).mono fun e w' ⟨he,hk⟩ => ⟨he,h.stay hk⟩
 ·
  rename_i x hn
  obtain ⟨h0,h1,hx⟩ := nth_len hn
  obtain ⟨j,rfl⟩ : ∃ j : Nat,i = j := ⟨i.toNat,by omega⟩
  simp only [Int.toNat_natCast] at hx ⊢
  have hg := hf.gens _ _ hx
  split
  · rename_i h2
    exact (free_ok w z.t (some z.m) S.H S.W hs.tab lb S.met hs.met (hf.room hk _) j x hx g h2.1 h2.2).mono fun e w' ⟨he,hl⟩ => ⟨he,h.went hF (hs.tabbed hl)⟩
  · rename_i h2
    by_cases h3 : x.state = 0
    · exact (free_not w z.t (some z.m) S.H S.W hs.tab lb S.met hs.met (hf.room hk _) j x hx g (by omega) h3).mono fun e w' ⟨he,hl⟩ => ⟨he,h.went hF (hs.tabbed hl)⟩
    · exact (free_no w z.t (some z.m) S.H S.W hs.tab lb S.met hs.met (hf.room hk _) j x hx g (by omega) h3 (fun h4 => h2 ⟨h3,h4⟩)).mono fun e w' ⟨he,hl⟩ => ⟨he,h.went hF (hs.tabbed hl)⟩
theorem sp_look (h : SP w0 w z F S) (hf : Fit k S) (hk : k ≤ 1099511627776) (i : Int) :
 Calls Tryz.prog 36 #[PT z.t.q,.int .i64 i] w fun e w' => e = .returned (.tuple #[(S.look i).1.1.val,.int .i64 (S.look i).1.2]) ∧ Went w0 w w' z F (S.look i).2 := by
 obtain ⟨lb,v,hs,hF⟩ := h.ex
 unfold Sp.look
 split
 · rename_i hn
   exact (slots_look_no w z.t (some z.m) S.H S.W hs.tab i (nth_none hn)).mono fun e w' ⟨he,hk⟩ => ⟨he,h.stay hk⟩
 · rename_i x hn
   obtain ⟨h0,h1,hx⟩ := nth_len hn
   obtain ⟨j,rfl⟩ : ∃ j : Nat,i = j := ⟨i.toNat,by omega⟩
   simp only [Int.toNat_natCast] at hx ⊢
   exact (slots_look w z.t (some z.m) S.H S.W hs.tab lb S.met hs.met (hf.room hk _) j x hx).mono fun e w' ⟨he,hl⟩ => ⟨he,h.went hF (hs.tabbed hl)⟩
theorem sp_word (h : SP w0 w z F S) (hf : Fit k S) (hk : k ≤ 1099511627776) (i j : Int) :
 Calls Tryz.prog 108 #[PT z.t.q,.int .i64 i,.int .i64 j] w fun e w' => e = .returned (.tuple #[.int .u64 (S.word i j).1.1,.int .i64 (S.word i j).1.2]) ∧ Went w0 w w' z F (S.word i j).2 := by
 obtain ⟨lb,v,hs,hF⟩ := h.ex
 unfold Sp.word
 split
 · rename_i hn
   exact (slots_word_no w z.t (some z.m) S.H S.W hs.tab i j (wnth_none hf.words hn)).mono fun e w' ⟨he,hk⟩ => ⟨he,h.stay hk⟩
 ·
  rename_i x hn
  obtain ⟨h0,h1,hx⟩ := wnth_some hn
  obtain ⟨i,rfl⟩ : ∃ n : Nat,i = n := ⟨i.toNat,by omega⟩
  obtain ⟨j,rfl⟩ : ∃ n : Nat,j = n := ⟨j.toNat,by omega⟩
  simp only [Int.toNat_natCast] at hx ⊢
  have hc := slots_word w z.t (some z.m) S.H S.W hs.tab lb S.met hs.met (hf.room hk _) i j (by omega) x hx
  exact hc.mono fun e w' ⟨he,hl⟩ => ⟨he,h.went hF (by have := hs.tabbed hl; simpa [Sp.acc] using this)⟩
theorem sp_put (h : SP w0 w z F S) (hf : Fit k S) (hk : k ≤ 1099511627776) (i j x : Int) :
 Calls Tryz.prog 28 #[PT z.t.q,.int .i64 i,.int .i64 j,.int .u64 x] w fun e w' => e = .returned (.int .i64 (S.put i j x).1) ∧ Went w0 w w' z F (S.put i j x).2 := by
 obtain ⟨lb,v,hs,hF⟩ := h.ex
 unfold Sp.put
 split
 · rename_i hn
   exact (slots_put_no w z.t (some z.m) S.H S.W hs.tab i j (wnth_none hf.words hn) x).mono fun e w' ⟨he,hk⟩ => ⟨he,h.stay hk⟩
 ·
  rename_i x0 hn
  obtain ⟨h0,h1,hx⟩ := wnth_some hn
  obtain ⟨i,rfl⟩ : ∃ n : Nat,i = n := ⟨i.toNat,by omega⟩
  obtain ⟨j,rfl⟩ : ∃ n : Nat,j = n := ⟨j.toNat,by omega⟩
  simp only [Int.toNat_natCast] at hx ⊢
  have hc := slots_put w z.t (some z.m) S.H S.W hs.tab lb S.met hs.met (hf.room hk _) i j (by omega) x
  exact hc.mono fun e w' ⟨he,hl⟩ => ⟨he,h.went hF (by have := hs.tabbed hl; simpa [Sp.acc] using this)⟩
theorem sp_take (h : SP w0 w z F S) (hf : Fit k S) (hk : k ≤ 1099511627776) (t : Int) :
 Calls Tryz.prog 83 #[PT z.q,.int .i64 t] w fun e w' => e = .returned (.tuple #[.int .i64 (S.take t).1.1,.int .i64 (S.take t).1.2]) ∧ Went w0 w w' z F (S.take t).2 := by
 obtain ⟨lb,v,hs,hF⟩ := h.ex
 have h0 := hf.g0
 have h1 := hf.g1
 unfold Sp.take
 split
 · rename_i ht
   exact (take_bad w z.q t ht).mono fun e w' ⟨he,hk⟩ => ⟨he,h.stay (hk ▸ Keeps.refl _ _)⟩
 · rename_i ht
   split
   · rename_i h2
     exact (take_ok w z.q z.gr z.gb (some z.m) S.gate hs.gate lb S.met hs.met (hf.room hk _) t (by omega) (by omega) h0 (by omega) h2).mono fun e w' ⟨he,hl⟩ => ⟨he,h.went hF (hs.gated hl)⟩
   · rename_i h2
     exact (take_held w z.q z.gr z.gb (some z.m) S.gate hs.gate lb S.met hs.met (hf.room hk _) t (by omega) (by omega) h0 (by omega) (by omega)).mono fun e w' ⟨he,hl⟩ => ⟨he,h.went hF (hs.gated hl)⟩
theorem sp_give (h : SP w0 w z F S) (hf : Fit k S) (hk : k ≤ 1099511627776) (t : Int) :
 Calls Tryz.prog 85 #[PT z.q,.int .i64 t] w fun e w' => e = .returned (.int .i64 (S.give t).1) ∧ Went w0 w w' z F (S.give t).2 := by
 obtain ⟨lb,v,hs,hF⟩ := h.ex
 have h0 := hf.g0
 have h1 := hf.g1
 unfold Sp.give
 split
 · rename_i ht
   exact (give_bad w z.q t ht).mono fun e w' ⟨he,hk⟩ => ⟨he,h.stay (hk ▸ Keeps.refl _ _)⟩
 · rename_i ht
   split
   · rename_i h2
     exact (give_ok w z.q z.gr z.gb (some z.m) S.gate hs.gate lb S.met hs.met (hf.room hk _) t (by omega) (by omega) h0 (by omega) h2).mono fun e w' ⟨he,hl⟩ => ⟨he,h.went hF (hs.gated hl)⟩
   · rename_i h2
     exact (give_not w z.q z.gr z.gb (some z.m) S.gate hs.gate lb S.met hs.met (hf.room hk _) t (by omega) (by omega) h0 (by omega) h2).mono fun e w' ⟨he,hl⟩ => ⟨he,h.went hF (hs.gated hl)⟩
end
end Go.Proofs.YtmlnedilbneekaaGreat