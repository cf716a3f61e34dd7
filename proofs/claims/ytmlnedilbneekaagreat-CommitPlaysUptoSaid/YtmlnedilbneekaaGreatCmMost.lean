/- quashlaw12.awake: the document's examples. -/
import Derived.Test.YtmlnedilbneekaaGreatLookE
import Derived.Test.YtmlnedilbneekaaGreatSpF
import Derived.Test.YtmlnedilbneekaaGreatLookM
import Derived.Test.YtmlnedilbneekaaGreatRig
import Derived.Test.YtmlnedilbneekaaGreatCpR
import Derived.Test.YtmlnedilbneekaaGreatElOp13
import Derived.Test.YtmlnedilbneekaaGreatCmNew
import Derived.Test.YtmlnedilbneekaaGreatCmStep
import Derived.Test.YtmlnedilbneekaaGreatSlR
import Derived.Test.YtmlnedilbneekaaGreatSpace
import Derived.Deep.QuietTactic
import Derived.BigQuiet
set_option linter.unusedVariables false
set_option linter.unusedSimpArgs false
namespace Go.Proofs.YtmlnedilbneekaaGreat
open Go.RowKit
theorem Sp.wu_of {S S' : Sp} (h : S.wu) (e : S'.W = S.W) : S'.wu := by unfold Sp.wu; rw [e]; exact h
theorem Sp.claim_W (S : Sp) (i t : Int) : (S.claim i t).2.W = S.W ∧ (S.claim i t).2.c = S.c := by unfold Sp.claim; split; exact ⟨rfl,rfl⟩; split; exact ⟨rfl,rfl⟩; split <;> exact ⟨rfl,rfl⟩
theorem Sp.ready_W (S : Sp) (i g t : Int) : (S.ready i g t).2.W = S.W ∧ (S.ready i g t).2.c = S.c := by unfold Sp.ready; split; exact ⟨rfl,rfl⟩; split; exact ⟨rfl,rfl⟩; split <;> exact ⟨rfl,rfl⟩
theorem Sp.doom_W (S : Sp) (i g t : Int) : (S.doom i g t).2.W = S.W ∧ (S.doom i g t).2.c = S.c := by unfold Sp.doom; split; exact ⟨rfl,rfl⟩; split; exact ⟨rfl,rfl⟩; split <;> exact ⟨rfl,rfl⟩
theorem Sp.free_W (S : Sp) (i g : Int) : (S.free i g).2.W = S.W ∧ (S.free i g).2.c = S.c := by unfold Sp.free; split; exact ⟨rfl,rfl⟩; split <;> exact ⟨rfl,rfl⟩
theorem Sp.put_wu {S : Sp} (h : S.wu) (i j x : Int) (hx : isU x) : (S.put i j x).2.wu ∧ (S.put i j x).2.c = S.c := by
 unfold Sp.put
 split
 · exact ⟨h,rfl⟩
 · refine ⟨fun v hv => ?_,rfl⟩
   rcases List.mem_or_eq_of_mem_set hv with h1 | h1
   · exact h v h1
   · subst h1; exact hx
theorem Sp.new_wu (c : Cf) : (Sp.new c).wu := fun v hv => by
 simp only [Sp.new] at hv
 rw [List.mem_replicate] at hv
 rw [hv.2]
 exact ⟨by decide,by decide⟩
def GenOk (S : Sp) : Prop := ∀ x,x ∈ S.H → 0 ≤ x.gen ∧ (x.state ≠ 0 → 1 ≤ x.gen)
structure Seated (w wr : World) (z : Sb) (c : Cf) (k : Nat) : Prop where
 ex : ∃ F S,SP w wr z F S ∧ Fit k S ∧ S.wu ∧ S.c = c ∧ GenOk S
section
variable {w wr w' : World} {z : Sb} {c : Cf} {k : Nat}
end
open Go.RowKit
def c12 (n : Int) : Cf := ⟨1,n,8,1,0,0⟩
open Go.RowKit
namespace Aw12
def s1 : Sp := ((Sp.new (c12 3)).claim 1 4).2
def s2 : Sp := (s1.free 1 1).2
def s3 : Sp := (s2.claim 1 4).2
def s4 : Sp := (s3.put 1 0 6).2
def s5 : Sp := (s4.ready 1 2 9).2
def s6 : Sp := (s5.claim 2 5).2
def x0 : Lk := Lk.new 3 0 ⟨2,0⟩
def run : Nat → Lk × Sp
 | 0 => (x0,s6)
 | n + 1 => (((run n).1.step (run n).2).2.1,((run n).1.step (run n).2).2.2)
def vs : List Vc := [⟨1,2,9,4⟩]
def y0 : Dm := Dm.new 5 vs
def s11 : Sp := (y0.step (run 4).2).2.2
end Aw12
open Aw12
open Go.RowKit Pol
namespace CP
open PR Cd Rj
theorem pr_same (w : World) (a b : Int) : (Op.equalIn 10000 81 (.agg #[.int .i64 a,.int .i64 b]) (.agg #[.int .i64 a,.int .i64 b])).run Tryz.prog w = .ok true w := by
 simp [go_sem]
def mk : Pr := ⟨-9,0⟩
theorem own_new (w : World) (e size k : Nat) (hk : w.heap.size = k) : (w.alloc (.cells #[] e)).ownsRow 0 e size (.slice (some ⟨k,0,none⟩) 0 0) 0 [] := by
 subst hk
 exact World.ownsRow_made _ _ _ (Nat.zero_le _) (by decide) (by simp)
theorem grown2 {w w1 w2 : World} {v1 : Value} (hg1 : (w.alloc (.cells #[] 81)).grownBy w1 (some w.heap.size)) (hat1 : v1.ownBlock = some w.heap.size ∨ v1.ownBlock = some (w.alloc (.cells #[] 81)).heap.size) (o : Obj) (hg2 : (w1.alloc o).grownBy w2 v1.ownBlock) {g2 : Nat} (hat2 : v1.ownBlock = some g2 ∨ g2 = (w1.alloc o).heap.size) : Keeps [] w w2 ∧ w.heap.size ≤ g2 := by
 have h1 : Keeps [] w w1 := ((Keeps.refl [] w).alloc _).grown hg1 (by intro k hk; injection hk with hk; exact .inr (by omega))
 have hz := h1.size
 have hw : ∀ k,v1.ownBlock = some k → w.heap.size ≤ k := fun k hk => by
  rcases hat1 with e | e <;> rw [e] at hk <;> simp at hk <;> omega
 refine ⟨(h1.alloc o).grown hg2 (fun k hk => .inr (hw k hk)),?_⟩
 rcases hat2 with e | e
 · exact hw _ e
 · rw [World.size_alloc] at e; omega
theorem own_cap {w : World} {base g n m cap : Nat} {xs : List Value} (h : w.ownsRow base 81 2 (.slice (some ⟨g,0,none⟩) n cap) m xs) : n ≤ cap ∧ cap ≤ maxLen := by
 rcases h.2 with ⟨h0,_⟩ | ⟨g',cap',cur,h0,_,_,h1,h2,_⟩
 · cases h0
 · injection h0 with _ h3 h4
   subst h3 h4
   exact ⟨h1,h2⟩
theorem own_front {w : World} {base q cap n m : Nat} {xs ys : List Value} (h : w.ownsRow base 81 2 (.slice (some ⟨q,0,none⟩) n cap) n (xs ++ ys)) (hx : xs.length = m * 2) (hm : m ≤ n) : w.ownsRow base 81 2 (.slice (some ⟨q,0,none⟩) m cap) m xs := by
 refine ⟨hx,?_⟩
 rcases h.2 with ⟨h0,_⟩ | ⟨g,cap',cur,h0,hb,hg,hnc,hcm,hcs,ht⟩
 · cases h0
 ·
  injection h0 with h1 h2 h3
  injection h1 with h1
  injection h1 with h1
  subst h1 h3
  refine .inr ⟨q,cap,cur,rfl,hb,hg,by omega,hcm,hcs,?_⟩
  have e := congrArg (List.take (m * 2)) ht
  rw [List.take_take,List.take_left' hx] at e
  rw [← e]
  congr 1
  omega
def Kp (w : World) (q i m : Nat) (L : List Pr) : Prop := ∃ cs,Blk w q 81 cs ∧ ∀ t,i * 2 ≤ t → t < (m + 1) * 2 → cs[t]? = (prCells L ++ mk.cells)[t]?
theorem own_blk {w : World} {q m cap : Nat} {xs : List Value} (h : w.ownsRow 0 81 2 (.slice (some ⟨q,0,none⟩) (m + 1) cap) (m + 1) xs) : ∃ cs,Blk w q 81 cs ∧ ∀ t,t < (m + 1) * 2 → cs[t]? = xs[t]? := by
 rcases h.2 with ⟨h0,_⟩ | ⟨g,cap',cur,h0,hb,hg,hnc,hcm,hcs,ht⟩
 · cases h0
 · injection h0 with h1 h2 h3
   injection h1 with h1
   injection h1 with h1
   subst h1
   refine ⟨cur,hg,fun t htl => ?_⟩
   rw [← ht,List.getElem?_take,if_pos htl,Array.getElem?_toList]
theorem Kp.fz {w : World} {q i m : Nat} {L : List Pr} (h : Kp w q i m L) (o : Nat) : w.frozen? ⟨q,o,none⟩ = false := by
 obtain ⟨cs,hb,_⟩ := h
 exact hb.frozen o
theorem Kp.drewN {w : World} {q i m : Nat} {L : List Pr} (h : Kp w q i m L) (a : Nat) : Kp (w.drewN a) q i m L := by
 obtain ⟨cs,hb,hc⟩ := h
 exact ⟨cs,hb.drewN a,hc⟩
theorem Kp.at_ {w : World} {q i m t : Nat} {L : List Pr} {v : Pr} (h : Kp w q i m L) (hm : L.length = m) (hi : i ≤ t) (ht : t < m) (hv : L[t]? = some v) : w.cell? ⟨q,t * 2,none⟩ = some (.int .i64 v.cell) ∧ w.cell? ⟨q,t * 2 + 1,none⟩ = some (.int .i64 v.x) := by
 obtain ⟨cs,hb,hc⟩ := h
 obtain ⟨v0,v1⟩ := pr_at L t v hv
 have e : ∀ o u,i * 2 ≤ o → o < m * 2 → (prCells L)[o]? = some u → w.cell? ⟨q,o,none⟩ = some u := fun o u h1 h2 hu => by
  rw [hb.cell o,hc o h1 (by omega),List.getElem?_append_left (by rw [prCells_len]; omega)]
  exact hu
 exact ⟨e _ _ (by omega) (by omega) v0,e _ _ (by omega) (by omega) v1⟩
theorem Kp.last {w : World} {q i m : Nat} {L : List Pr} (h : Kp w q i m L) (hi : i ≤ m) (hm : L.length = m) : w.cell? ⟨q,m * 2,none⟩ = some (.int .i64 (-9)) ∧ w.cell? ⟨q,m * 2 + 1,none⟩ = some (.int .i64 0) := by
 obtain ⟨cs,hb,hc⟩ := h
 have e : ∀ o,o < 2 → w.cell? ⟨q,m * 2 + o,none⟩ = mk.cells[o]? := fun o h1 => by
  rw [hb.cell,hc _ (by omega) (by omega),List.getElem?_append_right (by rw [prCells_len]; omega),prCells_len,hm,Nat.add_sub_cancel_left]
 exact ⟨e 0 (by decide),e 1 (by decide)⟩
theorem Kp.stored {w : World} {q t m : Nat} {L : List Pr} (h : Kp w q t m L) (a b : Value) : Kp ((w.setCell ⟨q,t * 2,none⟩ a).setCell ⟨q,t * 2 + 1,none⟩ b) q (t + 1) m L := by
 obtain ⟨cs,hb,hc⟩ := h
 refine ⟨_,(hb.set_ _ a).set_ _ b,fun o h1 h2 => ?_⟩
 rw [Array.getElem?_setIfInBounds_ne (by omega),Array.getElem?_setIfInBounds_ne (by omega)]
 exact hc o (by omega) h2
theorem kstored {w w1 : World} {q t : Nat} (h : Keeps [q] w w1) (a b : Value) : Keeps [q] w ((w1.setCell ⟨q,t * 2,none⟩ a).setCell ⟨q,t * 2 + 1,none⟩ b) := (h.setCell (.inl (by simp)) _).setCell (.inl (by simp)) _
theorem asU_isU (x : Int) : isU (asU x) := by
 unfold asU isU
 have := IntKind.wrap_u64 x
 omega
theorem raw_wu {S : Sp} (h : S.wu) (kd i n x : Int) : (S.raw kd i n x).wu := by
 unfold Sp.raw
 split; exact Sp.wu_of h (by unfold Sp.store; split <;> rfl)
 split; exact Sp.wu_of h (by unfold Sp.take; split; rfl; split <;> rfl)
 split; exact Sp.wu_of h (by unfold Sp.give; split; rfl; split <;> rfl)
 split; exact Sp.wu_of h (Sp.claim_W S i n).1
 split; exact Sp.wu_of h (Sp.ready_W S i n x).1
 split; exact Sp.wu_of h (Sp.doom_W S i n x).1
 split; exact Sp.wu_of h (Sp.free_W S i n).1
 split; exact (Sp.put_wu h i n _ (asU_isU x)).1
 exact h
def Jud (J K : MJ) : Prop := ∀ j,j < 3 → ∃ a b d,J j = some (a,d) ∧ K j = some (b,d) ∧ 0 ≤ d ∧ d ≤ 64
theorem Jud.set {J K : MJ} (h : Jud J K) (j : Nat) {a b : Nat} {d : Int} (h0 : 0 ≤ d) (h1 : d ≤ 64) : Jud (upd' J j (some (a,d))) (upd' K j (some (b,d))) := fun i hi => by
 by_cases e : i = j
 · subst e; exact ⟨a,b,d,upd_at _ _ _,upd_at _ _ _,h0,h1⟩
 · rw [upd_off _ _ _ e,upd_off _ _ _ e]; exact h i hi
structure Ins (f : Fx) (w0 w : World) (k : Nat) (S : Sp) (X Y : MC) (J K : MJ) : Prop where
 rg : Rg f w0 w none S S X Y J K
 fit : Fit k S
 wu : S.wu
 c : S.c = f.c
 pc : Pair (Cm.Ok f.n) X Y
 pj : Jud J K
theorem st2 {f : Fx} {w0 w w1 : World} {O : Option (Nat × Array Value)} {S T : Sp} {X Y : MC} {J K : MJ} (h : Rg f w0 w O S T X Y J K) (hk : Keeps [] w w1) {j : Nat} (hj : j < 3) (p q : Option (Nat × Cm)) (hxy : f.xb ≠ f.yb) :
 Blk ((w1.setCell ⟨f.xb,j,none⟩ (pv p)).setCell ⟨f.yb,j,none⟩ (pv q)) f.xb 56 (arr3 (upd' X j p)) ∧ Blk ((w1.setCell ⟨f.xb,j,none⟩ (pv p)).setCell ⟨f.yb,j,none⟩ (pv q)) f.yb 58 (arr3 (upd' Y j q)) := by
 obtain ⟨hx,hy,_,_⟩ := h.arrs
 refine ⟨?_,?_⟩
 · rw [← arr3_set X hj]
   exact ((hx.keeps hk (by simp)).set_ j (pv p)).far hxy _
 · rw [← arr3_set Y hj]
   exact ((hy.keeps hk (by simp)).far (fun e => hxy e.symm) _).set_ j (pv q)
end CP
open Go.RowKit Pol
structure CmRun (w0 w : World) (z : Sb) (jb cb : Nat) (n k : Nat) (S : Sp) (c : Cf) (d : Int) (x : Cm) : Prop where
 ex : ∃ F H dp,CmTrio w0 w z F H jb cb dp (stgVal dp x.st) S c d x
 fit : Fit k S
 wu : S.wu
 cc : S.c = c
 len : S.H.length = n
 ok : x.Ok n
 d0 : 0 ≤ d
 d1 : d ≤ 64
section
variable {w0 w w' : World} {z : Sb} {F : List Nat} {jb cb n k : Nat} {S : Sp} {c : Cf} {d : Int} {x : Cm}
theorem CmRun.calm (h : CmRun w0 w z jb cb n k S c d x) (hk : Keeps [] w w') : CmRun w0 w' z jb cb n k S c d x := by
 obtain ⟨F,H,dp,ht⟩ := h.ex
 exact ⟨⟨F,H,dp,ht.calm hk⟩,h.fit,h.wu,h.cc,h.len,h.ok,h.d0,h.d1⟩
theorem CmRun.sp (h : CmRun w0 w z jb cb n k S c d x) : ∃ F,SP w0 w z F S := by
 obtain ⟨F,H,dp,ht⟩ := h.ex
 exact ⟨F,ht.sp⟩
theorem CmRun.step (h : CmRun w0 w z jb cb n k S c d x) (hk : k + 1 ≤ 1099511627776) :
 Calls Tryz.prog 17 #[PT cb] w fun e w' => e = .returned (.int .i64 (x.step S d).1) ∧ CmRun w0 w' z jb cb n (k + 1) (x.step S d).2.2.1 c (x.step S d).2.2.2 (x.step S d).2.1 := by
 obtain ⟨F,H,dp,ht⟩ := h.ex
 have hn := h.len
 have hi := x.step_is S d
 refine (cm_step ht h.fit hk h.cc h.wu h.d0 h.d1 (hn ▸ h.ok)).mono fun e w' ⟨he,dp',hw⟩ => ⟨he,?_⟩
 obtain ⟨F',H',ht',_⟩ := WentC.trio ht hw
 have hr := Cm.step_rng (S := S) h.fit.c h.d0 h.d1 x
 exact ⟨⟨F',H',dp',ht'⟩,h.fit.cmstep x d,h.wu.same hi.2.1,hi.1.trans h.cc,hi.2.2.trans hn,h.ok.step hn h.wu h.fit.c,hr.1,hr.2⟩
theorem CmRun.done (h : CmRun w0 w z jb cb n k S c d x) : Calls Tryz.prog 63 #[PT cb] w fun e w' => e = .returned (.bool x.done) ∧ w = w' := by
 obtain ⟨F,H,dp,ht⟩ := h.ex
 exact cm_done ht.cm
theorem CmRun.end_ (h : CmRun w0 w z jb cb n k S c d x) : Calls Tryz.prog 62 #[PT cb] w fun e w' => e = .returned (.int .i64 x.end_) ∧ w = w' := by
 obtain ⟨F,H,dp,ht⟩ := h.ex
 exact cm_end ht.cm
theorem CmRun.won (h : CmRun w0 w z jb cb n k S c d x) : Calls Tryz.prog 64 #[PT cb] w fun e w' => e = .returned (.bool x.won) ∧ w = w' := by
 obtain ⟨F,H,dp,ht⟩ := h.ex
 exact cm_won ht.cm
theorem CmRun.number (h : CmRun w0 w z jb cb n k S c d x) : Calls Tryz.prog 65 #[PT cb] w fun e w' => e = .returned (.int .i64 x.number) ∧ w = w' := by
 obtain ⟨F,H,dp,ht⟩ := h.ex
 exact cm_number ht.cm
theorem CmRun.made (hs : SP w0 w z F S) (hj : JAt w jb c d) (hlo : w0.heap.size ≤ jb) (hf : Fit k S) (hu : S.wu) (hc : S.c = c) (hn : S.H.length = n) (h0 : 0 ≤ d) (h1 : d ≤ 64)
 {sl ge th st : Int} {ws : List Pr} (he : mayE c sl th st ws = 0) {H : List Nat} (hm : CmN w0 w z F jb cb H 0 (stgVal 0 .take) (Cm.new sl ge th st ws)) (hjH : jb ∉ H) : CmRun w0 w z jb cb n k S c d (Cm.new sl ge th st ws) := by
 have hl := mayE_len he
 have hr : 1 ≤ th ∧ th ≤ 8 ∧ 0 ≤ sl ∧ sl < c.slots := mayE_rng he
 have hsl := hf.slots
 have hsc := hf.c.2.1
 rw [hc] at hsl hsc
 exact ⟨⟨F,H,0,hs,hj,hm,hjH,hlo⟩,hf,hu,hc,hn,⟨by omega,by omega,hr.2.2.1,(by show sl < (n : Int); omega),hr.1,hr.2.1,hl.1,hl.2,by simp [Cm.new],by simp [Cm.new],by simp [Cm.new],by simp [Cm.new],by simp [Cm.new]⟩,h0,h1⟩
end
open Go.RowKit Pol
def Off (w0 w : World) (X Y : List Nat) : Prop := ∀ q,q ∈ X → w0.heap.size ≤ q ∧ q < w.heap.size ∧ q ∉ Y ∧ ∀ t,tyOf w q = some t → t ∉ spFix
structure CmS (w0 w : World) (z : Sb) (jb cb : Nat) (n k : Nat) (S : Sp) (c : Cf) (d : Int) (x : Cm) (X : List Nat) : Prop where
 ex : ∃ F H dp,CmTrio w0 w z F H jb cb dp (stgVal dp x.st) S c d x ∧ Off w0 w X (jb :: (H ++ F))
 fit : Fit k S
 wu : S.wu
 cc : S.c = c
 len : S.H.length = n
 ok : x.Ok n
 d0 : 0 ≤ d
 d1 : d ≤ 64
section
variable {w0 w w' : World} {z : Sb} {F H : List Nat} {jb cb n k : Nat} {S : Sp} {c : Cf} {d : Int} {x : Cm} {X : List Nat}
end
open Go.RowKit Pol
def spL (c : Cf) : Sp := (((Sp.new c).claim 0 1).2.ready 0 1 5).2
def hdL : Hd := ⟨1,2,5,1,false,0⟩
theorem nth_rep {α : Type} {n : Nat} {a : α} (h : 1 ≤ n) : nth (List.replicate n a) 0 = some a := by
 obtain ⟨m,rfl⟩ : ∃ m,n = m + 1 := ⟨n - 1,by omega⟩
 rfl
theorem new_claim {c : Cf} (h : 1 ≤ c.slots) : (Sp.new c).claim 0 1 = ((1,0),{ (Sp.new c).acc 3 0 3 true with H := (List.replicate c.slots.toNat Hd.zero).set 0 ⟨1,1,0,1,false,0⟩ }) := by
 have hn : nth (Sp.new c).H 0 = some Hd.zero := nth_rep (by omega)
 unfold Sp.claim
 rw [if_neg (by decide),hn]
 simp [Hd.zero,Sp.new]
theorem spL_is {c : Cf} (h : 1 ≤ c.slots) : ((Sp.new c).claim 0 1).1 = (1,0) ∧ (((Sp.new c).claim 0 1).2.ready 0 1 5).1 = 0 ∧ spL c = { ((Sp.new c).acc 3 0 3 true).acc 3 0 3 true with H := (List.replicate c.slots.toNat Hd.zero).set 0 hdL } := by
 have hn : nth ((List.replicate c.slots.toNat Hd.zero).set 0 ⟨1,1,0,1,false,0⟩) 0 = some ⟨1,1,0,1,false,0⟩ := by
  obtain ⟨m,hm⟩ : ∃ m,c.slots.toNat = m + 1 := ⟨c.slots.toNat - 1,by omega⟩
  rw [hm]
  rfl
 unfold spL
 rw [new_claim h]
 refine ⟨rfl,?_,?_⟩
 · unfold Sp.ready
   rw [if_neg (by decide)]
   simp only [hn]
   simp
 · unfold Sp.ready
   rw [if_neg (by decide)]
   simp only [hn]
   simp [hdL,Sp.acc]
theorem spL_fit {c : Cf} (h : c.ok) : Fit 2 (spL c) := ((Fit.new h).claim 0 1).ready 0 1 5
theorem spL_wu (c : Cf) : (spL c).wu := Sp.wu_of (Sp.new_wu c) ((Sp.ready_W _ _ _ _).1.trans (Sp.claim_W _ _ _).1)
theorem spL_c (c : Cf) : (spL c).c = c := (Sp.ready_W _ _ _ _).2.trans (Sp.claim_W _ _ _).2
set_option maxRecDepth 100000 in
set_option maxHeartbeats 2000000 in
theorem lives_any (w : World) (c : Cf) (hc : c.ok) : Calls Tryz.prog 61 #[.agg #[.int .i64 c.cells,.int .i64 c.slots,.int .i64 c.bits,.int .i64 c.tag,.int .i64 c.bias,.int .i64 c.defer]] w fun e w' => ∃ z jb F,e = .returned (.tuple #[PT z.p,PT jb,.bool true]) ∧ SP w w' z F (spL c) ∧ JAt w' jb c 0 ∧ w.heap.size ≤ jb := by
 have hk : Keeps [] w (w.alloc (.cells c.vals 23)) := by simp
 have hb : Blk (w.alloc (.cells c.vals 23)) w.heap.size 23 c.vals := Blk.new _ _ _
 obtain ⟨d0,d1,d2,d3,d4,d5⟩ := cf_cells hb
 have HK := Lib.hid hk
 have HB := Lib.hid hb
 have HCO := Lib.hid hc
 have HQ := Lib.hid (fun w' => sp_new w' c hc)
 have HJ := Lib.hid (fun w' => judge_new w' c hc)
 obtain ⟨s1,s2,s3⟩ := spL_is (c := c) hc.2.1.1
 have HS := Lib.hid (And.intro s1 (And.intro s2 s3))
 clear hk hb hc s1 s2 s3
 unfold Cf.vals at d0 d1 d2 d3 d4 d5
 go_enter Tryz.func61,Tryz.ntmps61
 go_wp2_with fail
 refine (HQ.out _).mono ?_
 rintro e w1 ⟨z,F,rfl,hs⟩
 have HS1 := Lib.hid (hs.base HK.out)
 obtain ⟨d0,d1,d2,d3,d4,d5⟩ := cf_cells (HB.out.keeps hs.keep (by simp))
 have HKW : Hid (Keeps [] w w1) := HK.out.trans hs.keep (by simp)
 clear hs
 go_wp2_with fail
 refine (HJ.out _).mono ?_
 rintro e w2 ⟨jb,rfl,hj,hlo,hk2⟩
 have HS2 := Lib.hid (HS1.out.calm hk2)
 have HJ2 := Lib.hid hj
 have HLO : Hid (w.heap.size ≤ jb) := Nat.le_trans HKW.out.size hlo
 clear hj hlo hk2 d0 d1 d2 d3 d4 d5
 go_wp2_with fail
 refine (sp_slots HS2.out).mono ?_
 rintro e w3 ⟨rfl,rfl⟩
 go_wp2_with fail
 refine (sp_gate HS2.out).mono ?_
 rintro e w3 ⟨rfl,rfl⟩
 go_wp2_with fail
 refine (sp_slots HS2.out).mono ?_
 rintro e w3 ⟨rfl,rfl⟩
 go_wp2_with fail
 refine (sp_claim HS2.out (Fit.new HCO.out) (by decide) 0 1).mono ?_
 rintro e w3 ⟨rfl,F3,h3,k3,n3⟩
 rw [HS.out.1]
 have HS3 := Lib.hid h3
 have HJ3 : Hid (JAt w3 jb c 0) := Blk.keeps HJ2.out k3 (HS2.out.out HJ2.out (by decide))
 clear h3 k3 n3
 go_wp2_with fail
 refine (sp_slots HS3.out).mono ?_
 rintro e w4 ⟨rfl,rfl⟩
 go_wp2_with fail
 refine (sp_ready HS3.out ((Fit.new HCO.out).claim 0 1) (by decide) 0 1 5).mono ?_
 rintro e w4 ⟨rfl,F4,h4,k4,n4⟩
 rw [HS.out.2.1]
 have HS4 := Lib.hid h4
 have HJ4 : Hid (JAt w4 jb c 0) := Blk.keeps HJ3.out k4 (HS3.out.out HJ3.out (by decide))
 clear h4 k4 n4
 go_wp2_with fail
 refine bodyPost_ret (v := .tuple #[PT z.p,PT jb,.bool true]) (by simp [results,Tryz.results61,go_sem]) rfl ?_
 exact ⟨z,jb,F4,rfl,HS4.out,HJ4.out,HLO.out⟩
open Go.RowKit
instance (c : Cf) : Decidable c.ok := by unfold Cf.ok; infer_instance
def mostOf (c : Cf) (n : Int) : Int := if c.ok ∧ 0 ≤ n ∧ n ≤ 16 then (c.slots - 1) * 4 + n + 3 else 0
set_option maxRecDepth 100000 in
theorem cm_most (w : World) (c : Cf) (n : Int) : Calls Tryz.prog 66 #[.agg #[.int .i64 c.cells,.int .i64 c.slots,.int .i64 c.bits,.int .i64 c.tag,.int .i64 c.bias,.int .i64 c.defer],.int .i64 n] w fun e w' => e = .returned (.int .i64 (mostOf c n)) ∧ Keeps [] w w' := by
 have hk : Keeps [] w (w.alloc (.cells c.vals 23)) := by simp
 have hb : Blk (w.alloc (.cells c.vals 23)) w.heap.size 23 c.vals := Blk.new _ _ _
 obtain ⟨d0,d1,d2,d3,d4,d5⟩ := cf_cells hb
 have HK := Lib.hid hk
 have HB := Lib.hid hb
 clear hk hb
 unfold Cf.vals at d0 d1 d2 d3 d4 d5
 obtain ⟨mm,hmm⟩ : ∃ q,mostOf c n = q := ⟨_,rfl⟩
 rw [hmm]
 unfold mostOf at hmm
 by_cases hc : c.ok
 ·
  have HQ : Hid (∀ w : World,Calls Tryz.prog 39 #[.agg #[.int .i64 c.cells,.int .i64 c.slots,.int .i64 c.bits,.int .i64 c.tag,.int .i64 c.bias,.int .i64 c.defer]] w fun e w' => e = .returned (.int .i64 0) ∧ Keeps [] w w') := fun w => by
   have := sp_check w c
   rw [if_pos hc] at this
   exact this
  have hs := hc.2.1
  by_cases h0 : n < 0
  ·
   rw [if_neg (fun h => by omega)] at hmm
   subst hmm
   have e0 : decide (n < 0) = true := decide_eq_true h0
   clear hc hs
   go_enter Tryz.func66,Tryz.ntmps66
   go_wp2_with fail
   refine (HQ.out _).mono ?_
   rintro e w1 ⟨rfl,hk1⟩
   have HK1 := Lib.hid (HK.out.trans hk1 (by simp))
   clear hk1
   go_wp2_with fail
   go_ret
   exact ⟨rfl,HK1.out⟩
  ·
   have e0 : decide (n < 0) = false := decide_eq_false h0
   by_cases h1 : n > 16
   ·
    rw [if_neg (fun h => by omega)] at hmm
    subst hmm
    have e1 : decide (16 < n) = true := decide_eq_true h1
    clear hc hs
    go_enter Tryz.func66,Tryz.ntmps66
    go_wp2_with fail
    refine (HQ.out _).mono ?_
    rintro e w1 ⟨rfl,hk1⟩
    have HK1 := Lib.hid (HK.out.trans hk1 (by simp))
    clear hk1
    go_wp2_with fail
    go_ret
    exact ⟨rfl,HK1.out⟩
   ·
    rw [if_pos ⟨hc,by omega,by omega⟩] at hmm
    have e1 : decide (16 < n) = false := decide_eq_false h1
    have w1 : IntKind.i64.wrap (c.slots - 1) = c.slots - 1 := by rw [IntKind.wrap_i64]; omega
    have w2 : IntKind.i64.wrap ((c.slots - 1) * 4) = (c.slots - 1) * 4 := by rw [IntKind.wrap_i64]; omega
    have w3 : IntKind.i64.wrap ((c.slots - 1) * 4 + n) = (c.slots - 1) * 4 + n := by rw [IntKind.wrap_i64]; omega
    have w4 : IntKind.i64.wrap ((c.slots - 1) * 4 + n + 3) = (c.slots - 1) * 4 + n + 3 := by rw [IntKind.wrap_i64]; omega
    subst hmm
    clear hc
    go_enter Tryz.func66,Tryz.ntmps66
    go_wp2_with fail
    refine (HQ.out _).mono ?_
    rintro e w1 ⟨rfl,hk1⟩
    have HK1 := Lib.hid (HK.out.trans hk1 (by simp))
    obtain ⟨d0,d1,d2,d3,d4,d5⟩ := cf_cells (HB.out.keeps hk1 (by simp))
    clear hk1
    go_wp2_with fail
    go_ret
    exact ⟨rfl,HK1.out⟩
 ·
  rw [if_neg (fun h => hc h.1)] at hmm
  subst hmm
  have HQ : Hid (∀ w : World,Calls Tryz.prog 39 #[.agg #[.int .i64 c.cells,.int .i64 c.slots,.int .i64 c.bits,.int .i64 c.tag,.int .i64 c.bias,.int .i64 c.defer]] w fun e w' => e = .returned (.int .i64 1) ∧ Keeps [] w w') := fun w => by
   have := sp_check w c
   rw [if_neg hc] at this
   exact this
  clear hc
  go_enter Tryz.func66,Tryz.ntmps66
  go_wp2_with fail
  refine (HQ.out _).mono ?_
  rintro e w1 ⟨rfl,hk1⟩
  have HK1 := Lib.hid (HK.out.trans hk1 (by simp))
  clear hk1
  go_wp2_with fail
  go_ret
  exact ⟨rfl,HK1.out⟩
end Go.Proofs.YtmlnedilbneekaaGreat