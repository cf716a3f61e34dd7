/- The document's table: its calls. -/
import Derived.Test.YtmlnedilbneekaaGreatSpF
import Derived.Test.YtmlnedilbneekaaGreatRefFill
import Derived.RegionTactic
import Derived.BigRegion
import Derived.Test.YtmlnedilbneekaaGreatMake
set_option linter.unusedVariables false
set_option linter.unusedSimpArgs false
namespace Go.Proofs.YtmlnedilbneekaaGreat
open Go.RowKit
theorem slc_set6 (l : List Sl) (i : Nat) (s : Sl) (hs : l[i]? = some s) (y : Hd) : ((((((l.flatMap Sl.cells).set (i * 8) (.int .i64 y.gen)).set (i * 8 + 1) (.int .i64 y.state)).set (i * 8 + 2) (.int .i64 y.stamp)).set (i * 8 + 3) (.int .i64 y.thread)).set (i * 8 + 4) (.bool y.doomed)).set (i * 8 + 5) (.int .i64 y.who) = (l.set i ⟨y,s.a,s.b⟩).flatMap Sl.cells := by
 induction l generalizing i with
 | nil => simp at hs
 | cons z l ih =>
   cases i with
   | zero => simp at hs; subst hs; simp [Sl.cells,RowH.cells]
   | succ i =>
     have e : (i + 1) * 8 = i * 8 + 1 + 1 + 1 + 1 + 1 + 1 + 1 + 1 := by omega
     rw [e]
     simp only [List.flatMap_cons,Sl.cells,RowH.cells,List.cons_append,List.nil_append,List.set_cons_succ]
     have h := ih i (by simpa using hs)
     rw [← h]
theorem slc_set8 (l : List Sl) (i : Nat) (s : Sl) : ((((((((l.flatMap Sl.cells).set (i * 8) (.int .i64 s.h.gen)).set (i * 8 + 1) (.int .i64 s.h.state)).set (i * 8 + 2) (.int .i64 s.h.stamp)).set (i * 8 + 3) (.int .i64 s.h.thread)).set (i * 8 + 4) (.bool s.h.doomed)).set (i * 8 + 5) (.int .i64 s.h.who)).set (i * 8 + 6) (.int .u64 s.a)).set (i * 8 + 7) (.int .u64 s.b) = (l.set i s).flatMap Sl.cells := by
 induction l generalizing i with
 | nil => simp
 | cons z l ih =>
   cases i with
   | zero => simp [Sl.cells,RowH.cells]
   | succ i =>
     have e : (i + 1) * 8 = i * 8 + 1 + 1 + 1 + 1 + 1 + 1 + 1 + 1 := by omega
     rw [e]
     simp only [List.flatMap_cons,Sl.cells,RowH.cells,List.cons_append,List.nil_append,List.set_cons_succ]
     have h := ih i
     rw [← h]
theorem slL_set_head : ∀ (H : List Hd) (W : List Int) (k : Nat) (x y : Hd) (a b : Int),W.length = 2 * H.length → H[k]? = some x → W[2 * k]? = some a → W[2 * k + 1]? = some b → slL (H.set k y) W = (slL H W).set k ⟨y,a,b⟩
 | [],_,k,_,_,_,_,_,h,_,_ => by simp at h
 | z :: H,[],k,_,_,_,_,e,_,_,_ => by simp at e
 | z :: H,[c],k,_,_,_,_,e,_,_,_ => by simp at e; omega
 | z :: H,c :: d :: W,0,x,y,a,b,e,h,h1,h2 => by simp at h h1 h2; subst h1 h2; rfl
 | z :: H,c :: d :: W,k + 1,x,y,a,b,e,h,h1,h2 => by
   have e1 : 2 * (k + 1) = 2 * k + 1 + 1 := by omega
   rw [e1] at h1 h2
   simp at h h1 h2
   have e2 : W.length = 2 * H.length := by simp at e; omega
   simp [slL,slL_set_head H W k x y a b e2 h h1 h2]
theorem slL_set_word0 : ∀ (H : List Hd) (W : List Int) (k : Nat) (x : Hd) (a b v : Int),W.length = 2 * H.length → H[k]? = some x → W[2 * k]? = some a → W[2 * k + 1]? = some b → slL H (W.set (2 * k) v) = (slL H W).set k ⟨x,v,b⟩
 | [],_,k,_,_,_,_,_,h,_,_ => by simp at h
 | z :: H,[],k,_,_,_,_,e,_,_,_ => by simp at e
 | z :: H,[c],k,_,_,_,_,e,_,_,_ => by simp at e; omega
 | z :: H,c :: d :: W,0,x,a,b,v,e,h,h1,h2 => by simp at h h1 h2; subst h h1 h2; rfl
 | z :: H,c :: d :: W,k + 1,x,a,b,v,e,h,h1,h2 => by
   have e1 : 2 * (k + 1) = 2 * k + 1 + 1 := by omega
   rw [e1] at h1 h2 ⊢
   simp at h h1 h2
   have e2 : W.length = 2 * H.length := by simp at e; omega
   simp [slL,slL_set_word0 H W k x a b v e2 h h1 h2]
theorem slL_set_word1 : ∀ (H : List Hd) (W : List Int) (k : Nat) (x : Hd) (a b v : Int),W.length = 2 * H.length → H[k]? = some x → W[2 * k]? = some a → W[2 * k + 1]? = some b → slL H (W.set (2 * k + 1) v) = (slL H W).set k ⟨x,a,v⟩
 | [],_,k,_,_,_,_,_,h,_,_ => by simp at h
 | z :: H,[],k,_,_,_,_,e,_,_,_ => by simp at e
 | z :: H,[c],k,_,_,_,_,e,_,_,_ => by simp at e; omega
 | z :: H,c :: d :: W,0,x,a,b,v,e,h,h1,h2 => by simp at h h1 h2; subst h h1 h2; rfl
 | z :: H,c :: d :: W,k + 1,x,a,b,v,e,h,h1,h2 => by
   have e1 : 2 * (k + 1) = 2 * k + 1 + 1 := by omega
   rw [e1] at h1 h2 ⊢
   simp at h h1 h2
   have e2 : W.length = 2 * H.length := by simp at e; omega
   simp [slL,slL_set_word1 H W k x a b v e2 h h1 h2]
structure RT (w : World) (z gx d : Nat) (H : List Hd) (W : List Int) : Prop where
 blk : Blk w z 207 #[.pointer (some ⟨gx,0,none⟩),.slice (some ⟨d,0,none⟩) H.length H.length]
 row : Blk w d 224 ((slL H W).flatMap Sl.cells).toArray
 len : W.length = 2 * H.length
 n1 : 1 ≤ H.length
 n8 : H.length ≤ 8
section
variable {w w1 w2 : World} {z gx d : Nat} {H H' : List Hd} {W W' : List Int} {k : Nat} {x : Hd} {lb : Nat} {s s' : MS}
theorem RT.keeps (h : RT w z gx d H W) {S : List Nat} (hk : Keeps S w w1) (h1 : z ∉ S) (h2 : d ∉ S) : RT w1 z gx d H W := ⟨h.blk.keeps hk h1,h.row.keeps hk h2,h.len,h.n1,h.n8⟩
theorem RT.zd (h : RT w z gx d H W) : z ≠ d := h.blk.ne_ h.row (by decide)
theorem RT.two (h : RT w z gx d H W) (hx : H[k]? = some x) : ∃ a b,W[2 * k]? = some a ∧ W[2 * k + 1]? = some b ∧ (slL H W)[k]? = some ⟨x,a,b⟩ := by
 have hk := (List.getElem?_eq_some_iff.1 hx).1
 have hl := h.len
 obtain ⟨a,ha⟩ : ∃ a,W[2 * k]? = some a := ⟨_,List.getElem?_eq_getElem (by omega)⟩
 obtain ⟨b,hb⟩ : ∃ a,W[2 * k + 1]? = some a := ⟨_,List.getElem?_eq_getElem (by omega)⟩
 exact ⟨a,b,ha,hb,slL_get H W k x a b hx ha hb⟩
theorem RT.at_ (h : RT w z gx d H W) {y : Sl} (hy : (slL H W)[k]? = some y) : ∀ j v,y.cells[j]? = some v → w.cell? ⟨d,k * 8 + j,none⟩ = some v := fun j v hv => (h.row.cell (k * 8 + j)).trans (by simpa using sl_get (slL H W) k y hy j v hv)
theorem RT.cells (h : RT w z gx d H W) (hx : H[k]? = some x) : w.cell? ⟨d,k * 8,none⟩ = some (.int .i64 x.gen) ∧ w.cell? ⟨d,k * 8 + 1,none⟩ = some (.int .i64 x.state) ∧ w.cell? ⟨d,k * 8 + 2,none⟩ = some (.int .i64 x.stamp) ∧ w.cell? ⟨d,k * 8 + 3,none⟩ = some (.int .i64 x.thread) ∧ w.cell? ⟨d,k * 8 + 4,none⟩ = some (.bool x.doomed) ∧ w.cell? ⟨d,k * 8 + 5,none⟩ = some (.int .i64 x.who) := by
 obtain ⟨a,b,_,_,hy⟩ := h.two hx
 exact ⟨h.at_ hy 0 _ rfl,h.at_ hy 1 _ rfl,h.at_ hy 2 _ rfl,h.at_ hy 3 _ rfl,h.at_ hy 4 _ rfl,h.at_ hy 5 _ rfl⟩
theorem RT.foot (h : RT w z gx d H W) {mp : Option Nat} (hm : MetAt XT w mp lb s) : z ∉ Go.Proofs.YtmlnedilbneekaaGreat.foot mp lb ∧ d ∉ Go.Proofs.YtmlnedilbneekaaGreat.foot mp lb := ⟨Go.Proofs.YtmlnedilbneekaaGreat.apart hm h.blk (by decide) (by decide),Go.Proofs.YtmlnedilbneekaaGreat.apart hm h.row (by decide) (by decide)⟩
theorem RT.noted (h : RT w z gx d H W) (hm : MetAt XT w (some gx) lb s) (hn : Noted XT (some gx) lb s' w w1) : RT w1 z gx d H W := by
 have ha := h.foot hm
 obtain ⟨_,_,hk,_⟩ := hn
 exact h.keeps hk ha.1 ha.2
theorem RT.put_head (h : RT w z gx d H W) (hx : H[k]? = some x) (y : Hd) : RT ((((((w.setCell ⟨d,k * 8,none⟩ (.int .i64 y.gen)).setCell ⟨d,k * 8 + 1,none⟩ (.int .i64 y.state)).setCell ⟨d,k * 8 + 2,none⟩ (.int .i64 y.stamp)).setCell ⟨d,k * 8 + 3,none⟩ (.int .i64 y.thread)).setCell ⟨d,k * 8 + 4,none⟩ (.bool y.doomed)).setCell ⟨d,k * 8 + 5,none⟩ (.int .i64 y.who)) z gx d (H.set k y) W := by
 obtain ⟨a,b,ha,hb,hy⟩ := h.two hx
 have hkz : Keeps [d] w ((((((w.setCell ⟨d,k * 8,none⟩ (.int .i64 y.gen)).setCell ⟨d,k * 8 + 1,none⟩ (.int .i64 y.state)).setCell ⟨d,k * 8 + 2,none⟩ (.int .i64 y.stamp)).setCell ⟨d,k * 8 + 3,none⟩ (.int .i64 y.thread)).setCell ⟨d,k * 8 + 4,none⟩ (.bool y.doomed)).setCell ⟨d,k * 8 + 5,none⟩ (.int .i64 y.who)) := (((((Sq.r.setCell (.inl (by simp)) _).setCell (.inl (by simp)) _).setCell (.inl (by simp)) _).setCell (.inl (by simp)) _).setCell (.inl (by simp)) _).setCell (.inl (by simp)) _
 refine ⟨?_,?_,by simpa using h.len,by simpa using h.n1,by simpa using h.n8⟩
 · have := h.blk.keeps hkz (by simpa using h.zd)
   simpa using this
 · have e : (((((((slL H W).flatMap Sl.cells).toArray.setIfInBounds (k * 8) (.int .i64 y.gen)).setIfInBounds (k * 8 + 1) (.int .i64 y.state)).setIfInBounds (k * 8 + 2) (.int .i64 y.stamp)).setIfInBounds (k * 8 + 3) (.int .i64 y.thread)).setIfInBounds (k * 8 + 4) (.bool y.doomed)).setIfInBounds (k * 8 + 5) (.int .i64 y.who) = ((slL (H.set k y) W).flatMap Sl.cells).toArray := by
    rw [slL_set_head H W k x y a b h.len hx ha hb,← slc_set6 (slL H W) k _ hy y]; simp
   refine (congrArg (Blk _ d 224) e).mp ?_
   exact (((((h.row.set_ (k * 8) (.int .i64 y.gen)).set_ (k * 8 + 1) (.int .i64 y.state)).set_ (k * 8 + 2) (.int .i64 y.stamp)).set_ (k * 8 + 3) (.int .i64 y.thread)).set_ (k * 8 + 4) (.bool y.doomed)).set_ (k * 8 + 5) (.int .i64 y.who)
theorem RT.put_slot (h : RT w z gx d H W) (y : Sl) (hL : slL H W' = (slL H W).set k y) (hl : W'.length = W.length) : RT ((((((((w.setCell ⟨d,k * 8,none⟩ (.int .i64 y.h.gen)).setCell ⟨d,k * 8 + 1,none⟩ (.int .i64 y.h.state)).setCell ⟨d,k * 8 + 2,none⟩ (.int .i64 y.h.stamp)).setCell ⟨d,k * 8 + 3,none⟩ (.int .i64 y.h.thread)).setCell ⟨d,k * 8 + 4,none⟩ (.bool y.h.doomed)).setCell ⟨d,k * 8 + 5,none⟩ (.int .i64 y.h.who)).setCell ⟨d,k * 8 + 6,none⟩ (.int .u64 y.a)).setCell ⟨d,k * 8 + 7,none⟩ (.int .u64 y.b)) z gx d H W' := by
 have hkz : Keeps [d] w ((((((((w.setCell ⟨d,k * 8,none⟩ (.int .i64 y.h.gen)).setCell ⟨d,k * 8 + 1,none⟩ (.int .i64 y.h.state)).setCell ⟨d,k * 8 + 2,none⟩ (.int .i64 y.h.stamp)).setCell ⟨d,k * 8 + 3,none⟩ (.int .i64 y.h.thread)).setCell ⟨d,k * 8 + 4,none⟩ (.bool y.h.doomed)).setCell ⟨d,k * 8 + 5,none⟩ (.int .i64 y.h.who)).setCell ⟨d,k * 8 + 6,none⟩ (.int .u64 y.a)).setCell ⟨d,k * 8 + 7,none⟩ (.int .u64 y.b)) := (((((((Sq.r.setCell (.inl (by simp)) _).setCell (.inl (by simp)) _).setCell (.inl (by simp)) _).setCell (.inl (by simp)) _).setCell (.inl (by simp)) _).setCell (.inl (by simp)) _).setCell (.inl (by simp)) _).setCell (.inl (by simp)) _
 refine ⟨?_,?_,by rw [hl]; exact h.len,h.n1,h.n8⟩
 · have := h.blk.keeps hkz (by simpa using h.zd)
   simpa using this
 · have e : (((((((((slL H W).flatMap Sl.cells).toArray.setIfInBounds (k * 8) (.int .i64 y.h.gen)).setIfInBounds (k * 8 + 1) (.int .i64 y.h.state)).setIfInBounds (k * 8 + 2) (.int .i64 y.h.stamp)).setIfInBounds (k * 8 + 3) (.int .i64 y.h.thread)).setIfInBounds (k * 8 + 4) (.bool y.h.doomed)).setIfInBounds (k * 8 + 5) (.int .i64 y.h.who)).setIfInBounds (k * 8 + 6) (.int .u64 y.a)).setIfInBounds (k * 8 + 7) (.int .u64 y.b) = ((slL H W').flatMap Sl.cells).toArray := by
    rw [hL,← slc_set8 (slL H W) k y]; simp
   refine (congrArg (Blk _ d 224) e).mp ?_
   exact (((((((h.row.set_ (k * 8) (.int .i64 y.h.gen)).set_ (k * 8 + 1) (.int .i64 y.h.state)).set_ (k * 8 + 2) (.int .i64 y.h.stamp)).set_ (k * 8 + 3) (.int .i64 y.h.thread)).set_ (k * 8 + 4) (.bool y.h.doomed)).set_ (k * 8 + 5) (.int .i64 y.h.who)).set_ (k * 8 + 6) (.int .u64 y.a)).set_ (k * 8 + 7) (.int .u64 y.b)
def RTLeft (z gx d : Nat) (H : List Hd) (W : List Int) (lb : Nat) (s : MS) (w w' : World) : Prop := RT w' z gx d H W ∧ ∃ lb',MetAt XT w' (some gx) lb' s ∧ Keeps (d :: Go.Proofs.YtmlnedilbneekaaGreat.foot (some gx) lb) w w' ∧ (lb' = lb ∨ w.heap.size ≤ lb')
theorem RT.left (h : RT w z gx d H W) (hm : MetAt XT w (some gx) lb s) {wa : World} (hk : Keeps [] w wa) (hn : Noted XT (some gx) lb s' wa w1) (h2 : RT w2 z gx d H' W') {S : List Nat} (hS : ∀ q,q ∈ S → q = d ∨ w.heap.size ≤ q ∧ (q < wa.heap.size ∨ w1.heap.size ≤ q)) (hk2 : Keeps S w1 w2) : RTLeft z gx d H' W' lb s' w w2 := by
 have hfz := h.foot hm
 have hdl := h.row.lt
 obtain ⟨lb',m1,hk1,hat⟩ := hn
 have hz := hk.size
 have hz1 := hk1.size
 have hg := foot_lt hm (k := gx) (by simp [Go.Proofs.YtmlnedilbneekaaGreat.foot])
 have hl := foot_lt hm (k := lb) (by simp [Go.Proofs.YtmlnedilbneekaaGreat.foot])
 have hl' := foot_lt m1 (k := lb') (by simp [Go.Proofs.YtmlnedilbneekaaGreat.foot])
 have hd1 : d ≠ gx ∧ d ≠ lb := by have := hfz.2; simp [Go.Proofs.YtmlnedilbneekaaGreat.foot] at this; omega
 refine ⟨h2,lb',m1.keeps hk2 (fun q hq hq2 => ?_),((hk.mono (T := d :: Go.Proofs.YtmlnedilbneekaaGreat.foot (some gx) lb) (by simp)).trans hk1 (fun q hq => .inl (List.mem_cons_of_mem _ hq))).trans hk2 (fun q hq => ?_),by omega⟩
 · have := hS q hq2
   simp only [Go.Proofs.YtmlnedilbneekaaGreat.foot,List.mem_cons,List.not_mem_nil,or_false] at hq
   omega
 · rcases hS q hq with rfl | h3
   · exact .inl (by simp)
   · exact .inr h3.1
end
open Go.RowKit
attribute [local go_sem] rd_c0 rd_c1 rd_c2 rd_c3 rd_c4 rd_c5 rd_free Option.isSome_some Option.getD_some
theorem rthr_yes (w : World) (n : Int) (h1 : 1 ≤ n) (h2 : n ≤ 8) : Calls Tryz.prog 70 #[.int .i64 n] w fun e w' => e = .returned (.bool true) ∧ w = w' := by
 go_enter Tryz.func70,Tryz.ntmps70
 go_wp2
 go_ret
 exact ⟨rfl,rfl⟩
theorem rthr_no (w : World) (n : Int) (h : n < 1 ∨ 8 < n) : Calls Tryz.prog 70 #[.int .i64 n] w fun e w' => e = .returned (.bool false) ∧ w = w' := by
 rcases h with h | h
 · have h1 : ¬ (1 ≤ n) := by omega
   go_enter Tryz.func70,Tryz.ntmps70
   go_wp2
   go_ret
   exact ⟨rfl,rfl⟩
 · have h1 : 1 ≤ n := by omega
   have h2 : ¬ (n ≤ 8) := by omega
   go_enter Tryz.func70,Tryz.ntmps70
   go_wp2
   go_ret
   exact ⟨rfl,rfl⟩
theorem rthere_yes (w : World) (z gx d : Nat) (H : List Hd) (W : List Int) (h : RT w z gx d H W) (k : Int) (h1 : 0 ≤ k) (h2 : k < H.length) : Calls Tryz.prog 128 #[.pointer (some ⟨z,0,none⟩),.int .i64 k] w fun e w' => e = .returned (.bool true) ∧ w = w' := by
 have c1 : w.cell? ⟨z,1,none⟩ = some (.slice (some ⟨d,0,none⟩) H.length H.length) := (h.blk.cell 1).trans rfl
 clear h
 go_enter Tryz.func128,Tryz.ntmps128
 go_wp2_with fail
 go_ret
 exact ⟨rfl,rfl⟩
theorem rthere_no (w : World) (z gx d : Nat) (H : List Hd) (W : List Int) (h : RT w z gx d H W) (k : Int) (hk : k < 0 ∨ (H.length : Int) ≤ k) : Calls Tryz.prog 128 #[.pointer (some ⟨z,0,none⟩),.int .i64 k] w fun e w' => e = .returned (.bool false) ∧ w = w' := by
 have c1 : w.cell? ⟨z,1,none⟩ = some (.slice (some ⟨d,0,none⟩) H.length H.length) := (h.blk.cell 1).trans rfl
 clear h
 by_cases h0 : 0 ≤ k
 ·
  have h1 : ¬ (k < (H.length : Int)) := by omega
  have hd : decide (k < (H.length : Int)) = false := decide_eq_false h1
  clear hk
  go_enter Tryz.func128,Tryz.ntmps128
  go_wp2_with fail
  go_ret
  exact ⟨by simp,rfl⟩
 · clear hk
   go_enter Tryz.func128,Tryz.ntmps128
   go_wp2_with fail
   go_ret
   exact ⟨rfl,rfl⟩
theorem rnote6 (w : World) (z gx d : Nat) (H : List Hd) (W : List Int) (h : RT w z gx d H W) (lb : Nat) (s : MS) (hm : MetAt XT w (some gx) lb s) (hl : s.log.length < 2199023255552) (a p o : Int) (y : Bool) :
 Calls Tryz.prog 129 #[.pointer (some ⟨z,0,none⟩),.int .i64 a,.int .i64 p,.int .i64 o,.bool y] w fun e w' => e = .returned (.tuple #[]) ∧ Noted XT (some gx) lb (s.note a p o y) w w' := by
 have c0 : w.cell? ⟨z,0,none⟩ = some (.pointer (some ⟨gx,0,none⟩)) := (h.blk.cell 0).trans rfl
 have HN := Lib.hid (RefM.note_any w gx lb s hm a p o y hl)
 clear h hm hl
 go_enter Tryz.func129,Tryz.ntmps129
 go_wp2_with fail
 refine HN.out.mono ?_
 rintro e w1 ⟨rfl,hn⟩
 have HN2 := Lib.hid hn
 clear hn
 go_wp2_with fail
 first
  | go_returns
  | go_end0
 exact ⟨rfl,HN2.out⟩
theorem rd_ready {w : World} {z : Nat} {x : Hd} (h : rd w z = some x) (st : Int) : rd ((w.setCell ⟨z,1,none⟩ (.int .i64 2)).setCell ⟨z,2,none⟩ (.int .i64 st)) z = some ⟨x.gen,2,st,x.thread,x.doomed,x.who⟩ := by
 refine rd_of ?_
 have h1 := ((rd_iff.1 h).set_ 1 (.int .i64 2)).set_ 2 (.int .i64 st)
 simpa [hcs] using h1
theorem rd_doomed {w : World} {z : Nat} {x : Hd} (h : rd w z = some x) (b : Int) : rd ((w.setCell ⟨z,4,none⟩ (.bool true)).setCell ⟨z,5,none⟩ (.int .i64 b)) z = some ⟨x.gen,x.state,x.stamp,x.thread,true,b⟩ := by
 refine rd_of ?_
 have h1 := ((rd_iff.1 h).set_ 4 (.bool true)).set_ 5 (.int .i64 b)
 simpa [hcs] using h1
set_option maxRecDepth 100000 in
set_option maxHeartbeats 1000000 in
theorem rclaim_ok (w : World) (z gx d : Nat) (H : List Hd) (W : List Int) (h : RT w z gx d H W) (lb : Nat) (s : MS) (hm : MetAt XT w (some gx) lb s) (hl : s.log.length < 2199023255552) (k : Nat) (x : Hd) (hx : H[k]? = some x) (th : Int) (t1 : 1 ≤ th) (t2 : th ≤ 8) (g0 : 0 ≤ x.gen) (g1 : x.gen ≤ 4611686018427387904) (h0 : x.state = 0) :
 Calls Tryz.prog 86 #[.pointer (some ⟨z,0,none⟩),.int .i64 k,.int .i64 th] w fun e w' => e = .returned (.tuple #[.int .i64 (x.gen + 1),.int .i64 0]) ∧ RTLeft z gx d (H.set k ⟨x.gen + 1,1,0,th,false,0⟩) W lb (s.note 3 k 3 true) w w' := by
 obtain ⟨xg,xs,xp,xt,xd,xw⟩ := x
 simp only at g0
 simp only at g1
 simp only at h0
 subst h0
 have hk : k < H.length := (List.getElem?_eq_some_iff.1 hx).1
 have k0 : (0 : Int) ≤ (k : Int) := by omega
 have kl : (k : Int) < (H.length : Int) := by omega
 have c1 : w.cell? ⟨z,1,none⟩ = some (.slice (some ⟨d,0,none⟩) H.length H.length) := (h.blk.cell 1).trans rfl
 obtain ⟨l0,l1,l2,l3,l4,l5⟩ := h.cells hx
 have ka : Keeps [] w (w.alloc (.cells #[.int .i64 xg,.int .i64 0,.int .i64 xp,.int .i64 xt,.bool xd,.int .i64 xw] 115)) := Sq.r.alloc _
 have HT := Lib.hid (rthere_yes w z gx d H W h k k0 kl)
 have HN := Lib.hid (rnote6 _ z gx d H W (h.keeps ka (by simp) (by simp)) lb s (hm.keeps ka (by simp)) hl 3 k 3 true)
 have RZ := Lib.hid (rd_new w ⟨xg,0,xp,xt,xd,xw⟩)
 have Hh := Lib.hid h
 have HM := Lib.hid hm
 have HX := Lib.hid hx
 have KA := Lib.hid ka
 have hzl := h.blk.lt
 have hdl := h.row.lt
 have nz : z ≠ w.heap.size := by omega
 have nd : d ≠ w.heap.size := by omega
 have nz' := nz.symm
 have nd' := nd.symm
 have hzd := h.zd
 have hzd' := hzd.symm
 clear h hm hl hx ka
 go_enter Tryz.func86,Tryz.ntmps86
 go_wp2_with fail
 refine (rthr_yes _ th t1 t2).mono ?_
 rintro e wa ⟨rfl,rfl⟩
 go_wp2_with fail
 refine HT.out.mono ?_
 rintro e wa ⟨rfl,rfl⟩
 go_wp2_with fail
 refine HN.out.mono ?_
 rintro e w1 ⟨rfl,hn⟩
 have h1 := (Hh.out.keeps KA.out (by simp) (by simp)).noted (HM.out.keeps KA.out (by simp)) hn
 have d1 : w1.cell? ⟨z,1,none⟩ = some (.slice (some ⟨d,0,none⟩) H.length H.length) := (h1.blk.cell 1).trans rfl
 obtain ⟨m0,m1,m2,m3,m4,m5⟩ := h1.cells HX.out
 have f0 := h1.row.frozen (k * 8)
 have f1 := h1.row.frozen (k * 8 + 1)
 have f2 := h1.row.frozen (k * 8 + 2)
 have f3 := h1.row.frozen (k * 8 + 3)
 have f4 := h1.row.frozen (k * 8 + 4)
 have f5 := h1.row.frozen (k * 8 + 5)
 have r1 : rd w1 w.heap.size = some ⟨xg,0,xp,xt,xd,xw⟩ := by
  obtain ⟨_,_,hkn,_⟩ := hn
  exact rd_keeps RZ.out hkn (fun hq => by have := foot_lt HM.out hq; omega)
 have H1 := Lib.hid h1
 have HN2 := Lib.hid hn
 have R1 := Lib.hid r1
 clear hn h1 c1 l0 l1 l2 l3 l4 l5 HN HT
 go_wp2_with fail
 go_region
 go_wp2_with fail
 go_ret2
 exact ⟨rfl,Hh.out.left HM.out KA.out HN2.out ((H1.out.put_head HX.out ⟨xg + 1,1,0,th,false,0⟩).keeps (Keeps.refl [] _).drew (by simp) (by simp)) (S := [d,w.heap.size]) (fun q hq => by simp only [List.mem_cons,List.not_mem_nil,or_false] at hq; rcases hq with rfl | rfl; exact .inl rfl; exact .inr ⟨Nat.le_refl _,.inl (by simp)⟩) (((((((Sq.r.setCell (.inl (by simp)) _).setCell (.inl (by simp)) _).setCell (.inl (by simp)) _).setCell (.inl (by simp)) _).setCell (.inl (by simp)) _).setCell (.inl (by simp)) _).drew)⟩
set_option maxRecDepth 100000 in
set_option maxHeartbeats 1000000 in
theorem rclaim_held (w : World) (z gx d : Nat) (H : List Hd) (W : List Int) (h : RT w z gx d H W) (lb : Nat) (s : MS) (hm : MetAt XT w (some gx) lb s) (hl : s.log.length < 2199023255552) (k : Nat) (x : Hd) (hx : H[k]? = some x) (th : Int) (t1 : 1 ≤ th) (t2 : th ≤ 8) (h0 : ¬ x.state = 0) :
 Calls Tryz.prog 86 #[.pointer (some ⟨z,0,none⟩),.int .i64 k,.int .i64 th] w fun e w' => e = .returned (.tuple #[.int .i64 0,.int .i64 5]) ∧ RTLeft z gx d H W lb (s.note 3 k 3 false) w w' := by
 obtain ⟨xg,xs,xp,xt,xd,xw⟩ := x
 simp only at h0
 have eh01 : (xs == 0) = false := by simpa using h0
 have eh02 : (xs != 0) = true := by simpa using h0
 have hk : k < H.length := (List.getElem?_eq_some_iff.1 hx).1
 have k0 : (0 : Int) ≤ (k : Int) := by omega
 have kl : (k : Int) < (H.length : Int) := by omega
 have c1 : w.cell? ⟨z,1,none⟩ = some (.slice (some ⟨d,0,none⟩) H.length H.length) := (h.blk.cell 1).trans rfl
 obtain ⟨l0,l1,l2,l3,l4,l5⟩ := h.cells hx
 have ka : Keeps [] w (w.alloc (.cells #[.int .i64 xg,.int .i64 xs,.int .i64 xp,.int .i64 xt,.bool xd,.int .i64 xw] 115)) := Sq.r.alloc _
 have HT := Lib.hid (rthere_yes w z gx d H W h k k0 kl)
 have HN := Lib.hid (rnote6 _ z gx d H W (h.keeps ka (by simp) (by simp)) lb s (hm.keeps ka (by simp)) hl 3 k 3 false)
 have RZ := Lib.hid (rd_new w ⟨xg,xs,xp,xt,xd,xw⟩)
 have Hh := Lib.hid h
 have HM := Lib.hid hm
 have HX := Lib.hid hx
 have KA := Lib.hid ka
 have hzl := h.blk.lt
 have hdl := h.row.lt
 have nz : z ≠ w.heap.size := by omega
 have nd : d ≠ w.heap.size := by omega
 have nz' := nz.symm
 have nd' := nd.symm
 have hzd := h.zd
 have hzd' := hzd.symm
 clear h hm hl hx ka
 go_enter Tryz.func86,Tryz.ntmps86
 go_wp2_with fail
 refine (rthr_yes _ th t1 t2).mono ?_
 rintro e wa ⟨rfl,rfl⟩
 go_wp2_with fail
 refine HT.out.mono ?_
 rintro e wa ⟨rfl,rfl⟩
 go_wp2_with fail
 refine HN.out.mono ?_
 rintro e w1 ⟨rfl,hn⟩
 have h1 := (Hh.out.keeps KA.out (by simp) (by simp)).noted (HM.out.keeps KA.out (by simp)) hn
 have d1 : w1.cell? ⟨z,1,none⟩ = some (.slice (some ⟨d,0,none⟩) H.length H.length) := (h1.blk.cell 1).trans rfl
 obtain ⟨m0,m1,m2,m3,m4,m5⟩ := h1.cells HX.out
 have f0 := h1.row.frozen (k * 8)
 have f1 := h1.row.frozen (k * 8 + 1)
 have f2 := h1.row.frozen (k * 8 + 2)
 have f3 := h1.row.frozen (k * 8 + 3)
 have f4 := h1.row.frozen (k * 8 + 4)
 have f5 := h1.row.frozen (k * 8 + 5)
 have r1 : rd w1 w.heap.size = some ⟨xg,xs,xp,xt,xd,xw⟩ := by
  obtain ⟨_,_,hkn,_⟩ := hn
  exact rd_keeps RZ.out hkn (fun hq => by have := foot_lt HM.out hq; omega)
 have H1 := Lib.hid h1
 have HN2 := Lib.hid hn
 have R1 := Lib.hid r1
 clear hn h1 c1 l0 l1 l2 l3 l4 l5 HN HT
 go_wp2_with fail
 go_ret2
 exact ⟨rfl,Hh.out.left HM.out KA.out HN2.out H1.out (S := []) (by simp) Sq.r⟩
theorem rclaim_bad (w : World) (z : Nat) (k : Int) (th : Int) (ht : th < 1 ∨ 8 < th) :
 Calls Tryz.prog 86 #[.pointer (some ⟨z,0,none⟩),.int .i64 k,.int .i64 th] w fun e w' => e = .returned (.tuple #[.int .i64 0,.int .i64 1]) ∧ w = w' := by
 have QT := Lib.hid (rthr_no w th ht)
 clear ht
 go_enter Tryz.func86,Tryz.ntmps86
 go_wp2_with fail
 refine QT.out.mono ?_
 rintro e wa ⟨rfl,rfl⟩
 go_wp2_with fail
 go_ret2
 exact ⟨rfl,rfl⟩
theorem rclaim_place (w : World) (z gx d : Nat) (H : List Hd) (W : List Int) (h : RT w z gx d H W) (k : Int) (hk : k < 0 ∨ (H.length : Int) ≤ k) (th : Int) (t1 : 1 ≤ th) (t2 : th ≤ 8) :
 Calls Tryz.prog 86 #[.pointer (some ⟨z,0,none⟩),.int .i64 k,.int .i64 th] w fun e w' => e = .returned (.tuple #[.int .i64 0,.int .i64 2]) ∧ w = w' := by
 have QT := Lib.hid (rthere_no w z gx d H W h k hk)
 clear h hk
 go_enter Tryz.func86,Tryz.ntmps86
 go_wp2_with fail
 refine (rthr_yes _ th t1 t2).mono ?_
 rintro e wa ⟨rfl,rfl⟩
 go_wp2_with fail
 refine QT.out.mono ?_
 rintro e wb ⟨rfl,rfl⟩
 go_wp2_with fail
 go_ret2
 exact ⟨rfl,rfl⟩
set_option maxRecDepth 100000 in
set_option maxHeartbeats 1000000 in
theorem rready_ok (w : World) (z gx d : Nat) (H : List Hd) (W : List Int) (h : RT w z gx d H W) (lb : Nat) (s : MS) (hm : MetAt XT w (some gx) lb s) (hl : s.log.length < 2199023255552) (k : Nat) (x : Hd) (hx : H[k]? = some x) (g st : Int) (t1 : 1 ≤ st) (h0 : x.state = 1) (h1 : x.gen = g) :
 Calls Tryz.prog 87 #[.pointer (some ⟨z,0,none⟩),.int .i64 k,.int .i64 g,.int .i64 st] w fun e w' => e = .returned (.int .i64 0) ∧ RTLeft z gx d (H.set k ⟨x.gen,2,st,x.thread,x.doomed,x.who⟩) W lb (s.note 3 k 3 true) w w' := by
 obtain ⟨xg,xs,xp,xt,xd,xw⟩ := x
 simp only at h0
 simp only at h1
 subst h0
 subst h1
 have hk : k < H.length := (List.getElem?_eq_some_iff.1 hx).1
 have k0 : (0 : Int) ≤ (k : Int) := by omega
 have kl : (k : Int) < (H.length : Int) := by omega
 have c1 : w.cell? ⟨z,1,none⟩ = some (.slice (some ⟨d,0,none⟩) H.length H.length) := (h.blk.cell 1).trans rfl
 obtain ⟨l0,l1,l2,l3,l4,l5⟩ := h.cells hx
 have ka : Keeps [] w (w.alloc (.cells #[.int .i64 xg,.int .i64 1,.int .i64 xp,.int .i64 xt,.bool xd,.int .i64 xw] 115)) := Sq.r.alloc _
 have HT := Lib.hid (rthere_yes w z gx d H W h k k0 kl)
 have HN := Lib.hid (rnote6 _ z gx d H W (h.keeps ka (by simp) (by simp)) lb s (hm.keeps ka (by simp)) hl 3 k 3 true)
 have RZ := Lib.hid (rd_new w ⟨xg,1,xp,xt,xd,xw⟩)
 have Hh := Lib.hid h
 have HM := Lib.hid hm
 have HX := Lib.hid hx
 have KA := Lib.hid ka
 have hzl := h.blk.lt
 have hdl := h.row.lt
 have nz : z ≠ w.heap.size := by omega
 have nd : d ≠ w.heap.size := by omega
 have nz' := nz.symm
 have nd' := nd.symm
 have hzd := h.zd
 have hzd' := hzd.symm
 clear h hm hl hx ka
 go_enter Tryz.func87,Tryz.ntmps87
 go_wp2_with fail
 refine HT.out.mono ?_
 rintro e wa ⟨rfl,rfl⟩
 go_wp2_with fail
 refine HN.out.mono ?_
 rintro e w1 ⟨rfl,hn⟩
 have h1 := (Hh.out.keeps KA.out (by simp) (by simp)).noted (HM.out.keeps KA.out (by simp)) hn
 have d1 : w1.cell? ⟨z,1,none⟩ = some (.slice (some ⟨d,0,none⟩) H.length H.length) := (h1.blk.cell 1).trans rfl
 obtain ⟨m0,m1,m2,m3,m4,m5⟩ := h1.cells HX.out
 have f0 := h1.row.frozen (k * 8)
 have f1 := h1.row.frozen (k * 8 + 1)
 have f2 := h1.row.frozen (k * 8 + 2)
 have f3 := h1.row.frozen (k * 8 + 3)
 have f4 := h1.row.frozen (k * 8 + 4)
 have f5 := h1.row.frozen (k * 8 + 5)
 have r1 : rd w1 w.heap.size = some ⟨xg,1,xp,xt,xd,xw⟩ := by
  obtain ⟨_,_,hkn,_⟩ := hn
  exact rd_keeps RZ.out hkn (fun hq => by have := foot_lt HM.out hq; omega)
 have H1 := Lib.hid h1
 have HN2 := Lib.hid hn
 have R1 := Lib.hid r1
 clear hn h1 c1 l0 l1 l2 l3 l4 l5 HN HT
 go_upto_region 12 with fail
 have hk2 : Keeps [w.heap.size] w1 ((w1.setCell ⟨w.heap.size,1,none⟩ (.int .i64 2)).setCell ⟨w.heap.size,2,none⟩ (.int .i64 st)) := (Sq.r.setCell (.inl (by simp)) _).setCell (.inl (by simp)) _
 have r2 : rd ((w1.setCell ⟨w.heap.size,1,none⟩ (.int .i64 2)).setCell ⟨w.heap.size,2,none⟩ (.int .i64 st)) w.heap.size = some ⟨xg,2,st,xt,xd,xw⟩ := rd_ready r1 st
 have h2 := H1.out.keeps hk2 (by simpa using nz) (by simpa using nd)
 have KK2 := Lib.hid hk2
 have H2 := Lib.hid h2
 clear d1 m0 m1 m2 m3 m4 m5 f0 f1 f2 f3 f4 f5 r1
 generalize hw2 : ((w1.setCell ⟨w.heap.size,1,none⟩ (.int .i64 2)).setCell ⟨w.heap.size,2,none⟩ (.int .i64 st)) = w2 at *
 clear hw2
 have d2 : w2.cell? ⟨z,1,none⟩ = some (.slice (some ⟨d,0,none⟩) H.length H.length) := (h2.blk.cell 1).trans rfl
 obtain ⟨n0,n1,n2,n3,n4,n5⟩ := h2.cells HX.out
 have f0 := h2.row.frozen (k * 8)
 have f1 := h2.row.frozen (k * 8 + 1)
 have f2 := h2.row.frozen (k * 8 + 2)
 have f3 := h2.row.frozen (k * 8 + 3)
 have f4 := h2.row.frozen (k * 8 + 4)
 have f5 := h2.row.frozen (k * 8 + 5)
 clear h2 hk2
 go_wp2_with fail
 go_region
 go_wp2_with fail
 go_ret
 exact ⟨rfl,Hh.out.left HM.out KA.out HN2.out ((H2.out.put_head HX.out ⟨xg,2,st,xt,xd,xw⟩).keeps (Keeps.refl [] _).drew (by simp) (by simp)) (S := [d,w.heap.size]) (fun q hq => by simp only [List.mem_cons,List.not_mem_nil,or_false] at hq; rcases hq with rfl | rfl; exact .inl rfl; exact .inr ⟨Nat.le_refl _,.inl (by simp)⟩) (((KK2.out.mono (T := [d,w.heap.size]) (by simp)).trans ((((((Sq.r.setCell (.inl (by simp)) _).setCell (.inl (by simp)) _).setCell (.inl (by simp)) _).setCell (.inl (by simp)) _).setCell (.inl (by simp)) _).setCell (.inl (by simp)) _ : Keeps [d] w2 _) (fun q hq => .inl (by simp at hq; simp [hq]))).drew)⟩
set_option maxRecDepth 100000 in
set_option maxHeartbeats 1000000 in
theorem rready_no (w : World) (z gx d : Nat) (H : List Hd) (W : List Int) (h : RT w z gx d H W) (lb : Nat) (s : MS) (hm : MetAt XT w (some gx) lb s) (hl : s.log.length < 2199023255552) (k : Nat) (x : Hd) (hx : H[k]? = some x) (g st : Int) (t1 : 1 ≤ st) (h0 : x.state = 1) (h1 : ¬ x.gen = g) :
 Calls Tryz.prog 87 #[.pointer (some ⟨z,0,none⟩),.int .i64 k,.int .i64 g,.int .i64 st] w fun e w' => e = .returned (.int .i64 4) ∧ RTLeft z gx d H W lb (s.note 3 k 3 false) w w' := by
 obtain ⟨xg,xs,xp,xt,xd,xw⟩ := x
 simp only at h0
 simp only at h1
 subst h0
 have eh11 : (xg == g) = false := by simpa using h1
 have eh12 : (xg != g) = true := by simpa using h1
 have hk : k < H.length := (List.getElem?_eq_some_iff.1 hx).1
 have k0 : (0 : Int) ≤ (k : Int) := by omega
 have kl : (k : Int) < (H.length : Int) := by omega
 have c1 : w.cell? ⟨z,1,none⟩ = some (.slice (some ⟨d,0,none⟩) H.length H.length) := (h.blk.cell 1).trans rfl
 obtain ⟨l0,l1,l2,l3,l4,l5⟩ := h.cells hx
 have ka : Keeps [] w (w.alloc (.cells #[.int .i64 xg,.int .i64 1,.int .i64 xp,.int .i64 xt,.bool xd,.int .i64 xw] 115)) := Sq.r.alloc _
 have HT := Lib.hid (rthere_yes w z gx d H W h k k0 kl)
 have HN := Lib.hid (rnote6 _ z gx d H W (h.keeps ka (by simp) (by simp)) lb s (hm.keeps ka (by simp)) hl 3 k 3 false)
 have RZ := Lib.hid (rd_new w ⟨xg,1,xp,xt,xd,xw⟩)
 have Hh := Lib.hid h
 have HM := Lib.hid hm
 have HX := Lib.hid hx
 have KA := Lib.hid ka
 have hzl := h.blk.lt
 have hdl := h.row.lt
 have nz : z ≠ w.heap.size := by omega
 have nd : d ≠ w.heap.size := by omega
 have nz' := nz.symm
 have nd' := nd.symm
 have hzd := h.zd
 have hzd' := hzd.symm
 clear h hm hl hx ka
 go_enter Tryz.func87,Tryz.ntmps87
 go_wp2_with fail
 refine HT.out.mono ?_
 rintro e wa ⟨rfl,rfl⟩
 go_wp2_with fail
 refine HN.out.mono ?_
 rintro e w1 ⟨rfl,hn⟩
 have h1 := (Hh.out.keeps KA.out (by simp) (by simp)).noted (HM.out.keeps KA.out (by simp)) hn
 have d1 : w1.cell? ⟨z,1,none⟩ = some (.slice (some ⟨d,0,none⟩) H.length H.length) := (h1.blk.cell 1).trans rfl
 obtain ⟨m0,m1,m2,m3,m4,m5⟩ := h1.cells HX.out
 have f0 := h1.row.frozen (k * 8)
 have f1 := h1.row.frozen (k * 8 + 1)
 have f2 := h1.row.frozen (k * 8 + 2)
 have f3 := h1.row.frozen (k * 8 + 3)
 have f4 := h1.row.frozen (k * 8 + 4)
 have f5 := h1.row.frozen (k * 8 + 5)
 have r1 : rd w1 w.heap.size = some ⟨xg,1,xp,xt,xd,xw⟩ := by
  obtain ⟨_,_,hkn,_⟩ := hn
  exact rd_keeps RZ.out hkn (fun hq => by have := foot_lt HM.out hq; omega)
 have H1 := Lib.hid h1
 have HN2 := Lib.hid hn
 have R1 := Lib.hid r1
 clear hn h1 c1 l0 l1 l2 l3 l4 l5 HN HT
 go_wp2_with fail
 go_ret
 exact ⟨rfl,Hh.out.left HM.out KA.out HN2.out H1.out (S := []) (by simp) Sq.r⟩
set_option maxRecDepth 100000 in
set_option maxHeartbeats 1000000 in
theorem rready_not (w : World) (z gx d : Nat) (H : List Hd) (W : List Int) (h : RT w z gx d H W) (lb : Nat) (s : MS) (hm : MetAt XT w (some gx) lb s) (hl : s.log.length < 2199023255552) (k : Nat) (x : Hd) (hx : H[k]? = some x) (g st : Int) (t1 : 1 ≤ st) (h0 : ¬ x.state = 1) :
 Calls Tryz.prog 87 #[.pointer (some ⟨z,0,none⟩),.int .i64 k,.int .i64 g,.int .i64 st] w fun e w' => e = .returned (.int .i64 4) ∧ RTLeft z gx d H W lb (s.note 3 k 3 false) w w' := by
 obtain ⟨xg,xs,xp,xt,xd,xw⟩ := x
 simp only at h0
 have eh01 : (xs == 1) = false := by simpa using h0
 have eh02 : (xs != 1) = true := by simpa using h0
 have hk : k < H.length := (List.getElem?_eq_some_iff.1 hx).1
 have k0 : (0 : Int) ≤ (k : Int) := by omega
 have kl : (k : Int) < (H.length : Int) := by omega
 have c1 : w.cell? ⟨z,1,none⟩ = some (.slice (some ⟨d,0,none⟩) H.length H.length) := (h.blk.cell 1).trans rfl
 obtain ⟨l0,l1,l2,l3,l4,l5⟩ := h.cells hx
 have ka : Keeps [] w (w.alloc (.cells #[.int .i64 xg,.int .i64 xs,.int .i64 xp,.int .i64 xt,.bool xd,.int .i64 xw] 115)) := Sq.r.alloc _
 have HT := Lib.hid (rthere_yes w z gx d H W h k k0 kl)
 have HN := Lib.hid (rnote6 _ z gx d H W (h.keeps ka (by simp) (by simp)) lb s (hm.keeps ka (by simp)) hl 3 k 3 false)
 have RZ := Lib.hid (rd_new w ⟨xg,xs,xp,xt,xd,xw⟩)
 have Hh := Lib.hid h
 have HM := Lib.hid hm
 have HX := Lib.hid hx
 have KA := Lib.hid ka
 have hzl := h.blk.lt
 have hdl := h.row.lt
 have nz : z ≠ w.heap.size := by omega
 have nd : d ≠ w.heap.size := by omega
 have nz' := nz.symm
 have nd' := nd.symm
 have hzd := h.zd
 have hzd' := hzd.symm
 clear h hm hl hx ka
 go_enter Tryz.func87,Tryz.ntmps87
 go_wp2_with fail
 refine HT.out.mono ?_
 rintro e wa ⟨rfl,rfl⟩
 go_wp2_with fail
 refine HN.out.mono ?_
 rintro e w1 ⟨rfl,hn⟩
 have h1 := (Hh.out.keeps KA.out (by simp) (by simp)).noted (HM.out.keeps KA.out (by simp)) hn
 have d1 : w1.cell? ⟨z,1,none⟩ = some (.slice (some ⟨d,0,none⟩) H.length H.length) := (h1.blk.cell 1).trans rfl
 obtain ⟨m0,m1,m2,m3,m4,m5⟩ := h1.cells HX.out
 have f0 := h1.row.frozen (k * 8)
 have f1 := h1.row.frozen (k * 8 + 1)
 have f2 := h1.row.frozen (k * 8 + 2)
 have f3 := h1.row.frozen (k * 8 + 3)
 have f4 := h1.row.frozen (k * 8 + 4)
 have f5 := h1.row.frozen (k * 8 + 5)
 have r1 : rd w1 w.heap.size = some ⟨xg,xs,xp,xt,xd,xw⟩ := by
  obtain ⟨_,_,hkn,_⟩ := hn
  exact rd_keeps RZ.out hkn (fun hq => by have := foot_lt HM.out hq; omega)
 have H1 := Lib.hid h1
 have HN2 := Lib.hid hn
 have R1 := Lib.hid r1
 clear hn h1 c1 l0 l1 l2 l3 l4 l5 HN HT
 go_wp2_with fail
 go_ret
 exact ⟨rfl,Hh.out.left HM.out KA.out HN2.out H1.out (S := []) (by simp) Sq.r⟩
theorem rready_bad (w : World) (z : Nat) (k : Int) (g st : Int) (ht : st < 1) :
 Calls Tryz.prog 87 #[.pointer (some ⟨z,0,none⟩),.int .i64 k,.int .i64 g,.int .i64 st] w fun e w' => e = .returned (.int .i64 1) ∧ w = w' := by
 go_enter Tryz.func87,Tryz.ntmps87
 go_wp2_with fail
 go_ret
 exact ⟨rfl,rfl⟩
theorem rready_place (w : World) (z gx d : Nat) (H : List Hd) (W : List Int) (h : RT w z gx d H W) (k : Int) (hk : k < 0 ∨ (H.length : Int) ≤ k) (g st : Int) (t1 : 1 ≤ st) :
 Calls Tryz.prog 87 #[.pointer (some ⟨z,0,none⟩),.int .i64 k,.int .i64 g,.int .i64 st] w fun e w' => e = .returned (.int .i64 2) ∧ w = w' := by
 have QT := Lib.hid (rthere_no w z gx d H W h k hk)
 clear h hk
 go_enter Tryz.func87,Tryz.ntmps87
 go_wp2_with fail
 refine QT.out.mono ?_
 rintro e wb ⟨rfl,rfl⟩
 go_wp2_with fail
 go_ret
 exact ⟨rfl,rfl⟩
set_option maxRecDepth 100000 in
set_option maxHeartbeats 1000000 in
theorem rdoom_new (w : World) (z gx d : Nat) (H : List Hd) (W : List Int) (h : RT w z gx d H W) (lb : Nat) (s : MS) (hm : MetAt XT w (some gx) lb s) (hl : s.log.length < 2199023255552) (k : Nat) (x : Hd) (hx : H[k]? = some x) (g b : Int) (t1 : 1 ≤ b) (t2 : b ≤ 8) (h0 : x.state = 2) (h1 : x.gen = g) (hd : x.doomed = false) :
 Calls Tryz.prog 89 #[.pointer (some ⟨z,0,none⟩),.int .i64 k,.int .i64 g,.int .i64 b] w fun e w' => e = .returned (.int .i64 0) ∧ RTLeft z gx d (H.set k ⟨x.gen,x.state,x.stamp,x.thread,true,b⟩) W lb (s.note 3 k 3 true) w w' := by
 obtain ⟨xg,xs,xp,xt,xd,xw⟩ := x
 simp only at h0
 simp only at h1
 simp only at hd
 subst h0
 subst h1
 subst hd
 have hk : k < H.length := (List.getElem?_eq_some_iff.1 hx).1
 have k0 : (0 : Int) ≤ (k : Int) := by omega
 have kl : (k : Int) < (H.length : Int) := by omega
 have c1 : w.cell? ⟨z,1,none⟩ = some (.slice (some ⟨d,0,none⟩) H.length H.length) := (h.blk.cell 1).trans rfl
 obtain ⟨l0,l1,l2,l3,l4,l5⟩ := h.cells hx
 have ka : Keeps [] w (w.alloc (.cells #[.int .i64 xg,.int .i64 2,.int .i64 xp,.int .i64 xt,.bool false,.int .i64 xw] 115)) := Sq.r.alloc _
 have HT := Lib.hid (rthere_yes w z gx d H W h k k0 kl)
 have HN := Lib.hid (rnote6 _ z gx d H W (h.keeps ka (by simp) (by simp)) lb s (hm.keeps ka (by simp)) hl 3 k 3 true)
 have RZ := Lib.hid (rd_new w ⟨xg,2,xp,xt,false,xw⟩)
 have Hh := Lib.hid h
 have HM := Lib.hid hm
 have HX := Lib.hid hx
 have KA := Lib.hid ka
 have hzl := h.blk.lt
 have hdl := h.row.lt
 have nz : z ≠ w.heap.size := by omega
 have nd : d ≠ w.heap.size := by omega
 have nz' := nz.symm
 have nd' := nd.symm
 have hzd := h.zd
 have hzd' := hzd.symm
 clear h hm hl hx ka
 go_enter Tryz.func89,Tryz.ntmps89
 go_wp2_with fail
 refine (rthr_yes _ b t1 t2).mono ?_
 rintro e wa ⟨rfl,rfl⟩
 go_wp2_with fail
 refine HT.out.mono ?_
 rintro e wa ⟨rfl,rfl⟩
 go_wp2_with fail
 refine HN.out.mono ?_
 rintro e w1 ⟨rfl,hn⟩
 have h1 := (Hh.out.keeps KA.out (by simp) (by simp)).noted (HM.out.keeps KA.out (by simp)) hn
 have d1 : w1.cell? ⟨z,1,none⟩ = some (.slice (some ⟨d,0,none⟩) H.length H.length) := (h1.blk.cell 1).trans rfl
 obtain ⟨m0,m1,m2,m3,m4,m5⟩ := h1.cells HX.out
 have f0 := h1.row.frozen (k * 8)
 have f1 := h1.row.frozen (k * 8 + 1)
 have f2 := h1.row.frozen (k * 8 + 2)
 have f3 := h1.row.frozen (k * 8 + 3)
 have f4 := h1.row.frozen (k * 8 + 4)
 have f5 := h1.row.frozen (k * 8 + 5)
 have r1 : rd w1 w.heap.size = some ⟨xg,2,xp,xt,false,xw⟩ := by
  obtain ⟨_,_,hkn,_⟩ := hn
  exact rd_keeps RZ.out hkn (fun hq => by have := foot_lt HM.out hq; omega)
 have H1 := Lib.hid h1
 have HN2 := Lib.hid hn
 have R1 := Lib.hid r1
 clear hn h1 c1 l0 l1 l2 l3 l4 l5 HN HT
 go_upto_region 13 with fail
 have hk2 : Keeps [w.heap.size] w1 ((w1.setCell ⟨w.heap.size,4,none⟩ (.bool true)).setCell ⟨w.heap.size,5,none⟩ (.int .i64 b)) := (Sq.r.setCell (.inl (by simp)) _).setCell (.inl (by simp)) _
 have r2 : rd ((w1.setCell ⟨w.heap.size,4,none⟩ (.bool true)).setCell ⟨w.heap.size,5,none⟩ (.int .i64 b)) w.heap.size = some ⟨xg,2,xp,xt,true,b⟩ := rd_doomed r1 b
 have h2 := H1.out.keeps hk2 (by simpa using nz) (by simpa using nd)
 have KK2 := Lib.hid hk2
 have H2 := Lib.hid h2
 clear d1 m0 m1 m2 m3 m4 m5 f0 f1 f2 f3 f4 f5 r1
 generalize hw2 : ((w1.setCell ⟨w.heap.size,4,none⟩ (.bool true)).setCell ⟨w.heap.size,5,none⟩ (.int .i64 b)) = w2 at *
 clear hw2
 have d2 : w2.cell? ⟨z,1,none⟩ = some (.slice (some ⟨d,0,none⟩) H.length H.length) := (h2.blk.cell 1).trans rfl
 obtain ⟨n0,n1,n2,n3,n4,n5⟩ := h2.cells HX.out
 have f0 := h2.row.frozen (k * 8)
 have f1 := h2.row.frozen (k * 8 + 1)
 have f2 := h2.row.frozen (k * 8 + 2)
 have f3 := h2.row.frozen (k * 8 + 3)
 have f4 := h2.row.frozen (k * 8 + 4)
 have f5 := h2.row.frozen (k * 8 + 5)
 clear h2 hk2
 go_wp2_with fail
 go_region
 go_wp2_with fail
 go_ret
 exact ⟨rfl,Hh.out.left HM.out KA.out HN2.out ((H2.out.put_head HX.out ⟨xg,2,xp,xt,true,b⟩).keeps (Keeps.refl [] _).drew (by simp) (by simp)) (S := [d,w.heap.size]) (fun q hq => by simp only [List.mem_cons,List.not_mem_nil,or_false] at hq; rcases hq with rfl | rfl; exact .inl rfl; exact .inr ⟨Nat.le_refl _,.inl (by simp)⟩) (((KK2.out.mono (T := [d,w.heap.size]) (by simp)).trans ((((((Sq.r.setCell (.inl (by simp)) _).setCell (.inl (by simp)) _).setCell (.inl (by simp)) _).setCell (.inl (by simp)) _).setCell (.inl (by simp)) _).setCell (.inl (by simp)) _ : Keeps [d] w2 _) (fun q hq => .inl (by simp at hq; simp [hq]))).drew)⟩
set_option maxRecDepth 100000 in
set_option maxHeartbeats 1000000 in
theorem rdoom_old (w : World) (z gx d : Nat) (H : List Hd) (W : List Int) (h : RT w z gx d H W) (lb : Nat) (s : MS) (hm : MetAt XT w (some gx) lb s) (hl : s.log.length < 2199023255552) (k : Nat) (x : Hd) (hx : H[k]? = some x) (g b : Int) (t1 : 1 ≤ b) (t2 : b ≤ 8) (h0 : x.state = 2) (h1 : x.gen = g) (hd : x.doomed = true) :
 Calls Tryz.prog 89 #[.pointer (some ⟨z,0,none⟩),.int .i64 k,.int .i64 g,.int .i64 b] w fun e w' => e = .returned (.int .i64 0) ∧ RTLeft z gx d H W lb (s.note 3 k 3 true) w w' := by
 obtain ⟨xg,xs,xp,xt,xd,xw⟩ := x
 simp only at h0
 simp only at h1
 simp only at hd
 subst h0
 subst h1
 subst hd
 have hk : k < H.length := (List.getElem?_eq_some_iff.1 hx).1
 have k0 : (0 : Int) ≤ (k : Int) := by omega
 have kl : (k : Int) < (H.length : Int) := by omega
 have c1 : w.cell? ⟨z,1,none⟩ = some (.slice (some ⟨d,0,none⟩) H.length H.length) := (h.blk.cell 1).trans rfl
 obtain ⟨l0,l1,l2,l3,l4,l5⟩ := h.cells hx
 have ka : Keeps [] w (w.alloc (.cells #[.int .i64 xg,.int .i64 2,.int .i64 xp,.int .i64 xt,.bool true,.int .i64 xw] 115)) := Sq.r.alloc _
 have HT := Lib.hid (rthere_yes w z gx d H W h k k0 kl)
 have HN := Lib.hid (rnote6 _ z gx d H W (h.keeps ka (by simp) (by simp)) lb s (hm.keeps ka (by simp)) hl 3 k 3 true)
 have RZ := Lib.hid (rd_new w ⟨xg,2,xp,xt,true,xw⟩)
 have Hh := Lib.hid h
 have HM := Lib.hid hm
 have HX := Lib.hid hx
 have KA := Lib.hid ka
 have hzl := h.blk.lt
 have hdl := h.row.lt
 have nz : z ≠ w.heap.size := by omega
 have nd : d ≠ w.heap.size := by omega
 have nz' := nz.symm
 have nd' := nd.symm
 have hzd := h.zd
 have hzd' := hzd.symm
 clear h hm hl hx ka
 go_enter Tryz.func89,Tryz.ntmps89
 go_wp2_with fail
 refine (rthr_yes _ b t1 t2).mono ?_
 rintro e wa ⟨rfl,rfl⟩
 go_wp2_with fail
 refine HT.out.mono ?_
 rintro e wa ⟨rfl,rfl⟩
 go_wp2_with fail
 refine HN.out.mono ?_
 rintro e w1 ⟨rfl,hn⟩
 have h1 := (Hh.out.keeps KA.out (by simp) (by simp)).noted (HM.out.keeps KA.out (by simp)) hn
 have d1 : w1.cell? ⟨z,1,none⟩ = some (.slice (some ⟨d,0,none⟩) H.length H.length) := (h1.blk.cell 1).trans rfl
 obtain ⟨m0,m1,m2,m3,m4,m5⟩ := h1.cells HX.out
 have f0 := h1.row.frozen (k * 8)
 have f1 := h1.row.frozen (k * 8 + 1)
 have f2 := h1.row.frozen (k * 8 + 2)
 have f3 := h1.row.frozen (k * 8 + 3)
 have f4 := h1.row.frozen (k * 8 + 4)
 have f5 := h1.row.frozen (k * 8 + 5)
 have r1 : rd w1 w.heap.size = some ⟨xg,2,xp,xt,true,xw⟩ := by
  obtain ⟨_,_,hkn,_⟩ := hn
  exact rd_keeps RZ.out hkn (fun hq => by have := foot_lt HM.out hq; omega)
 have H1 := Lib.hid h1
 have HN2 := Lib.hid hn
 have R1 := Lib.hid r1
 clear hn h1 c1 l0 l1 l2 l3 l4 l5 HN HT
 go_wp2_with fail
 go_ret
 exact ⟨rfl,Hh.out.left HM.out KA.out HN2.out H1.out (S := []) (by simp) Sq.r⟩
set_option maxRecDepth 100000 in
set_option maxHeartbeats 1000000 in
theorem rdoom_no (w : World) (z gx d : Nat) (H : List Hd) (W : List Int) (h : RT w z gx d H W) (lb : Nat) (s : MS) (hm : MetAt XT w (some gx) lb s) (hl : s.log.length < 2199023255552) (k : Nat) (x : Hd) (hx : H[k]? = some x) (g b : Int) (t1 : 1 ≤ b) (t2 : b ≤ 8) (h0 : x.state = 2) (h1 : ¬ x.gen = g) :
 Calls Tryz.prog 89 #[.pointer (some ⟨z,0,none⟩),.int .i64 k,.int .i64 g,.int .i64 b] w fun e w' => e = .returned (.int .i64 4) ∧ RTLeft z gx d H W lb (s.note 3 k 3 false) w w' := by
 obtain ⟨xg,xs,xp,xt,xd,xw⟩ := x
 simp only at h0
 simp only at h1
 subst h0
 have eh11 : (xg == g) = false := by simpa using h1
 have eh12 : (xg != g) = true := by simpa using h1
 have hk : k < H.length := (List.getElem?_eq_some_iff.1 hx).1
 have k0 : (0 : Int) ≤ (k : Int) := by omega
 have kl : (k : Int) < (H.length : Int) := by omega
 have c1 : w.cell? ⟨z,1,none⟩ = some (.slice (some ⟨d,0,none⟩) H.length H.length) := (h.blk.cell 1).trans rfl
 obtain ⟨l0,l1,l2,l3,l4,l5⟩ := h.cells hx
 have ka : Keeps [] w (w.alloc (.cells #[.int .i64 xg,.int .i64 2,.int .i64 xp,.int .i64 xt,.bool xd,.int .i64 xw] 115)) := Sq.r.alloc _
 have HT := Lib.hid (rthere_yes w z gx d H W h k k0 kl)
 have HN := Lib.hid (rnote6 _ z gx d H W (h.keeps ka (by simp) (by simp)) lb s (hm.keeps ka (by simp)) hl 3 k 3 false)
 have RZ := Lib.hid (rd_new w ⟨xg,2,xp,xt,xd,xw⟩)
 have Hh := Lib.hid h
 have HM := Lib.hid hm
 have HX := Lib.hid hx
 have KA := Lib.hid ka
 have hzl := h.blk.lt
 have hdl := h.row.lt
 have nz : z ≠ w.heap.size := by omega
 have nd : d ≠ w.heap.size := by omega
 have nz' := nz.symm
 have nd' := nd.symm
 have hzd := h.zd
 have hzd' := hzd.symm
 clear h hm hl hx ka
 go_enter Tryz.func89,Tryz.ntmps89
 go_wp2_with fail
 refine (rthr_yes _ b t1 t2).mono ?_
 rintro e wa ⟨rfl,rfl⟩
 go_wp2_with fail
 refine HT.out.mono ?_
 rintro e wa ⟨rfl,rfl⟩
 go_wp2_with fail
 refine HN.out.mono ?_
 rintro e w1 ⟨rfl,hn⟩
 have h1 := (Hh.out.keeps KA.out (by simp) (by simp)).noted (HM.out.keeps KA.out (by simp)) hn
 have d1 : w1.cell? ⟨z,1,none⟩ = some (.slice (some ⟨d,0,none⟩) H.length H.length) := (h1.blk.cell 1).trans rfl
 obtain ⟨m0,m1,m2,m3,m4,m5⟩ := h1.cells HX.out
 have f0 := h1.row.frozen (k * 8)
 have f1 := h1.row.frozen (k * 8 + 1)
 have f2 := h1.row.frozen (k * 8 + 2)
 have f3 := h1.row.frozen (k * 8 + 3)
 have f4 := h1.row.frozen (k * 8 + 4)
 have f5 := h1.row.frozen (k * 8 + 5)
 have r1 : rd w1 w.heap.size = some ⟨xg,2,xp,xt,xd,xw⟩ := by
  obtain ⟨_,_,hkn,_⟩ := hn
  exact rd_keeps RZ.out hkn (fun hq => by have := foot_lt HM.out hq; omega)
 have H1 := Lib.hid h1
 have HN2 := Lib.hid hn
 have R1 := Lib.hid r1
 clear hn h1 c1 l0 l1 l2 l3 l4 l5 HN HT
 go_wp2_with fail
 go_ret
 exact ⟨rfl,Hh.out.left HM.out KA.out HN2.out H1.out (S := []) (by simp) Sq.r⟩
set_option maxRecDepth 100000 in
set_option maxHeartbeats 1000000 in
theorem rdoom_not (w : World) (z gx d : Nat) (H : List Hd) (W : List Int) (h : RT w z gx d H W) (lb : Nat) (s : MS) (hm : MetAt XT w (some gx) lb s) (hl : s.log.length < 2199023255552) (k : Nat) (x : Hd) (hx : H[k]? = some x) (g b : Int) (t1 : 1 ≤ b) (t2 : b ≤ 8) (h0 : ¬ x.state = 2) :
 Calls Tryz.prog 89 #[.pointer (some ⟨z,0,none⟩),.int .i64 k,.int .i64 g,.int .i64 b] w fun e w' => e = .returned (.int .i64 4) ∧ RTLeft z gx d H W lb (s.note 3 k 3 false) w w' := by
 obtain ⟨xg,xs,xp,xt,xd,xw⟩ := x
 simp only at h0
 have eh01 : (xs == 2) = false := by simpa using h0
 have eh02 : (xs != 2) = true := by simpa using h0
 have hk : k < H.length := (List.getElem?_eq_some_iff.1 hx).1
 have k0 : (0 : Int) ≤ (k : Int) := by omega
 have kl : (k : Int) < (H.length : Int) := by omega
 have c1 : w.cell? ⟨z,1,none⟩ = some (.slice (some ⟨d,0,none⟩) H.length H.length) := (h.blk.cell 1).trans rfl
 obtain ⟨l0,l1,l2,l3,l4,l5⟩ := h.cells hx
 have ka : Keeps [] w (w.alloc (.cells #[.int .i64 xg,.int .i64 xs,.int .i64 xp,.int .i64 xt,.bool xd,.int .i64 xw] 115)) := Sq.r.alloc _
 have HT := Lib.hid (rthere_yes w z gx d H W h k k0 kl)
 have HN := Lib.hid (rnote6 _ z gx d H W (h.keeps ka (by simp) (by simp)) lb s (hm.keeps ka (by simp)) hl 3 k 3 false)
 have RZ := Lib.hid (rd_new w ⟨xg,xs,xp,xt,xd,xw⟩)
 have Hh := Lib.hid h
 have HM := Lib.hid hm
 have HX := Lib.hid hx
 have KA := Lib.hid ka
 have hzl := h.blk.lt
 have hdl := h.row.lt
 have nz : z ≠ w.heap.size := by omega
 have nd : d ≠ w.heap.size := by omega
 have nz' := nz.symm
 have nd' := nd.symm
 have hzd := h.zd
 have hzd' := hzd.symm
 clear h hm hl hx ka
 go_enter Tryz.func89,Tryz.ntmps89
 go_wp2_with fail
 refine (rthr_yes _ b t1 t2).mono ?_
 rintro e wa ⟨rfl,rfl⟩
 go_wp2_with fail
 refine HT.out.mono ?_
 rintro e wa ⟨rfl,rfl⟩
 go_wp2_with fail
 refine HN.out.mono ?_
 rintro e w1 ⟨rfl,hn⟩
 have h1 := (Hh.out.keeps KA.out (by simp) (by simp)).noted (HM.out.keeps KA.out (by simp)) hn
 have d1 : w1.cell? ⟨z,1,none⟩ = some (.slice (some ⟨d,0,none⟩) H.length H.length) := (h1.blk.cell 1).trans rfl
 obtain ⟨m0,m1,m2,m3,m4,m5⟩ := h1.cells HX.out
 have f0 := h1.row.frozen (k * 8)
 have f1 := h1.row.frozen (k * 8 + 1)
 have f2 := h1.row.frozen (k * 8 + 2)
 have f3 := h1.row.frozen (k * 8 + 3)
 have f4 := h1.row.frozen (k * 8 + 4)
 have f5 := h1.row.frozen (k * 8 + 5)
 have r1 : rd w1 w.heap.size = some ⟨xg,xs,xp,xt,xd,xw⟩ := by
  obtain ⟨_,_,hkn,_⟩ := hn
  exact rd_keeps RZ.out hkn (fun hq => by have := foot_lt HM.out hq; omega)
 have H1 := Lib.hid h1
 have HN2 := Lib.hid hn
 have R1 := Lib.hid r1
 clear hn h1 c1 l0 l1 l2 l3 l4 l5 HN HT
 go_wp2_with fail
 go_ret
 exact ⟨rfl,Hh.out.left HM.out KA.out HN2.out H1.out (S := []) (by simp) Sq.r⟩
theorem rdoom_bad (w : World) (z : Nat) (k : Int) (g b : Int) (ht : b < 1 ∨ 8 < b) :
 Calls Tryz.prog 89 #[.pointer (some ⟨z,0,none⟩),.int .i64 k,.int .i64 g,.int .i64 b] w fun e w' => e = .returned (.int .i64 1) ∧ w = w' := by
 have QT := Lib.hid (rthr_no w b ht)
 clear ht
 go_enter Tryz.func89,Tryz.ntmps89
 go_wp2_with fail
 refine QT.out.mono ?_
 rintro e wa ⟨rfl,rfl⟩
 go_wp2_with fail
 go_ret
 exact ⟨rfl,rfl⟩
theorem rdoom_place (w : World) (z gx d : Nat) (H : List Hd) (W : List Int) (h : RT w z gx d H W) (k : Int) (hk : k < 0 ∨ (H.length : Int) ≤ k) (g b : Int) (t1 : 1 ≤ b) (t2 : b ≤ 8) :
 Calls Tryz.prog 89 #[.pointer (some ⟨z,0,none⟩),.int .i64 k,.int .i64 g,.int .i64 b] w fun e w' => e = .returned (.int .i64 2) ∧ w = w' := by
 have QT := Lib.hid (rthere_no w z gx d H W h k hk)
 clear h hk
 go_enter Tryz.func89,Tryz.ntmps89
 go_wp2_with fail
 refine (rthr_yes _ b t1 t2).mono ?_
 rintro e wa ⟨rfl,rfl⟩
 go_wp2_with fail
 refine QT.out.mono ?_
 rintro e wb ⟨rfl,rfl⟩
 go_wp2_with fail
 go_ret
 exact ⟨rfl,rfl⟩
set_option maxRecDepth 100000 in
set_option maxHeartbeats 1000000 in
theorem rfree_ok (w : World) (z gx d : Nat) (H : List Hd) (W : List Int) (h : RT w z gx d H W) (lb : Nat) (s : MS) (hm : MetAt XT w (some gx) lb s) (hl : s.log.length < 2199023255552) (k : Nat) (x : Hd) (hx : H[k]? = some x) (g : Int)  (h0 : ¬ x.state = 0) (h1 : x.gen = g) :
 Calls Tryz.prog 79 #[.pointer (some ⟨z,0,none⟩),.int .i64 k,.int .i64 g] w fun e w' => e = .returned (.int .i64 0) ∧ RTLeft z gx d (H.set k ⟨g,0,0,0,false,0⟩) W lb (s.note 3 k 3 true) w w' := by
 obtain ⟨xg,xs,xp,xt,xd,xw⟩ := x
 simp only at h0
 simp only at h1
 subst h1
 have eh01 : (xs == 0) = false := by simpa using h0
 have eh02 : (xs != 0) = true := by simpa using h0
 have hk : k < H.length := (List.getElem?_eq_some_iff.1 hx).1
 have k0 : (0 : Int) ≤ (k : Int) := by omega
 have kl : (k : Int) < (H.length : Int) := by omega
 have c1 : w.cell? ⟨z,1,none⟩ = some (.slice (some ⟨d,0,none⟩) H.length H.length) := (h.blk.cell 1).trans rfl
 obtain ⟨l0,l1,l2,l3,l4,l5⟩ := h.cells hx
 have ka : Keeps [] w (w.alloc (.cells #[.int .i64 xg,.int .i64 xs,.int .i64 xp,.int .i64 xt,.bool xd,.int .i64 xw] 115)) := Sq.r.alloc _
 have HT := Lib.hid (rthere_yes w z gx d H W h k k0 kl)
 have HN := Lib.hid (rnote6 _ z gx d H W (h.keeps ka (by simp) (by simp)) lb s (hm.keeps ka (by simp)) hl 3 k 3 true)
 have RZ := Lib.hid (rd_new w ⟨xg,xs,xp,xt,xd,xw⟩)
 have Hh := Lib.hid h
 have HM := Lib.hid hm
 have HX := Lib.hid hx
 have KA := Lib.hid ka
 have hzl := h.blk.lt
 have hdl := h.row.lt
 have nz : z ≠ w.heap.size := by omega
 have nd : d ≠ w.heap.size := by omega
 have nz' := nz.symm
 have nd' := nd.symm
 have hzd := h.zd
 have hzd' := hzd.symm
 clear h hm hl hx ka
 go_enter Tryz.func79,Tryz.ntmps79
 go_wp2_with fail
 refine HT.out.mono ?_
 rintro e wa ⟨rfl,rfl⟩
 go_wp2_with fail
 refine HN.out.mono ?_
 rintro e w1 ⟨rfl,hn⟩
 have h1 := (Hh.out.keeps KA.out (by simp) (by simp)).noted (HM.out.keeps KA.out (by simp)) hn
 have d1 : w1.cell? ⟨z,1,none⟩ = some (.slice (some ⟨d,0,none⟩) H.length H.length) := (h1.blk.cell 1).trans rfl
 obtain ⟨m0,m1,m2,m3,m4,m5⟩ := h1.cells HX.out
 have f0 := h1.row.frozen (k * 8)
 have f1 := h1.row.frozen (k * 8 + 1)
 have f2 := h1.row.frozen (k * 8 + 2)
 have f3 := h1.row.frozen (k * 8 + 3)
 have f4 := h1.row.frozen (k * 8 + 4)
 have f5 := h1.row.frozen (k * 8 + 5)
 have r1 : rd w1 w.heap.size = some ⟨xg,xs,xp,xt,xd,xw⟩ := by
  obtain ⟨_,_,hkn,_⟩ := hn
  exact rd_keeps RZ.out hkn (fun hq => by have := foot_lt HM.out hq; omega)
 have H1 := Lib.hid h1
 have HN2 := Lib.hid hn
 have R1 := Lib.hid r1
 clear hn h1 c1 l0 l1 l2 l3 l4 l5 HN HT
 go_wp2_with fail
 go_ret
 exact ⟨rfl,Hh.out.left HM.out KA.out HN2.out (H1.out.put_head HX.out ⟨xg,0,0,0,false,0⟩) (S := [d,w.heap.size]) (fun q hq => by simp only [List.mem_cons,List.not_mem_nil,or_false] at hq; rcases hq with rfl | rfl; exact .inl rfl; exact .inr ⟨Nat.le_refl _,.inl (by simp)⟩) ((((((Sq.r.setCell (.inl (by simp)) _).setCell (.inl (by simp)) _).setCell (.inl (by simp)) _).setCell (.inl (by simp)) _).setCell (.inl (by simp)) _).setCell (.inl (by simp)) _)⟩
set_option maxRecDepth 100000 in
set_option maxHeartbeats 1000000 in
theorem rfree_no (w : World) (z gx d : Nat) (H : List Hd) (W : List Int) (h : RT w z gx d H W) (lb : Nat) (s : MS) (hm : MetAt XT w (some gx) lb s) (hl : s.log.length < 2199023255552) (k : Nat) (x : Hd) (hx : H[k]? = some x) (g : Int)  (h0 : ¬ x.state = 0) (h1 : ¬ x.gen = g) :
 Calls Tryz.prog 79 #[.pointer (some ⟨z,0,none⟩),.int .i64 k,.int .i64 g] w fun e w' => e = .returned (.int .i64 4) ∧ RTLeft z gx d H W lb (s.note 3 k 3 false) w w' := by
 obtain ⟨xg,xs,xp,xt,xd,xw⟩ := x
 simp only at h0
 simp only at h1
 have eh01 : (xs == 0) = false := by simpa using h0
 have eh02 : (xs != 0) = true := by simpa using h0
 have eh11 : (xg == g) = false := by simpa using h1
 have eh12 : (xg != g) = true := by simpa using h1
 have hk : k < H.length := (List.getElem?_eq_some_iff.1 hx).1
 have k0 : (0 : Int) ≤ (k : Int) := by omega
 have kl : (k : Int) < (H.length : Int) := by omega
 have c1 : w.cell? ⟨z,1,none⟩ = some (.slice (some ⟨d,0,none⟩) H.length H.length) := (h.blk.cell 1).trans rfl
 obtain ⟨l0,l1,l2,l3,l4,l5⟩ := h.cells hx
 have ka : Keeps [] w (w.alloc (.cells #[.int .i64 xg,.int .i64 xs,.int .i64 xp,.int .i64 xt,.bool xd,.int .i64 xw] 115)) := Sq.r.alloc _
 have HT := Lib.hid (rthere_yes w z gx d H W h k k0 kl)
 have HN := Lib.hid (rnote6 _ z gx d H W (h.keeps ka (by simp) (by simp)) lb s (hm.keeps ka (by simp)) hl 3 k 3 false)
 have RZ := Lib.hid (rd_new w ⟨xg,xs,xp,xt,xd,xw⟩)
 have Hh := Lib.hid h
 have HM := Lib.hid hm
 have HX := Lib.hid hx
 have KA := Lib.hid ka
 have hzl := h.blk.lt
 have hdl := h.row.lt
 have nz : z ≠ w.heap.size := by omega
 have nd : d ≠ w.heap.size := by omega
 have nz' := nz.symm
 have nd' := nd.symm
 have hzd := h.zd
 have hzd' := hzd.symm
 clear h hm hl hx ka
 go_enter Tryz.func79,Tryz.ntmps79
 go_wp2_with fail
 refine HT.out.mono ?_
 rintro e wa ⟨rfl,rfl⟩
 go_wp2_with fail
 refine HN.out.mono ?_
 rintro e w1 ⟨rfl,hn⟩
 have h1 := (Hh.out.keeps KA.out (by simp) (by simp)).noted (HM.out.keeps KA.out (by simp)) hn
 have d1 : w1.cell? ⟨z,1,none⟩ = some (.slice (some ⟨d,0,none⟩) H.length H.length) := (h1.blk.cell 1).trans rfl
 obtain ⟨m0,m1,m2,m3,m4,m5⟩ := h1.cells HX.out
 have f0 := h1.row.frozen (k * 8)
 have f1 := h1.row.frozen (k * 8 + 1)
 have f2 := h1.row.frozen (k * 8 + 2)
 have f3 := h1.row.frozen (k * 8 + 3)
 have f4 := h1.row.frozen (k * 8 + 4)
 have f5 := h1.row.frozen (k * 8 + 5)
 have r1 : rd w1 w.heap.size = some ⟨xg,xs,xp,xt,xd,xw⟩ := by
  obtain ⟨_,_,hkn,_⟩ := hn
  exact rd_keeps RZ.out hkn (fun hq => by have := foot_lt HM.out hq; omega)
 have H1 := Lib.hid h1
 have HN2 := Lib.hid hn
 have R1 := Lib.hid r1
 clear hn h1 c1 l0 l1 l2 l3 l4 l5 HN HT
 go_wp2_with fail
 go_ret
 exact ⟨rfl,Hh.out.left HM.out KA.out HN2.out H1.out (S := []) (by simp) Sq.r⟩
set_option maxRecDepth 100000 in
set_option maxHeartbeats 1000000 in
theorem rfree_not (w : World) (z gx d : Nat) (H : List Hd) (W : List Int) (h : RT w z gx d H W) (lb : Nat) (s : MS) (hm : MetAt XT w (some gx) lb s) (hl : s.log.length < 2199023255552) (k : Nat) (x : Hd) (hx : H[k]? = some x) (g : Int)  (h0 : x.state = 0) :
 Calls Tryz.prog 79 #[.pointer (some ⟨z,0,none⟩),.int .i64 k,.int .i64 g] w fun e w' => e = .returned (.int .i64 4) ∧ RTLeft z gx d H W lb (s.note 3 k 3 false) w w' := by
 obtain ⟨xg,xs,xp,xt,xd,xw⟩ := x
 simp only at h0
 subst h0
 have hk : k < H.length := (List.getElem?_eq_some_iff.1 hx).1
 have k0 : (0 : Int) ≤ (k : Int) := by omega
 have kl : (k : Int) < (H.length : Int) := by omega
 have c1 : w.cell? ⟨z,1,none⟩ = some (.slice (some ⟨d,0,none⟩) H.length H.length) := (h.blk.cell 1).trans rfl
 obtain ⟨l0,l1,l2,l3,l4,l5⟩ := h.cells hx
 have ka : Keeps [] w (w.alloc (.cells #[.int .i64 xg,.int .i64 0,.int .i64 xp,.int .i64 xt,.bool xd,.int .i64 xw] 115)) := Sq.r.alloc _
 have HT := Lib.hid (rthere_yes w z gx d H W h k k0 kl)
 have HN := Lib.hid (rnote6 _ z gx d H W (h.keeps ka (by simp) (by simp)) lb s (hm.keeps ka (by simp)) hl 3 k 3 false)
 have RZ := Lib.hid (rd_new w ⟨xg,0,xp,xt,xd,xw⟩)
 have Hh := Lib.hid h
 have HM := Lib.hid hm
 have HX := Lib.hid hx
 have KA := Lib.hid ka
 have hzl := h.blk.lt
 have hdl := h.row.lt
 have nz : z ≠ w.heap.size := by omega
 have nd : d ≠ w.heap.size := by omega
 have nz' := nz.symm
 have nd' := nd.symm
 have hzd := h.zd
 have hzd' := hzd.symm
 clear h hm hl hx ka
 go_enter Tryz.func79,Tryz.ntmps79
 go_wp2_with fail
 refine HT.out.mono ?_
 rintro e wa ⟨rfl,rfl⟩
 go_wp2_with fail
 refine HN.out.mono ?_
 rintro e w1 ⟨rfl,hn⟩
 have h1 := (Hh.out.keeps KA.out (by simp) (by simp)).noted (HM.out.keeps KA.out (by simp)) hn
 have d1 : w1.cell? ⟨z,1,none⟩ = some (.slice (some ⟨d,0,none⟩) H.length H.length) := (h1.blk.cell 1).trans rfl
 obtain ⟨m0,m1,m2,m3,m4,m5⟩ := h1.cells HX.out
 have f0 := h1.row.frozen (k * 8)
 have f1 := h1.row.frozen (k * 8 + 1)
 have f2 := h1.row.frozen (k * 8 + 2)
 have f3 := h1.row.frozen (k * 8 + 3)
 have f4 := h1.row.frozen (k * 8 + 4)
 have f5 := h1.row.frozen (k * 8 + 5)
 have r1 : rd w1 w.heap.size = some ⟨xg,0,xp,xt,xd,xw⟩ := by
  obtain ⟨_,_,hkn,_⟩ := hn
  exact rd_keeps RZ.out hkn (fun hq => by have := foot_lt HM.out hq; omega)
 have H1 := Lib.hid h1
 have HN2 := Lib.hid hn
 have R1 := Lib.hid r1
 clear hn h1 c1 l0 l1 l2 l3 l4 l5 HN HT
 go_wp2_with fail
 go_ret
 exact ⟨rfl,Hh.out.left HM.out KA.out HN2.out H1.out (S := []) (by simp) Sq.r⟩
theorem rfree_place (w : World) (z gx d : Nat) (H : List Hd) (W : List Int) (h : RT w z gx d H W) (k : Int) (hk : k < 0 ∨ (H.length : Int) ≤ k) (g : Int)  :
 Calls Tryz.prog 79 #[.pointer (some ⟨z,0,none⟩),.int .i64 k,.int .i64 g] w fun e w' => e = .returned (.int .i64 2) ∧ w = w' := by
 have QT := Lib.hid (rthere_no w z gx d H W h k hk)
 clear h hk
 go_enter Tryz.func79,Tryz.ntmps79
 go_wp2_with fail
 refine QT.out.mono ?_
 rintro e wb ⟨rfl,rfl⟩
 go_wp2_with fail
 go_ret
 exact ⟨rfl,rfl⟩
set_option maxHeartbeats 1000000 in
theorem rlook6 (w : World) (z gx d : Nat) (H : List Hd) (W : List Int) (h : RT w z gx d H W) (lb : Nat) (s : MS) (hm : MetAt XT w (some gx) lb s) (hl : s.log.length < 2199023255552) (k : Nat) (x : Hd) (hx : H[k]? = some x) :
 Calls Tryz.prog 117 #[.pointer (some ⟨z,0,none⟩),.int .i64 k] w fun e w' => e = .returned (.tuple #[.agg #[.int .i64 x.gen,.int .i64 x.state,.int .i64 x.stamp,.int .i64 x.thread,.bool x.doomed,.int .i64 x.who],.int .i64 0]) ∧ RTLeft z gx d H W lb (s.note 3 k 1 true) w w' := by
 have hk : k < H.length := (List.getElem?_eq_some_iff.1 hx).1
 have k0 : (0 : Int) ≤ (k : Int) := by omega
 have kl : (k : Int) < (H.length : Int) := by omega
 have ka : Keeps [] w (w.alloc (.cells #[.int .i64 0,.int .i64 0,.int .i64 0,.int .i64 0,.bool false,.int .i64 0] 115)) := Sq.r.alloc _
 have HT := Lib.hid (rthere_yes (w.alloc (.cells #[.int .i64 0,.int .i64 0,.int .i64 0,.int .i64 0,.bool false,.int .i64 0] 115)) z gx d H W (h.keeps ka (by simp) (by simp)) k k0 kl)
 have HN := Lib.hid (rnote6 (w.alloc (.cells #[.int .i64 0,.int .i64 0,.int .i64 0,.int .i64 0,.bool false,.int .i64 0] 115)) z gx d H W (h.keeps ka (by simp) (by simp)) lb s (hm.keeps ka (by simp)) hl 3 k 1 true)
 have RZ := Lib.hid (rd_new w Hd.zero)
 have Hh := Lib.hid h
 have HM := Lib.hid hm
 have HX := Lib.hid hx
 have KA := Lib.hid ka
 have hzl := h.blk.lt
 have hdl := h.row.lt
 have nz : z ≠ w.heap.size := by omega
 have nd : d ≠ w.heap.size := by omega
 clear h hm hl hx ka hzl hdl
 go_enter Tryz.func117,Tryz.ntmps117
 go_wp2_with fail
 refine HT.out.mono ?_
 rintro e wa ⟨rfl,rfl⟩
 go_wp2_with fail
 refine HN.out.mono ?_
 rintro e w1 ⟨rfl,hn⟩
 have h1 := (Hh.out.keeps KA.out (by simp) (by simp)).noted (HM.out.keeps KA.out (by simp)) hn
 have d1 : w1.cell? ⟨z,1,none⟩ = some (.slice (some ⟨d,0,none⟩) H.length H.length) := (h1.blk.cell 1).trans rfl
 obtain ⟨m0,m1,m2,m3,m4,m5⟩ := h1.cells HX.out
 have r1 : rd w1 w.heap.size = some Hd.zero := by
  obtain ⟨_,_,hkn,_⟩ := hn
  exact rd_keeps RZ.out hkn (fun hq => by have := foot_lt HM.out hq; omega)
 have H1 := Lib.hid h1
 have HN2 := Lib.hid hn
 clear hn h1 HN HT
 go_wp2_with fail
 show bodyPost _ _ _ _ _ (put6 w1 w.heap.size x)
 have v1 := rd_put6 w1 w.heap.size x _ r1
 have kp : Keeps [w.heap.size] w1 (put6 w1 w.heap.size x) := put6_keeps _ _ _
 clear d1 m0 m1 m2 m3 m4 m5 r1
 generalize hw9 : put6 w1 w.heap.size x = w9 at *
 clear hw9
 refine bodyPost_ret (v := .tuple #[.agg #[.int .i64 x.gen,.int .i64 x.state,.int .i64 x.stamp,.int .i64 x.thread,.bool x.doomed,.int .i64 x.who],.int .i64 0]) (by simp [results,Tryz.results117,go_sem,v1]) rfl ⟨rfl,?_⟩
 exact Hh.out.left HM.out KA.out HN2.out (H1.out.keeps kp (by simpa using nz) (by simpa using nd)) (S := [w.heap.size]) (fun q hq => by simp only [List.mem_cons,List.not_mem_nil,or_false] at hq; subst hq; exact .inr ⟨Nat.le_refl _,.inl (by simp)⟩) kp
theorem rlook6_no (w : World) (z gx d : Nat) (H : List Hd) (W : List Int) (h : RT w z gx d H W) (k : Int) (hk : k < 0 ∨ (H.length : Int) ≤ k) :
 Calls Tryz.prog 117 #[.pointer (some ⟨z,0,none⟩),.int .i64 k] w fun e w' => e = .returned (.tuple #[.agg #[.int .i64 Hd.zero.gen,.int .i64 Hd.zero.state,.int .i64 Hd.zero.stamp,.int .i64 Hd.zero.thread,.bool Hd.zero.doomed,.int .i64 Hd.zero.who],.int .i64 2]) ∧ Keeps [] w w' := by
 have ka : Keeps [] w (w.alloc (.cells #[.int .i64 0,.int .i64 0,.int .i64 0,.int .i64 0,.bool false,.int .i64 0] 115)) := Sq.r.alloc _
 have HT := Lib.hid (rthere_no (w.alloc (.cells #[.int .i64 0,.int .i64 0,.int .i64 0,.int .i64 0,.bool false,.int .i64 0] 115)) z gx d H W (h.keeps ka (by simp) (by simp)) k hk)
 have r0 : rd (w.alloc (.cells #[.int .i64 0,.int .i64 0,.int .i64 0,.int .i64 0,.bool false,.int .i64 0] 115)) w.heap.size = some Hd.zero := rd_new w Hd.zero
 have KA := Lib.hid ka
 clear h hk ka
 go_enter Tryz.func117,Tryz.ntmps117
 go_wp2_with fail
 refine HT.out.mono ?_
 rintro e wa ⟨rfl,rfl⟩
 go_wp2_with fail
 refine bodyPost_ret (v := .tuple #[.agg #[.int .i64 Hd.zero.gen,.int .i64 Hd.zero.state,.int .i64 Hd.zero.stamp,.int .i64 Hd.zero.thread,.bool Hd.zero.doomed,.int .i64 Hd.zero.who],.int .i64 2]) (by simp [results,Tryz.results117,go_sem,Hd.zero]) rfl ⟨rfl,?_⟩
 first
  | exact KA.out
  | exact (((((KA.out.setCell (.inr (Nat.le_refl _)) _).setCell (.inr (Nat.le_refl _)) _).setCell (.inr (Nat.le_refl _)) _).setCell (.inr (Nat.le_refl _)) _).setCell (.inr (Nat.le_refl _)) _).setCell (.inr (Nat.le_refl _)) _
theorem RT.word {w : World} {z gx d : Nat} {H : List Hd} {W : List Int} (h : RT w z gx d H W) {k j : Nat} (hk : k < H.length) (hj : j < 2) {v : Int} (hv : W[2 * k + j]? = some v) : w.cell? ⟨d,k * 8 + 6 + j,none⟩ = some (.int .u64 v) := by
 obtain ⟨x,hx⟩ : ∃ x,H[k]? = some x := ⟨_,List.getElem?_eq_getElem hk⟩
 obtain ⟨a,b,ha,hb,hy⟩ := h.two hx
 match j,hj with
 | 0,_ => have e : a = v := Option.some.inj (ha.symm.trans hv); subst e; exact h.at_ hy 6 _ rfl
 | 1,_ => have e : b = v := Option.some.inj (hb.symm.trans hv); subst e; exact h.at_ hy 7 _ rfl
theorem rword6 (w : World) (z gx d : Nat) (H : List Hd) (W : List Int) (h : RT w z gx d H W) (lb : Nat) (s : MS) (hm : MetAt XT w (some gx) lb s) (hl : s.log.length < 2199023255552) (k j : Nat) (hkj : k < H.length ∧ j < 2) (v : Int) (hv : W[2 * k + j]? = some v) :
 Calls Tryz.prog 118 #[.pointer (some ⟨z,0,none⟩),.int .i64 k,.int .i64 j] w fun e w' => e = .returned (.tuple #[.int .u64 v,.int .i64 0]) ∧ RTLeft z gx d H W lb (s.note 4 (2 * k + j : Nat) 1 true) w w' := by
 have k0 : (0 : Int) ≤ (k : Int) := by omega
 have kl : (k : Int) < (H.length : Int) := by have := hkj.1; omega
 have h8 := h.n8
 have e1 : IntKind.i64.wrap (2 * (k : Int)) = 2 * (k : Int) := by rw [IntKind.wrap_i64]; omega
 have e2 : IntKind.i64.wrap (2 * (k : Int) + (j : Int)) = ((2 * k + j : Nat) : Int) := by rw [IntKind.wrap_i64]; omega
 have e0 : 2 * (k : Int) + (j : Int) = ((2 * k + j : Nat) : Int) := by omega
 have e3 : ¬ ((j : Int) < 0) := by omega
 have e4 : ¬ ((1 : Int) < (j : Int)) := by have := hkj.2; omega
 have j0 : (0 : Int) ≤ (j : Int) := by omega
 have j1 : (j : Int) < 2 := by have := hkj.2; omega
 have HT := Lib.hid (rthere_yes w z gx d H W h k k0 kl)
 have HN := Lib.hid (rnote6 w z gx d H W h lb s hm hl 4 (2 * k + j : Nat) 1 true)
 obtain ⟨p,hp⟩ : ∃ p : Nat,2 * k + j = p := ⟨_,rfl⟩
 rw [hp] at e0 e2 HN ⊢
 have HP := Lib.hid hp
 have HV := Lib.hid (And.intro hkj hv)
 have Hh := Lib.hid h
 have HM := Lib.hid hm
 clear h hm hl hv hkj hp
 go_enter Tryz.func118,Tryz.ntmps118
 go_wp2_with fail
 refine HT.out.mono ?_
 rintro e wa ⟨rfl,rfl⟩
 go_wp2_with fail
 refine HN.out.mono ?_
 rintro e w1 ⟨rfl,hn⟩
 have h1 := Hh.out.noted HM.out hn
 have d1 : w1.cell? ⟨z,1,none⟩ = some (.slice (some ⟨d,0,none⟩) H.length H.length) := (h1.blk.cell 1).trans rfl
 have m1 : w1.cell? ⟨d,k * 8 + 6 + j,none⟩ = some (.int .u64 v) := h1.word HV.out.1.1 HV.out.1.2 HV.out.2
 have H1 := Lib.hid h1
 have HN2 := Lib.hid hn
 clear hn h1 HN HT
 go_wp2_with fail
 go_ret2
 exact ⟨rfl,Hh.out.left HM.out Sq.r HN2.out H1.out (S := []) (by simp) Sq.r⟩
theorem rword6_no (w : World) (z gx d : Nat) (H : List Hd) (W : List Int) (h : RT w z gx d H W) (k j : Int) (hkj : k < 0 ∨ (H.length : Int) ≤ k ∨ j < 0 ∨ 2 ≤ j)  :
 Calls Tryz.prog 118 #[.pointer (some ⟨z,0,none⟩),.int .i64 k,.int .i64 j] w fun e w' => e = .returned (.tuple #[.int .u64 0,.int .i64 2]) ∧ w = w' := by
 by_cases h0 : k < 0 ∨ (H.length : Int) ≤ k
 ·
  have QT := Lib.hid (rthere_no w z gx d H W h k h0)
  clear h hkj h0
  go_enter Tryz.func118,Tryz.ntmps118
  go_wp2_with fail
  refine QT.out.mono ?_
  rintro e wa ⟨rfl,rfl⟩
  go_wp2_with fail
  go_ret2
  exact ⟨rfl,rfl⟩
 ·
  have QT := Lib.hid (rthere_yes w z gx d H W h k (by omega) (by omega))
  clear h
  by_cases h1 : j < 0
  ·
   clear hkj h0
   go_enter Tryz.func118,Tryz.ntmps118
   go_wp2_with fail
   refine QT.out.mono ?_
   rintro e wa ⟨rfl,rfl⟩
   go_wp2_with fail
   go_ret2
   exact ⟨rfl,rfl⟩
  ·
   have h2 : 1 < j := by omega
   clear hkj h0
   go_enter Tryz.func118,Tryz.ntmps118
   go_wp2_with fail
   refine QT.out.mono ?_
   rintro e wa ⟨rfl,rfl⟩
   go_wp2_with fail
   go_ret2
   exact ⟨rfl,rfl⟩
theorem rput6_no (w : World) (z gx d : Nat) (H : List Hd) (W : List Int) (h : RT w z gx d H W) (k j : Int) (hkj : k < 0 ∨ (H.length : Int) ≤ k ∨ j < 0 ∨ 2 ≤ j) (v : Int) :
 Calls Tryz.prog 90 #[.pointer (some ⟨z,0,none⟩),.int .i64 k,.int .i64 j,.int .u64 v] w fun e w' => e = .returned (.int .i64 2) ∧ w = w' := by
 by_cases h0 : k < 0 ∨ (H.length : Int) ≤ k
 ·
  have QT := Lib.hid (rthere_no w z gx d H W h k h0)
  clear h hkj h0
  go_enter Tryz.func90,Tryz.ntmps90
  go_wp2_with fail
  refine QT.out.mono ?_
  rintro e wa ⟨rfl,rfl⟩
  go_wp2_with fail
  go_ret
  exact ⟨rfl,rfl⟩
 ·
  have QT := Lib.hid (rthere_yes w z gx d H W h k (by omega) (by omega))
  clear h
  by_cases h1 : j < 0
  ·
   clear hkj h0
   go_enter Tryz.func90,Tryz.ntmps90
   go_wp2_with fail
   refine QT.out.mono ?_
   rintro e wa ⟨rfl,rfl⟩
   go_wp2_with fail
   go_ret
   exact ⟨rfl,rfl⟩
  ·
   have h2 : 1 < j := by omega
   clear hkj h0
   go_enter Tryz.func90,Tryz.ntmps90
   go_wp2_with fail
   refine QT.out.mono ?_
   rintro e wa ⟨rfl,rfl⟩
   go_wp2_with fail
   go_ret
   exact ⟨rfl,rfl⟩
set_option maxRecDepth 100000 in
set_option maxHeartbeats 1000000 in
theorem rput6_0 (w : World) (z gx d : Nat) (H : List Hd) (W : List Int) (h : RT w z gx d H W) (lb : Nat) (s : MS) (hm : MetAt XT w (some gx) lb s) (hl : s.log.length < 2199023255552) (k : Nat) (hk : k < H.length) (v : Int) :
 Calls Tryz.prog 90 #[.pointer (some ⟨z,0,none⟩),.int .i64 k,.int .i64 0,.int .u64 v] w fun e w' => e = .returned (.int .i64 0) ∧ RTLeft z gx d H (W.set (2 * k + 0) v) lb (s.note 4 (2 * k + 0 : Nat) 2 true) w w' := by
 have k0 : (0 : Int) ≤ (k : Int) := by omega
 have kl : (k : Int) < (H.length : Int) := by omega
 have h8 := h.n8
 obtain ⟨x,hx⟩ : ∃ x,H[k]? = some x := ⟨_,List.getElem?_eq_getElem hk⟩
 obtain ⟨a,b,ha,hb,hy⟩ := h.two hx
 obtain ⟨p,hp⟩ : ∃ p : Nat,2 * k + 0 = p := ⟨_,rfl⟩
 have e1 : IntKind.i64.wrap (2 * (k : Int)) = 2 * (k : Int) := by rw [IntKind.wrap_i64]; omega
 have e2 : IntKind.i64.wrap (2 * (k : Int)) = (p : Int) := by rw [IntKind.wrap_i64]; omega
 have e0 : 2 * (k : Int) = (p : Int) := by omega
 have hlw := slL_set_word0 H W k x a b v h.len hx ha hb
 have HLW := Lib.hid hlw
 have HT := Lib.hid (rthere_yes w z gx d H W h k k0 kl)
 have HN := Lib.hid (rnote6 w z gx d H W h lb s hm hl 4 p 2 true)
 have HY := Lib.hid hy
 have HP := Lib.hid hp
 have Hh := Lib.hid h
 have HM := Lib.hid hm
 have hzd := h.zd
 have hzd' := hzd.symm
 clear h hm hl hx ha hb hy hp hlw
 go_enter Tryz.func90,Tryz.ntmps90
 go_wp2_with fail
 refine HT.out.mono ?_
 rintro e wa ⟨rfl,rfl⟩
 go_wp2_with fail
 refine HN.out.mono ?_
 rintro e w1 ⟨rfl,hn⟩
 have h1 := Hh.out.noted HM.out hn
 have d1 : w1.cell? ⟨z,1,none⟩ = some (.slice (some ⟨d,0,none⟩) H.length H.length) := (h1.blk.cell 1).trans rfl
 have m0 : w1.cell? ⟨d,k * 8,none⟩ = some (.int .i64 x.gen) := h1.at_ HY.out 0 _ rfl
 have m1 : w1.cell? ⟨d,k * 8 + 1,none⟩ = some (.int .i64 x.state) := h1.at_ HY.out 1 _ rfl
 have m2 : w1.cell? ⟨d,k * 8 + 2,none⟩ = some (.int .i64 x.stamp) := h1.at_ HY.out 2 _ rfl
 have m3 : w1.cell? ⟨d,k * 8 + 3,none⟩ = some (.int .i64 x.thread) := h1.at_ HY.out 3 _ rfl
 have m4 : w1.cell? ⟨d,k * 8 + 4,none⟩ = some (.bool x.doomed) := h1.at_ HY.out 4 _ rfl
 have m5 : w1.cell? ⟨d,k * 8 + 5,none⟩ = some (.int .i64 x.who) := h1.at_ HY.out 5 _ rfl
 have m6 : w1.cell? ⟨d,k * 8 + 6,none⟩ = some (.int .u64 a) := h1.at_ HY.out 6 _ rfl
 have m7 : w1.cell? ⟨d,k * 8 + 7,none⟩ = some (.int .u64 b) := h1.at_ HY.out 7 _ rfl
 have H1 := Lib.hid h1
 have HN2 := Lib.hid hn
 have nz : z ≠ w1.heap.size := by have := h1.blk.lt; omega
 have nd : d ≠ w1.heap.size := by have := h1.row.lt; omega
 clear hn h1 HN HT
 go_upto_region 6 with fail
 have ka : Keeps [] w1 (w1.alloc (.cells #[.int .i64 x.gen,.int .i64 x.state,.int .i64 x.stamp,.int .i64 x.thread,.bool x.doomed,.int .i64 x.who,.int .u64 v,.int .u64 b] 224)) := Sq.r.alloc _
 have bs : Blk (w1.alloc (.cells #[.int .i64 x.gen,.int .i64 x.state,.int .i64 x.stamp,.int .i64 x.thread,.bool x.doomed,.int .i64 x.who,.int .u64 v,.int .u64 b] 224)) w1.heap.size 224 #[.int .i64 x.gen,.int .i64 x.state,.int .i64 x.stamp,.int .i64 x.thread,.bool x.doomed,.int .i64 x.who,.int .u64 v,.int .u64 b] := Blk.new _ _ _
 have h2 := H1.out.keeps ka (by simp) (by simp)
 clear d1 m0 m1 m2 m3 m4 m5 m6 m7
 have KK := Lib.hid ka
 have H2 := Lib.hid h2
 generalize hw2 : (w1.alloc (.cells #[.int .i64 x.gen,.int .i64 x.state,.int .i64 x.stamp,.int .i64 x.thread,.bool x.doomed,.int .i64 x.who,.int .u64 v,.int .u64 b] 224)) = w2 at *
 clear hw2
 have d2 : w2.cell? ⟨z,1,none⟩ = some (.slice (some ⟨d,0,none⟩) H.length H.length) := (h2.blk.cell 1).trans rfl
 have n0 : w2.cell? ⟨d,k * 8,none⟩ = some (.int .i64 x.gen) := h2.at_ HY.out 0 _ rfl
 have f0 := h2.row.frozen (k * 8)
 have n1 : w2.cell? ⟨d,k * 8 + 1,none⟩ = some (.int .i64 x.state) := h2.at_ HY.out 1 _ rfl
 have f1 := h2.row.frozen (k * 8 + 1)
 have n2 : w2.cell? ⟨d,k * 8 + 2,none⟩ = some (.int .i64 x.stamp) := h2.at_ HY.out 2 _ rfl
 have f2 := h2.row.frozen (k * 8 + 2)
 have n3 : w2.cell? ⟨d,k * 8 + 3,none⟩ = some (.int .i64 x.thread) := h2.at_ HY.out 3 _ rfl
 have f3 := h2.row.frozen (k * 8 + 3)
 have n4 : w2.cell? ⟨d,k * 8 + 4,none⟩ = some (.bool x.doomed) := h2.at_ HY.out 4 _ rfl
 have f4 := h2.row.frozen (k * 8 + 4)
 have n5 : w2.cell? ⟨d,k * 8 + 5,none⟩ = some (.int .i64 x.who) := h2.at_ HY.out 5 _ rfl
 have f5 := h2.row.frozen (k * 8 + 5)
 have n6 : w2.cell? ⟨d,k * 8 + 6,none⟩ = some (.int .u64 a) := h2.at_ HY.out 6 _ rfl
 have f6 := h2.row.frozen (k * 8 + 6)
 have n7 : w2.cell? ⟨d,k * 8 + 7,none⟩ = some (.int .u64 b) := h2.at_ HY.out 7 _ rfl
 have f7 := h2.row.frozen (k * 8 + 7)
 have s0 : w2.cell? ⟨w1.heap.size,0,none⟩ = some (.int .i64 x.gen) := (bs.cell 0).trans rfl
 have s1 : w2.cell? ⟨w1.heap.size,1,none⟩ = some (.int .i64 x.state) := (bs.cell 1).trans rfl
 have s2 : w2.cell? ⟨w1.heap.size,2,none⟩ = some (.int .i64 x.stamp) := (bs.cell 2).trans rfl
 have s3 : w2.cell? ⟨w1.heap.size,3,none⟩ = some (.int .i64 x.thread) := (bs.cell 3).trans rfl
 have s4 : w2.cell? ⟨w1.heap.size,4,none⟩ = some (.bool x.doomed) := (bs.cell 4).trans rfl
 have s5 : w2.cell? ⟨w1.heap.size,5,none⟩ = some (.int .i64 x.who) := (bs.cell 5).trans rfl
 have s6 : w2.cell? ⟨w1.heap.size,6,none⟩ = some (.int .u64 v) := (bs.cell 6).trans rfl
 have s7 : w2.cell? ⟨w1.heap.size,7,none⟩ = some (.int .u64 b) := (bs.cell 7).trans rfl
 clear h2 ka bs
 go_wp2_with fail
 go_region
 go_wp2_with fail
 go_ret
 rw [HP.out]
 exact ⟨rfl,Hh.out.left HM.out Sq.r HN2.out ((H2.out.put_slot (k := k) ⟨x,v,b⟩ (by rw [HP.out.symm]; exact HLW.out) (by simp)).keeps (Keeps.refl [] _).drew (by simp) (by simp)) (S := [d]) (fun q hq => by simp at hq; exact .inl hq) (((KK.out.mono (T := [d]) (by simp)).trans ((((((((Sq.r.setCell (.inl (by simp)) _).setCell (.inl (by simp)) _).setCell (.inl (by simp)) _).setCell (.inl (by simp)) _).setCell (.inl (by simp)) _).setCell (.inl (by simp)) _).setCell (.inl (by simp)) _).setCell (.inl (by simp)) _ : Keeps [d] w2 _) (fun q hq => .inl hq)).drew)⟩
set_option maxRecDepth 100000 in
set_option maxHeartbeats 1000000 in
theorem rput6_1 (w : World) (z gx d : Nat) (H : List Hd) (W : List Int) (h : RT w z gx d H W) (lb : Nat) (s : MS) (hm : MetAt XT w (some gx) lb s) (hl : s.log.length < 2199023255552) (k : Nat) (hk : k < H.length) (v : Int) :
 Calls Tryz.prog 90 #[.pointer (some ⟨z,0,none⟩),.int .i64 k,.int .i64 1,.int .u64 v] w fun e w' => e = .returned (.int .i64 0) ∧ RTLeft z gx d H (W.set (2 * k + 1) v) lb (s.note 4 (2 * k + 1 : Nat) 2 true) w w' := by
 have k0 : (0 : Int) ≤ (k : Int) := by omega
 have kl : (k : Int) < (H.length : Int) := by omega
 have h8 := h.n8
 obtain ⟨x,hx⟩ : ∃ x,H[k]? = some x := ⟨_,List.getElem?_eq_getElem hk⟩
 obtain ⟨a,b,ha,hb,hy⟩ := h.two hx
 obtain ⟨p,hp⟩ : ∃ p : Nat,2 * k + 1 = p := ⟨_,rfl⟩
 have e1 : IntKind.i64.wrap (2 * (k : Int)) = 2 * (k : Int) := by rw [IntKind.wrap_i64]; omega
 have e2 : IntKind.i64.wrap (2 * (k : Int) + 1) = (p : Int) := by rw [IntKind.wrap_i64]; omega
 have e0 : 2 * (k : Int) + 1 = (p : Int) := by omega
 have hlw := slL_set_word1 H W k x a b v h.len hx ha hb
 have HLW := Lib.hid hlw
 have HT := Lib.hid (rthere_yes w z gx d H W h k k0 kl)
 have HN := Lib.hid (rnote6 w z gx d H W h lb s hm hl 4 p 2 true)
 have HY := Lib.hid hy
 have HP := Lib.hid hp
 have Hh := Lib.hid h
 have HM := Lib.hid hm
 have hzd := h.zd
 have hzd' := hzd.symm
 clear h hm hl hx ha hb hy hp hlw
 go_enter Tryz.func90,Tryz.ntmps90
 go_wp2_with fail
 refine HT.out.mono ?_
 rintro e wa ⟨rfl,rfl⟩
 go_wp2_with fail
 refine HN.out.mono ?_
 rintro e w1 ⟨rfl,hn⟩
 have h1 := Hh.out.noted HM.out hn
 have d1 : w1.cell? ⟨z,1,none⟩ = some (.slice (some ⟨d,0,none⟩) H.length H.length) := (h1.blk.cell 1).trans rfl
 have m0 : w1.cell? ⟨d,k * 8,none⟩ = some (.int .i64 x.gen) := h1.at_ HY.out 0 _ rfl
 have m1 : w1.cell? ⟨d,k * 8 + 1,none⟩ = some (.int .i64 x.state) := h1.at_ HY.out 1 _ rfl
 have m2 : w1.cell? ⟨d,k * 8 + 2,none⟩ = some (.int .i64 x.stamp) := h1.at_ HY.out 2 _ rfl
 have m3 : w1.cell? ⟨d,k * 8 + 3,none⟩ = some (.int .i64 x.thread) := h1.at_ HY.out 3 _ rfl
 have m4 : w1.cell? ⟨d,k * 8 + 4,none⟩ = some (.bool x.doomed) := h1.at_ HY.out 4 _ rfl
 have m5 : w1.cell? ⟨d,k * 8 + 5,none⟩ = some (.int .i64 x.who) := h1.at_ HY.out 5 _ rfl
 have m6 : w1.cell? ⟨d,k * 8 + 6,none⟩ = some (.int .u64 a) := h1.at_ HY.out 6 _ rfl
 have m7 : w1.cell? ⟨d,k * 8 + 7,none⟩ = some (.int .u64 b) := h1.at_ HY.out 7 _ rfl
 have H1 := Lib.hid h1
 have HN2 := Lib.hid hn
 have nz : z ≠ w1.heap.size := by have := h1.blk.lt; omega
 have nd : d ≠ w1.heap.size := by have := h1.row.lt; omega
 clear hn h1 HN HT
 go_upto_region 6 with fail
 have ka : Keeps [] w1 (w1.alloc (.cells #[.int .i64 x.gen,.int .i64 x.state,.int .i64 x.stamp,.int .i64 x.thread,.bool x.doomed,.int .i64 x.who,.int .u64 a,.int .u64 v] 224)) := Sq.r.alloc _
 have bs : Blk (w1.alloc (.cells #[.int .i64 x.gen,.int .i64 x.state,.int .i64 x.stamp,.int .i64 x.thread,.bool x.doomed,.int .i64 x.who,.int .u64 a,.int .u64 v] 224)) w1.heap.size 224 #[.int .i64 x.gen,.int .i64 x.state,.int .i64 x.stamp,.int .i64 x.thread,.bool x.doomed,.int .i64 x.who,.int .u64 a,.int .u64 v] := Blk.new _ _ _
 have h2 := H1.out.keeps ka (by simp) (by simp)
 clear d1 m0 m1 m2 m3 m4 m5 m6 m7
 have KK := Lib.hid ka
 have H2 := Lib.hid h2
 generalize hw2 : (w1.alloc (.cells #[.int .i64 x.gen,.int .i64 x.state,.int .i64 x.stamp,.int .i64 x.thread,.bool x.doomed,.int .i64 x.who,.int .u64 a,.int .u64 v] 224)) = w2 at *
 clear hw2
 have d2 : w2.cell? ⟨z,1,none⟩ = some (.slice (some ⟨d,0,none⟩) H.length H.length) := (h2.blk.cell 1).trans rfl
 have n0 : w2.cell? ⟨d,k * 8,none⟩ = some (.int .i64 x.gen) := h2.at_ HY.out 0 _ rfl
 have f0 := h2.row.frozen (k * 8)
 have n1 : w2.cell? ⟨d,k * 8 + 1,none⟩ = some (.int .i64 x.state) := h2.at_ HY.out 1 _ rfl
 have f1 := h2.row.frozen (k * 8 + 1)
 have n2 : w2.cell? ⟨d,k * 8 + 2,none⟩ = some (.int .i64 x.stamp) := h2.at_ HY.out 2 _ rfl
 have f2 := h2.row.frozen (k * 8 + 2)
 have n3 : w2.cell? ⟨d,k * 8 + 3,none⟩ = some (.int .i64 x.thread) := h2.at_ HY.out 3 _ rfl
 have f3 := h2.row.frozen (k * 8 + 3)
 have n4 : w2.cell? ⟨d,k * 8 + 4,none⟩ = some (.bool x.doomed) := h2.at_ HY.out 4 _ rfl
 have f4 := h2.row.frozen (k * 8 + 4)
 have n5 : w2.cell? ⟨d,k * 8 + 5,none⟩ = some (.int .i64 x.who) := h2.at_ HY.out 5 _ rfl
 have f5 := h2.row.frozen (k * 8 + 5)
 have n6 : w2.cell? ⟨d,k * 8 + 6,none⟩ = some (.int .u64 a) := h2.at_ HY.out 6 _ rfl
 have f6 := h2.row.frozen (k * 8 + 6)
 have n7 : w2.cell? ⟨d,k * 8 + 7,none⟩ = some (.int .u64 b) := h2.at_ HY.out 7 _ rfl
 have f7 := h2.row.frozen (k * 8 + 7)
 have s0 : w2.cell? ⟨w1.heap.size,0,none⟩ = some (.int .i64 x.gen) := (bs.cell 0).trans rfl
 have s1 : w2.cell? ⟨w1.heap.size,1,none⟩ = some (.int .i64 x.state) := (bs.cell 1).trans rfl
 have s2 : w2.cell? ⟨w1.heap.size,2,none⟩ = some (.int .i64 x.stamp) := (bs.cell 2).trans rfl
 have s3 : w2.cell? ⟨w1.heap.size,3,none⟩ = some (.int .i64 x.thread) := (bs.cell 3).trans rfl
 have s4 : w2.cell? ⟨w1.heap.size,4,none⟩ = some (.bool x.doomed) := (bs.cell 4).trans rfl
 have s5 : w2.cell? ⟨w1.heap.size,5,none⟩ = some (.int .i64 x.who) := (bs.cell 5).trans rfl
 have s6 : w2.cell? ⟨w1.heap.size,6,none⟩ = some (.int .u64 a) := (bs.cell 6).trans rfl
 have s7 : w2.cell? ⟨w1.heap.size,7,none⟩ = some (.int .u64 v) := (bs.cell 7).trans rfl
 clear h2 ka bs
 go_wp2_with fail
 go_region
 go_wp2_with fail
 go_ret
 rw [HP.out]
 exact ⟨rfl,Hh.out.left HM.out Sq.r HN2.out ((H2.out.put_slot (k := k) ⟨x,a,v⟩ (by rw [HP.out.symm]; exact HLW.out) (by simp)).keeps (Keeps.refl [] _).drew (by simp) (by simp)) (S := [d]) (fun q hq => by simp at hq; exact .inl hq) (((KK.out.mono (T := [d]) (by simp)).trans ((((((((Sq.r.setCell (.inl (by simp)) _).setCell (.inl (by simp)) _).setCell (.inl (by simp)) _).setCell (.inl (by simp)) _).setCell (.inl (by simp)) _).setCell (.inl (by simp)) _).setCell (.inl (by simp)) _).setCell (.inl (by simp)) _ : Keeps [d] w2 _) (fun q hq => .inl hq)).drew)⟩
end Go.Proofs.YtmlnedilbneekaaGreat