/- What make lays. -/
import Derived.WalkKit
import Derived.Below
import Derived.Laws.OwnMore
import Derived.Deep.Draws
import Derived.Laws.Rows
import Derived.Lib.Hide
import Derived.Maps.AppendAt
import Derived.OwnWalk
import Derived.RegionTactic
import Derived.Laws.MakeOwn
import Derived.Laws.CopyOwn
namespace Go.Proofs.YtmlnedilbneekaaGreat
open Go.RowKit
set_option linter.unusedVariables false
def Blk (w : World) (g : Nat) (t : TypeId) (cs : Array Value) : Prop := w.heap[g]? = some (.cells cs t (0,0))
structure Keeps (S : List Nat) (w w' : World) : Prop where
 os : w'.os = w.os
 tape : w'.tape = w.tape
 output : w'.output = w.output
 size : w.heap.size ≤ w'.heap.size
 block : ∀ k,k < w.heap.size → k ∉ S → w'.heap[k]? = w.heap[k]?
section
variable {S T : List Nat} {a b c w w' : World}
@[simp] theorem Keeps.refl (S : List Nat) (w : World) : Keeps S w w := ⟨rfl,rfl,rfl,Nat.le_refl _,fun _ _ _ => rfl⟩
theorem Keeps.trans (h : Keeps S a b) (k : Keeps T b c) (hT : ∀ x,x ∈ T → x ∈ S ∨ a.heap.size ≤ x) : Keeps S a c :=
 ⟨k.os.trans h.os,k.tape.trans h.tape,k.output.trans h.output,Nat.le_trans h.size k.size,fun i hi hS =>
  (k.block i (Nat.lt_of_lt_of_le hi h.size) (fun hx => by
    rcases hT i hx with h1 | h1
    · exact hS h1
    · omega)).trans (h.block i hi hS)⟩
theorem Keeps.mono (h : Keeps S a b) (hS : ∀ x,x ∈ S → x ∈ T ∨ a.heap.size ≤ x) : Keeps T a b := (Keeps.refl T a).trans h hS
@[simp] theorem Keeps.drew (h : Keeps S a w) : Keeps S a w.drew := ⟨h.os,h.tape,h.output,h.size,h.block⟩
@[simp] theorem Keeps.drewN (h : Keeps S a w) (n : Nat) : Keeps S a (w.drewN n) := ⟨h.os,h.tape,h.output,h.size,h.block⟩
theorem Keeps.undrew (h : Keeps S w.drew w') : Keeps S w w' := ⟨h.os,h.tape,h.output,h.size,h.block⟩
@[simp] theorem Keeps.alloc (h : Keeps S a w) (o : Obj) : Keeps S a (w.alloc o) :=
 h.trans (T := []) ⟨rfl,rfl,rfl,by simp,fun k hk _ => Below.heap_alloc _ _ _ hk⟩ (by simp)
@[simp] theorem Keeps.setCell (h : Keeps S a w) {p : Addr} (hp : p.block ∈ S ∨ a.heap.size ≤ p.block) (u : Value) : Keeps S a (w.setCell p u) :=
 h.trans (T := [p.block]) ⟨rfl,rfl,rfl,by simp [World.setCell],fun k _ hk => Below.heap_setCell _ _ _ _ (by simpa using hk)⟩ (by simpa using hp)
theorem Keeps.grown (h : Keeps S a w) {row : Option Nat} (hg : w.grownBy w' row) (hr : ∀ k,row = some k → k ∈ S ∨ a.heap.size ≤ k) : Keeps S a w' :=
 h.trans (T := row.toList) ⟨hg.os,hg.tape,hg.output,hg.size,fun k hk hS => hg.block k hk (fun e => hS (by simp [← e]))⟩ (by simpa using hr)
theorem Keeps.below {B : Nat} (h : Keeps S a w) (hS : ∀ x,x ∈ S → B ≤ x) (hB : B ≤ a.heap.size) : Below B a w :=
 ⟨h.os,h.tape,h.output,h.size,fun k hk => h.block k (by omega) (fun hx => by have := hS k hx; omega)⟩
end
theorem new_at (w : World) (o : Obj) (k : Nat) (hk : w.heap.size = k) : (w.alloc o).heap[k]? = some o := by subst hk; exact heap_alloc_new w o
section
variable {S : List Nat} {w w' : World} {g : Nat} {t : TypeId} {cs : Array Value}
theorem Blk.lt (h : Blk w g t cs) : g < w.heap.size := by
 rcases Nat.lt_or_ge g w.heap.size with hlt | hge
 · exact hlt
 · unfold Blk at h; rw [Array.getElem?_eq_none hge] at h; cases h
theorem Blk.cell (h : Blk w g t cs) (i : Nat) : w.cell? ⟨g,i,none⟩ = cs[i]? := cell_of_row w g i cs t (0,0) h
theorem Blk.frozen (h : Blk w g t cs) (i : Nat) : w.frozen? ⟨g,i,none⟩ = false := by
 unfold Blk at h
 simp [World.frozen?,h]
theorem Blk.new (w : World) (t : TypeId) (cs : Array Value) : Blk (w.alloc (.cells cs t)) w.heap.size t cs := heap_alloc_new w _
theorem Blk.drew (h : Blk w g t cs) : Blk w.drew g t cs := h
theorem Blk.drewN (h : Blk w g t cs) (n : Nat) : Blk (w.drewN n) g t cs := h
theorem Blk.alloc (h : Blk w g t cs) (o : Obj) : Blk (w.alloc o) g t cs := (Below.heap_alloc w o g h.lt).trans h
theorem Blk.set_ (h : Blk w g t cs) (i : Nat) (u : Value) : Blk (w.setCell ⟨g,i,none⟩ u) g t (cs.setIfInBounds i u) := by
 unfold Blk at h ⊢
 simp [World.setCell,Array.getElem?_modify,h]
theorem Blk.far (h : Blk w g t cs) {p : Addr} (hp : g ≠ p.block) (u : Value) : Blk (w.setCell p u) g t cs := (Below.heap_setCell w p u g hp).trans h
theorem Blk.keeps (h : Blk w g t cs) (hk : Keeps S w w') (hg : g ∉ S) : Blk w' g t cs := (hk.block g h.lt hg).trans h
theorem Blk.grown {row : Option Nat} (h : Blk w g t cs) (hb : w.grownBy w' row) (hg : some g ≠ row) : Blk w' g t cs := (hb.block g h.lt hg).trans h
theorem Blk.ne_ {g' : Nat} {t' : TypeId} {cs' : Array Value} (h : Blk w g t cs) (h' : Blk w g' t' cs') (hne : t ≠ t') : g ≠ g' := by
 rintro rfl
 unfold Blk at h h'
 rw [h] at h'
 injection h' with h'
 injection h' with _ ht
 exact hne ht
theorem own_blk_ne {base : Nat} {e : TypeId} {size n : Nat} {v : Value} {xs : List Value} (h : w.ownsRow base e size v n xs) (hg : Blk w g t cs) (hne : e ≠ t) : v.ownBlock ≠ some g := by
 rcases h.2 with ⟨rfl,_⟩ | ⟨g',cap,cur,rfl,_,hh,_⟩
 · simp [Value.ownBlock]
 · intro he
   have : g' = g := by simpa [Value.ownBlock] using he
   subst this
   exact Blk.ne_ (t := e) hh hg hne rfl
theorem own_lt {base : Nat} {e : TypeId} {size n : Nat} {v : Value} {xs : List Value} (h : w.ownsRow base e size v n xs) {k : Nat} (hk : v.ownBlock = some k) : k < w.heap.size := (h.lt k hk).2
theorem own_keeps {base : Nat} {e : TypeId} {size n : Nat} {v : Value} {xs : List Value} (h : w.ownsRow base e size v n xs) (hk : Keeps S w w') (hg : ∀ k,v.ownBlock = some k → k ∉ S) : w'.ownsRow base e size v n xs := by
 refine ⟨h.1,?_⟩
 rcases h.2 with hn | ⟨g,cap,cur,rfl,hb,hgg,rest⟩
 · exact .inl hn
 · refine .inr ⟨g,cap,cur,rfl,hb,?_,rest⟩
   rw [hk.block g (Array.getElem?_eq_some_iff.1 hgg).1 (hg g (by simp [Value.ownBlock]))]
   exact hgg
theorem own_base {base base' : Nat} {e : TypeId} {size n : Nat} {v : Value} {xs : List Value} (h : w.ownsRow base e size v n xs) (hb : ∀ k,v.ownBlock = some k → base' ≤ k) : w.ownsRow base' e size v n xs := by
 refine ⟨h.1,?_⟩
 rcases h.2 with hn | ⟨g,cap,cur,rfl,_,hgg,rest⟩
 · exact .inl hn
 · exact .inr ⟨g,cap,cur,rfl,hb g (by simp [Value.ownBlock]),hgg,rest⟩
end
section
variable {P : Program} {w : World}
theorem run_append_row (t ty e : TypeId) (i : TypeInfo) (z : Value) (size bytes : Nat) (ht : P.underlying t = some (.slice e)) (hi : P.info? e = some i) (hz : i.zero = some z)
 (hsize : i.size = size) (hby : i.bytes = bytes) (hzs : z.cells.size = size) (hsz : 0 < size) (v : Value) (n : Nat) (xs : List Value) (hown : w.ownsRow 0 e size v n xs)
 (v2 : Value) (m : Nat) (news : List Value) (hsrc : w.ownsRow 0 e size v2 m news) (h1 : ∀ u ∈ news,u.oneCell' = true) (h63 : n + m ≤ maxLen) (hbytes : (n + m) * bytes ≤ 140737488355328) :
 ∃ v' w',(Builtin.append_ #[t,t] ty #[v,v2]).run P w = .ok v' w' ∧ w'.ownsRow 0 e size v' (n + m) (xs ++ news) ∧ w.grownBy w' v.ownBlock ∧ (v'.ownBlock = v.ownBlock ∨ v'.ownBlock = some w.heap.size) := by
 rcases hsrc.2 with ⟨rfl,rfl⟩ | ⟨g2,cap2,cur2,rfl,_⟩
 · have hn : news = [] := List.eq_nil_of_length_eq_zero (by simpa using hsrc.1)
   subst hn
   refine ⟨v,w,?_,by simpa using hown,World.grownBy.refl w _,.inl rfl⟩
   rcases hown.2 with ⟨rfl,rfl⟩ | ⟨g,cap,cur,rfl,_,_,hnc,_⟩
   · simp [Builtin.append_,run_underlying ht,sizeOf,typeInfo,hi,Builtin.lenOf,Builtin.firstCells]
   · simp [Builtin.append_,run_underlying ht,sizeOf,typeInfo,hi,Builtin.lenOf,Builtin.firstCells,hnc,storeCells]
 · obtain ⟨v',w',hrun,h2,h3,_,h5⟩ := run_append_own_at (P := P) w 0 t ty e i z size bytes ht hi hz hsize hby hzs hsz v n xs hown ⟨g2,0,none⟩ m cap2 news hsrc.1 (hsrc.cells rfl) h1 h63 hbytes (Nat.zero_le _)
   exact ⟨v',w',hrun,h2,h3,h5⟩
theorem wpList_append_row {ops : Array Oper} {rest : List Oper} {o : Oper} {a : Act} {Q : Exit → Act → World → Prop} (hgd : o.guard = none) (s x : Operand) (t : TypeId)
 (ho : o.op = .call { callee := .builtin .append,args := #[s,x],argTypes := #[t,t] })
 (e : TypeId) (i : TypeInfo) (z : Value) (size bytes : Nat) (ht : P.underlying t = some (.slice e)) (hi : P.info? e = some i) (hz : i.zero = some z)
 (hsize : i.size = size) (hby : i.bytes = bytes) (hzs : z.cells.size = size) (hsz : 0 < size) (v : Value) (n : Nat) (xs : List Value) (hs : a.eval s = v) (hown : w.ownsRow 0 e size v n xs)
 (v2 : Value) (m : Nat) (news : List Value) (hx : a.eval x = v2) (hsrc : w.ownsRow 0 e size v2 m news) (h1 : ∀ u ∈ news,u.oneCell' = true) (h63 : n + m ≤ maxLen) (hbytes : (n + m) * bytes ≤ 140737488355328)
 (h : ∀ v' w',w'.ownsRow 0 e size v' (n + m) (xs ++ news) → w.grownBy w' v.ownBlock → (v'.ownBlock = v.ownBlock ∨ v'.ownBlock = some w.heap.size) → wpList P ops Q rest (a.put o.dst v') w') : wpList P ops Q (o :: rest) a w := by
 refine wpList_plain hgd fun K hK => ?_
 obtain ⟨v',w',hrun,h2,h3,h4⟩ := run_append_row (P := P) (w := w) t o.type e i z size bytes ht hi hz hsize hby hzs hsz v n xs hown v2 m news hsrc h1 h63 hbytes
 unfold Oper.wp execOp
 simp only [ho,resolve,invoke,builtin,Sem.run_bind,Sem.run_pure,Result.andThen_ok,List.map_toArray,List.map_cons,List.map_nil,hs,hx,hrun]
 exact hK _ _ (h v' w' h2 h3 h4)
end
def NewRow (e size n : Nat) (xs : List Value) (S : List Nat) (w w' : World) (v : Value) : Prop :=
 w'.ownsRow w.heap.size e size v n xs ∧ Keeps S w w'
open Go.RowKit
theorem rep_get {α : Type} (f : α → List Value) (size : Nat) (hs : 0 < size) (hf : ∀ x,(f x).length = size) (x : α) (n i : Nat) (hi : i < n * size) : ((List.replicate n x).flatMap f)[i]? = (f x)[i % size]? := by
 induction n generalizing i with
 | zero => omega
 | succ n ih =>
   have e : (n + 1) * size = n * size + size := by rw [Nat.add_mul]; omega
   rw [List.replicate_succ,List.flatMap_cons]
   by_cases h : i < size
   · rw [List.getElem?_append_left (by rw [hf]; exact h),Nat.mod_eq_of_lt h]
   · rw [List.getElem?_append_right (by rw [hf]; omega),hf,ih (i - size) (by omega)]
     rw [← Nat.mod_eq_sub_mod (by omega)]
theorem rep_len {α : Type} (f : α → List Value) (size : Nat) (hf : ∀ x,(f x).length = size) (x : α) (n : Nat) : ((List.replicate n x).flatMap f).length = n * size := by
 induction n with
 | zero => simp
 | succ n ih => rw [List.replicate_succ,List.flatMap_cons,List.length_append,ih,hf,Nat.add_mul]; omega
theorem madeCells_rep {α : Type} (f : α → List Value) (size : Nat) (hs : 0 < size) (hf : ∀ x,(f x).length = size) (x : α) (n : Nat) {z : Array Value} (hz : z = (f x).toArray) : madeCells z (n * size) = ((List.replicate n x).flatMap f).toArray := by
 subst hz
 apply Array.ext
 · rw [size_madeCells]; simp only [List.size_toArray]; rw [rep_len f size hf]
 ·
  intro i h1 h2
  have hi : i < n * size := by simpa [size_madeCells] using h1
  have hg := rep_get f size hs hf x n i hi
  have hlt : i % size < (f x).length := by rw [hf]; exact Nat.mod_lt _ hs
  rw [List.getElem?_eq_getElem hlt] at hg
  simp only [madeCells,Array.getElem_map,Array.getElem_range,List.size_toArray,hf]
  rw [List.getElem?_eq_some_iff] at hg
  obtain ⟨_,hg⟩ := hg
  rw [List.getElem_toArray,hg,getElem!_pos _ _ (by simpa using hlt)]
  simp
namespace Sq
theorem t {α : Type} {l : List α} {i : Nat} {a : α} : l.toArray.setIfInBounds i a = (l.set i a).toArray := List.setIfInBounds_toArray _ _ _
theorem z {α : Type} {x y : α} {l : List α} : (x :: l).set 0 y = y :: l := List.set_cons_zero
theorem s {α : Type} {x y : α} {l : List α} {n : Nat} : (x :: l).set (n + 1) y = x :: l.set n y := List.set_cons_succ
theorem kp {w w' : World} (h : Keeps [] w w' := by first | with_reducible assumption | with_reducible exact Keeps.drew (by with_reducible assumption)) : Keeps [] w w' := h
theorem kq {w w' : World} (h : Keeps [] w w' := by first | assumption | exact Keeps.drew (by assumption)) : Keeps [] w w' := h
theorem r {X : List Nat} {w : World} : Keeps X w w := Keeps.refl X w
end Sq
end Go.Proofs.YtmlnedilbneekaaGreat