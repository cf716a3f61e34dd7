/- Layer 12: the document's look: New refused. -/
import Derived.Deep.AppendLies
import Derived.Below
import Derived.Test.YtmlnedilbneekaaGreatRp
import Derived.Test.YtmlnedilbneekaaGreatRegT
import Derived.Deep.QuietTactic
import Derived.BigQuiet
set_option linter.unusedVariables false
set_option linter.unusedSimpArgs false
namespace Go.Proofs.YtmlnedilbneekaaGreat
open Go
section
variable {P : Program} (w : World)
theorem run_append_kept (base : Nat) (t ty e : TypeId) (i : TypeInfo) (z : Value) (size bytes : Nat) (ht : P.underlying t = some (.slice e)) (hi : P.info? e = some i) (hz : i.zero = some z)
 (hsize : i.size = size) (hby : i.bytes = bytes) (hzs : z.cells.size = size) (hsz : 0 < size)
 (v : Value) (n : Nat) (xs : List Value) (hown : w.ownsRow base e size v n xs)
 (a : Addr) (m c : Nat) (news : List Value) (hl : news.length = m * size) (hnews : ∀ j u,news[j]? = some u → w.cell? (a.add j) = some u) (h1 : ∀ u ∈ news,u.oneCell' = true)
 (hm0 : 0 < m) (h63 : n + m ≤ maxLen) (hbytes : (n + m) * bytes ≤ 140737488355328) (hbase : base ≤ w.heap.size) :
 ∃ g cap w',(Builtin.append_ #[t,t] ty #[v,.slice (some a) m c]).run P w = .ok (.slice (some ⟨g,0,none⟩) (n + m) cap) w' ∧ w'.ownsRow base e size (.slice (some ⟨g,0,none⟩) (n + m) cap) (n + m) (xs ++ news) ∧
  ((v.ownBlock = some g ∧ w.grownBy w' v.ownBlock) ∨ (g = w.heap.size ∧ w.grownBy w' none)) := by
 subst hsize
 subst hby
 have hsmall : n + m ≤ 9223372036854775807 := by simp only [maxLen] at h63; omega
 obtain ⟨v',w',hr,h2,h3,_,h5⟩ := run_append_own_at (P := P) w base t ty e i z i.size i.bytes ht hi hz rfl rfl hzs hsz v n xs hown a m c news hl hnews h1 h63 hbytes hbase
 obtain ⟨g,cap,rfl,_,hlt⟩ := h2.form (by omega)
 refine ⟨g,cap,w',hr,h2,?_⟩
 have calm : ∀ o : Obj,w.grownBy (w.drew.alloc o) none := fun o => ⟨rfl,rfl,rfl,by simp,fun k hk _ => Go.RowKit.Below.heap_alloc w.drew o k hk⟩
 rcases hown.2 with ⟨rfl,rfl⟩ | ⟨g0,cap0,cur,rfl,hbg,hg,hnc,hcm,hcs,htake⟩
 · have h6 := h5.resolve_left (by simp [Value.ownBlock])
   · refine .inr ⟨by simpa [Value.ownBlock] using h6,?_⟩
     exact h3
 ·
  by_cases hroom : n + m ≤ cap0
  ·
   rcases h5 with h5 | h5
   · exact .inl ⟨h5 ▸ rfl,h3⟩
   · have hfit : n * i.size + news.length ≤ cur.size := by rw [hl,hcs,← Nat.add_mul]; exact Nat.mul_le_mul_right _ hroom
     have hr2 := run_append_room (P := P) w t ty e i ht hi g0 n cap0 cur hg a m c news hl hnews h1 hroom hfit
     rw [hr] at hr2
     injection hr2 with hv hr2
     injection hv with hv
     injection hv with hv
     injection hv with hv
     exact .inl ⟨by rw [hv]; rfl,h3⟩
  ·
   have holds : ∀ j u,xs[j]? = some u → w.cell? ((⟨g0,0,none⟩ : Addr).add j) = some u := hown.cells (g := g0) rfl
   have hr2 := run_append_grow (P := P) w t ty e i z ht hi hz ⟨g0,0,none⟩ n cap0 xs hown.1 holds a m c news hl hnews (by omega) (by omega) (growslice_fits (by omega) hbytes)
   rw [hr] at hr2
   injection hr2 with hv hr2
   injection hv with hv
   injection hv with hv
   injection hv with hv
   refine .inr ⟨hv,?_⟩
   rw [hr2]
   exact calm _
theorem step_append_kept {ops : Array Oper} {o : Oper} {a : Act} {K : Act → World → Prop} {Q : Exit → Act → World → Prop} {E : Prop} (hgd : o.guard = none) (s x : Operand) (t : TypeId)
 (ho : o.op = .call { callee := .builtin .append,args := #[s,x],argTypes := #[t,t] })
 (base : Nat) (e : TypeId) (i : TypeInfo) (z : Value) (size bytes : Nat) (ht : P.underlying t = some (.slice e)) (hi : P.info? e = some i) (hz : i.zero = some z)
 (hsize : i.size = size) (hby : i.bytes = bytes) (hzs : z.cells.size = size) (hsz : 0 < size)
 (v : Value) (n : Nat) (xs : List Value) (hs : a.eval s = v) (hown : w.ownsRow base e size v n xs)
 (ad : Addr) (m c : Nat) (news : List Value) (hx : a.eval x = .slice (some ad) m c) (hl : news.length = m * size) (hnews : ∀ j u,news[j]? = some u → w.cell? (ad.add j) = some u) (h1 : ∀ u ∈ news,u.oneCell' = true)
 (hm : 0 < m) (h63 : n + m ≤ maxLen) (hbytes : (n + m) * bytes ≤ 140737488355328) (hbase : base ≤ w.heap.size)
 (h : ∀ g cap w',w'.ownsRow base e size (.slice (some ⟨g,0,none⟩) (n + m) cap) (n + m) (xs ++ news) → ((v.ownBlock = some g ∧ w.grownBy w' v.ownBlock) ∨ (g = w.heap.size ∧ w.grownBy w' none)) → K (a.put o.dst (.slice (some ⟨g,0,none⟩) (n + m) cap)) w') :
 if Region.wanted o (yielded ops a.tmps) = true then Oper.wp P o a w K Q else E := by
 have hw : Region.wanted o (yielded ops a.tmps) = true := by simp [Region.wanted,hgd]
 rw [if_pos hw]
 obtain ⟨g,cap,w',hr,h2,h3⟩ := run_append_kept (P := P) w base t o.type e i z size bytes ht hi hz hsize hby hzs hsz v n xs hown ad m c news hl hnews h1 hm h63 hbytes hbase
 unfold Oper.wp execOp
 simp only [ho,resolve,invoke,builtin,Sem.run_bind,Sem.run_pure,Result.andThen_ok,List.map_toArray,List.map_cons,List.map_nil,hs,hx,hr]
 exact h g cap w' h2 h3
theorem grown_of_kept {w w' : World} {o : Option Nat} {g : Nat} {A : Prop} (h : (A ∧ w.grownBy w' o) ∨ (g = w.heap.size ∧ w.grownBy w' none)) : w.grownBy w' o := by
 rcases h with ⟨_,h⟩ | ⟨_,h⟩
 · exact h
 · exact ⟨h.os,h.tape,h.output,h.size,fun k hk _ => h.block k hk (by simp)⟩
theorem cell_own {w : World} {base size n : Nat} {e : TypeId} {v : Value} {xs : List Value} (h : w.ownsRow base e size v n xs) {q : Nat} (hq : v.ownBlock = some q) (i : Nat) (u : Value) (hu : xs[i]? = some u) : w.cell? ⟨q,i,none⟩ = some u := by
 rcases h.2 with ⟨rfl,_⟩ | ⟨g,cap,cur,rfl,_⟩
 · cases hq
 · have hg : g = q := by simpa [Value.ownBlock] using hq
   subst hg
   have hc := h.cells (g := g) rfl i u hu
   have e : (⟨g,0,none⟩ : Addr).add i = ⟨g,i,none⟩ := by unfold Addr.add; split <;> simp_all
   rwa [e] at hc
end
open Go.RowKit
namespace Ld
def rest (n : Nat) (own at_ : Nat) : List Int := (turnsTo own n).filter fun t => decide ((at_ : Int) ≤ t)
def nxt (own at_ : Nat) : Nat := if at_ + 1 = own then at_ + 2 else at_ + 1
theorem rest_nil : ∀ n : Nat,n < 9 → ∀ own : Nat,own < 8 → ∀ a : Nat,a < 10 → n ≤ a → rest n own a = [] := by decide +kernel
theorem rest_cons' : ∀ n : Fin 9,∀ own : Fin 8,∀ a : Fin 10,a.1 = own.1 ∨ n.1 ≤ a.1 ∨ rest n.1 own.1 a.1 = (a.1 : Int) :: rest n.1 own.1 (nxt own.1 a.1) := by decide +kernel
theorem rest_cons (n : Nat) (hn : n < 9) (own : Nat) (ho : own < 8) (a : Nat) (ha : a < 10) (hne : a ≠ own) (hl : a < n) : rest n own a = (a : Int) :: rest n own (nxt own a) := by
 rcases rest_cons' ⟨n,hn⟩ ⟨own,ho⟩ ⟨a,ha⟩ with h | h | h
 · exact absurd h hne
 · exact absurd hl (Nat.not_lt.2 h)
 · exact h
theorem rest_all (n : Nat) (hn : n < 9) (own : Nat) (ho : own < 8) (a : Nat) (ha : a < 10) (hne : a ≠ own) : (n ≤ a → rest n own a = []) ∧ (a < n → rest n own a = (a : Int) :: rest n own (nxt own a)) := ⟨rest_nil n hn own ho a ha,rest_cons n hn own ho a ha hne⟩
theorem rest_new : ∀ n : Nat,n < 9 → ∀ own : Nat,own < 8 → turnsTo (own : Int) n = rest n own (if own = 0 then 1 else 0) := by decide +kernel
theorem nxt_ne (own a : Nat) : nxt own a ≠ own := by unfold nxt; split <;> omega
structure J (n : Nat) (x : Lk) (own at_ : Nat) (wn : Int) (p0 p1 : Nat) : Prop where
 ho : x.own = own
 o8 : own < 8
 n8 : n ≤ 8
 a9 : at_ < 10
 ne : at_ ≠ own
 turns : x.turns = rest n own at_
 hw : wn = if x.looked then (x.words.length : Int) else -1
 len : x.words.length ≤ 1
 nl : x.looked = false → x.words = []
 w0 : x.words.length = 1 → x.words[0]? = some (p0 : Int)
 lt0 : p0 < 18446744073709551616
 lt1 : p1 < 18446744073709551616
theorem J.done {n own at_ p0 p1 : Nat} {wn : Int} {x : Lk} (h : J n x own at_ wn p0 p1) : (x.turns = [] ↔ n ≤ at_) := by
 obtain ⟨h1,h2⟩ := rest_all n (by have := h.n8; omega) own h.o8 at_ h.a9 h.ne
 rw [h.turns]
 constructor
 · intro e
   by_cases hl : at_ < n
   · rw [h2 hl] at e; cases e
   · omega
 · exact h1
theorem J.head {n own at_ p0 p1 : Nat} {wn : Int} {x : Lk} (h : J n x own at_ wn p0 p1) (hl : at_ < n) : x.turns = (at_ : Int) :: rest n own (nxt own at_) := by
 rw [h.turns]
 exact (rest_all n (by have := h.n8; omega) own h.o8 at_ h.a9 h.ne).2 hl
def vals (y : Rb) (x : Lk) (at_ : Nat) (wn : Int) (p0 p1 : Nat) (vv : Value) : Array Value :=
 #[PT y.p,.int .i64 x.own,.int .u64 (x.writes.a : Int),.int .u64 (x.writes.b : Int),.int .i64 (at_ : Int),.int .i64 wn,.int .i64 x.head.gen,.int .i64 x.head.state,.int .i64 x.head.stamp,.int .i64 x.head.thread,.bool x.head.doomed,.int .i64 x.head.who,.int .u64 (p0 : Int),.int .u64 (p1 : Int),vv]
structure At (w : World) (y : Rb) (n : Nat) (b : Nat) (x : Lk) (vv : Value) : Prop where
 ex : ∃ own at_ wn p0 p1,J n x own at_ wn p0 p1 ∧ Blk w b 135 (vals y x at_ wn p0 p1 vv)
 own : w.ownsRow 0 113 4 vv x.victims.length (vcCells x.victims)
def Olds (w : World) (vv : Value) (L : List Vc) : Prop := ∀ q,vv.ownBlock = some q → tyOf w q = some 113 ∧ ∀ i u,(vcCells L)[i]? = some u → w.cell? ⟨q,i,none⟩ = some u
theorem Olds.of {w : World} {vv v' : Value} {L : List Vc} {m : Nat} {xs : List Value} (h : w.ownsRow 0 113 4 v' m xs) (hb : v'.ownBlock = vv.ownBlock) (hp : ∀ (i : Nat) (u : Value),(vcCells L)[i]? = some u → xs[i]? = some u) : Olds w vv L := fun q hq => by
 rw [← hb] at hq
 exact ⟨own_in h q (by simp [vblk,hq]),fun i u hu => cell_own h hq i u (hp i u hu)⟩
theorem Olds.own {w : World} {vv : Value} {L : List Vc} (h : w.ownsRow 0 113 4 vv L.length (vcCells L)) : Olds w vv L := Olds.of h rfl (fun _ _ hu => hu)
section
variable {w0 w w' : World} {y : Rb} {G : List Nat} {S : Sp} {n b k : Nat} {x : Lk} {vv : Value}
theorem At.keeps {X : List Nat} (h : At w y n b x vv) (hk : Keeps X w w') (h1 : b ∉ X) (h2 : ∀ q,vv.ownBlock = some q → q ∉ X) : At w' y n b x vv := by
 obtain ⟨⟨own,at_,wn,p0,p1,hj,hb⟩,ho⟩ := h
 exact ⟨⟨own,at_,wn,p0,p1,hj,hb.keeps hk h1⟩,own_keeps ho hk h2⟩
theorem At.calm (h : At w y n b x vv) (hk : Keeps [] w w') : At w' y n b x vv := h.keeps hk (by simp) (by simp)
theorem done (h : At w y n b x vv) (hr : RP w0 w y G S) (hn : S.c.slots = (n : Int)) : Calls Tryz.prog 53 #[PT b] w fun e w' => e = .returned (.bool x.turns.isEmpty) ∧ Keeps [] w w' := by
 obtain ⟨⟨own,at_,wn,p0,p1,hj,hb⟩,ho⟩ := h
 have hd := hj.done
 have c0 : w.cell? ⟨b,0,none⟩ = some (PT y.p) := (hb.cell 0).trans rfl
 have c4 : w.cell? ⟨b,4,none⟩ = some (.int .i64 (at_ : Int)) := (hb.cell 4).trans rfl
 have c1 := hr.cells.2.1
 rw [hn] at c1
 have he : x.turns.isEmpty = decide ((n : Int) ≤ (at_ : Int)) := by
  by_cases hl : n ≤ at_
  · rw [hd.2 hl]; simp; omega
  · have : x.turns ≠ [] := fun e => hl (hd.1 e)
    cases hx : x.turns with
    | nil => exact absurd hx this
    | cons a l => simp; omega
 rw [he]
 clear hd hj hb ho hr he
 go_enter Tryz.func53,Tryz.ntmps53
 go_wp2_with fail
 go_quiet (fail)
 go_wp2_with fail
 go_ret
 exact ⟨by simp,(Keeps.refl [] w).drewN _⟩
end
end Ld
open Go.RowKit
namespace Ld
section
variable {w0 w w' : World} {y : Rb} {G : List Nat} {S : Sp} {n b k : Nat} {x : Lk} {vv : Value}
def nx (own a : Int) : Int := if a + 1 = own then a + 2 else a + 1
theorem nx_nxt (own a : Nat) : nx own a = (nxt own a : Int) := by
 unfold nx nxt
 by_cases h : a + 1 = own
 · rw [if_pos h,if_pos (by omega)]; omega
 · rw [if_neg h,if_neg (by omega)]; omega
theorem nx_new (own : Nat) : nx own (-1) = ((if own = 0 then 1 else 0 : Nat) : Int) := by
 unfold nx
 by_cases h : own = 0
 · rw [if_pos h,if_pos (by omega)]; rfl
 · rw [if_neg h,if_neg (by omega)]; rfl
theorem turn_calls {cs : Array Value} {own a u : Int} (hb : Blk w b 135 cs) (h1 : cs[1]? = some (.int .i64 own)) (h3 : cs[4]? = some (.int .i64 a)) (h5 : cs[5]? = some (.int .i64 u)) (ha : -1 ≤ a) (ha' : a < 100) :
 Calls Tryz.prog 116 #[PT b] w fun e w' => e = .returned (.tuple #[]) ∧ Blk w' b 135 ((cs.setIfInBounds 4 (.int .i64 (nx own a))).setIfInBounds 5 (.int .i64 (-1))) ∧ Keeps [b] w w' := by
 have c0 : w.cell? ⟨b,1,none⟩ = some (.int .i64 own) := (hb.cell 1).trans h1
 have c3 : w.cell? ⟨b,4,none⟩ = some (.int .i64 a) := (hb.cell 4).trans h3
 have c5 : w.cell? ⟨b,5,none⟩ = some (.int .i64 u) := (hb.cell 5).trans h5
 have e1 : IntKind.i64.wrap (a + 1) = a + 1 := by rw [IntKind.wrap_i64]; omega
 have e2 : IntKind.i64.wrap (a + 1 + 1) = a + 2 := by rw [IntKind.wrap_i64]; omega
 have HB := Lib.hid hb
 have f4 := hb.frozen 4
 have f5 := hb.frozen 5
 have HH := Lib.hid (And.intro h1 h3)
 have hb2 := hb.set_ 4 (.int .i64 (a + 1))
 have d0 : (w.setCell ⟨b,4,none⟩ (.int .i64 (a + 1))).cell? ⟨b,1,none⟩ = some (.int .i64 own) := (hb2.cell 1).trans (by rw [Array.getElem?_setIfInBounds_ne (by decide)]; exact h1)
 have d3 : (w.setCell ⟨b,4,none⟩ (.int .i64 (a + 1))).cell? ⟨b,4,none⟩ = some (.int .i64 (a + 1)) := by
  have := hb2.cell 4
  rw [Array.getElem?_setIfInBounds_self_of_lt (by exact (Array.getElem?_eq_some_iff.1 h3).1)] at this
  exact this
 by_cases hx : a + 1 = own
 ·
  have hx1 : (a + 1 == own) = true := by simpa using hx
  have HX := Lib.hid hx
  clear hx hb hb2 h1 h3 h5
  go_enter Tryz.func116,Tryz.ntmps116
  go_wp2_with fail
  go_quiet (fail)
  go_wp2_with fail
  go_end0
  refine ⟨rfl,?_,((((Keeps.refl [b] w).setCell (.inl (by simp)) _).drewN _).setCell (.inl (by simp)) _).setCell (.inl (by simp)) _⟩
  unfold nx
  rw [if_pos HX.out,show cs.setIfInBounds 4 (Value.int .i64 (a + 2)) = (cs.setIfInBounds 4 (.int .i64 (a + 1))).setIfInBounds 4 (.int .i64 (a + 2)) from (Array.setIfInBounds_setIfInBounds ..).symm]
  exact (((HB.out.set_ 4 (.int .i64 (a + 1))).drewN _).set_ 4 (.int .i64 (a + 2))).set_ 5 (.int .i64 (-1))
 ·
  have hx1 : (a + 1 == own) = false := by simpa using hx
  have HX := Lib.hid hx
  clear hx hb hb2 h1 h3 h5
  go_enter Tryz.func116,Tryz.ntmps116
  go_wp2_with fail
  go_quiet (fail)
  go_wp2_with fail
  go_end0
  refine ⟨rfl,?_,(((Keeps.refl [b] w).setCell (.inl (by simp)) _).drewN _).setCell (.inl (by simp)) _⟩
  unfold nx
  rw [if_neg HX.out]
  exact ((HB.out.set_ 4 (.int .i64 (a + 1))).drewN _).set_ 5 (.int .i64 (-1))
theorem doc_new (h : RP w0 w y G S) (own : Int) (sg : Sg) (hn : S.c.slots = (n : Int)) (n8 : n ≤ 8) (o0 : 0 ≤ own) (o1 : own < n) :
 Calls Tryz.prog 47 #[PT y.p,.int .i64 own,.agg #[.int .u64 (sg.a : Int),.int .u64 (sg.b : Int)]] w fun e w' => ∃ b,e = .returned (.tuple #[PT b,.int .i64 0]) ∧ At w' y n b (Lk.new n own sg) (.slice none 0 0) ∧ w.heap.size ≤ b ∧ Keeps [] w w' := by
 have hk0 : Keeps [] w (w.alloc (.cells #[.int .u64 (sg.a : Int),.int .u64 (sg.b : Int)] 47)) := by simp
 have hb := Blk.new w 47 #[.int .u64 (sg.a : Int),.int .u64 (sg.b : Int)]
 have h1 := h.calm hk0
 obtain ⟨_,d1,_⟩ := h1.cells
 rw [hn] at d1
 have g0 : (w.alloc (.cells #[.int .u64 (sg.a : Int),.int .u64 (sg.b : Int)] 47)).cell? ⟨w.heap.size,0,none⟩ = some (.int .u64 (sg.a : Int)) := (hb.cell 0).trans rfl
 have g1 : (w.alloc (.cells #[.int .u64 (sg.a : Int),.int .u64 (sg.b : Int)] 47)).cell? ⟨w.heap.size,1,none⟩ = some (.int .u64 (sg.b : Int)) := (hb.cell 1).trans rfl
 obtain ⟨cs,hcs⟩ : ∃ cs : Array Value,cs = #[PT y.p,.int .i64 own,.int .u64 (sg.a : Int),.int .u64 (sg.b : Int),.int .i64 (-1),.int .i64 0,.int .i64 0,.int .i64 0,.int .i64 0,.int .i64 0,.bool false,.int .i64 0,.int .u64 0,.int .u64 0,.slice none 0 0] := ⟨_,rfl⟩
 have hb2 := Blk.new (w.alloc (.cells #[.int .u64 (sg.a : Int),.int .u64 (sg.b : Int)] 47)) 135 cs
 have hk2 : Keeps [] w ((w.alloc (.cells #[.int .u64 (sg.a : Int),.int .u64 (sg.b : Int)] 47)).alloc (.cells cs 135)) := ((Keeps.refl [] w).alloc _).alloc _
 rw [show (w.alloc (.cells #[.int .u64 (sg.a : Int),.int .u64 (sg.b : Int)] 47)).heap.size = w.heap.size + 1 by simp] at hb2
 have QT := Lib.hid (turn_calls (own := own) (a := -1) (u := 0) hb2 (by rw [hcs]; rfl) (by rw [hcs]; rfl) (by rw [hcs]; rfl) (by omega) (by omega))
 rw [hcs] at QT hk2
 have HK2 := Lib.hid hk2
 have HN := Lib.hid (And.intro n8 (And.intro o0 o1))
 have d3 : decide (own < 0) = false := decide_eq_false (by omega)
 have d4 : decide ((n : Int) ≤ own) = false := decide_eq_false (by omega)
 clear h hb h1 hk0 hb2 hk2 hcs
 go_enter Tryz.func47,Tryz.ntmps47
 go_wp2_with fail
 refine QT.out.mono ?_
 rintro e wq ⟨rfl,hbq,hkq⟩
 go_wp2_with fail
 go_ret2
 obtain ⟨n8,o0,o1⟩ := HN.out
 obtain ⟨o,rfl⟩ : ∃ o : Nat,own = o := ⟨own.toNat,by omega⟩
 refine ⟨_,rfl,⟨⟨o,if o = 0 then 1 else 0,-1,0,0,?_,?_⟩,World.ownsRow_nil _ _ _ _⟩,by omega,HK2.out.trans hkq (fun x hx => by simp at hx; omega)⟩
 · exact ⟨rfl,by omega,n8,by split <;> omega,by split <;> omega,rest_new n (by omega) o (by omega),rfl,by simp [Lk.new],fun _ => rfl,fun h => by simp [Lk.new] at h,by decide,by decide⟩
 · rw [nx_new] at hbq
   exact hbq
end
end Ld
open Go.RowKit
namespace Ld
section
variable {w0 w w' : World} {y : Rb} {G : List Nat} {S : Sp} {n b k : Nat} {x : Lk} {vv : Value}
end
end Ld
end Go.Proofs.YtmlnedilbneekaaGreat