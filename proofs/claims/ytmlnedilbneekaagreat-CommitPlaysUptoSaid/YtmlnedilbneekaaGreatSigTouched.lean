/- append from whatever source. -/
import Derived.Test.YtmlnedilbneekaaGreatMake
import Derived.ProofKit
import Derived.Deep.Slices
import Derived.Deep.Fields
import Derived.ChangeSame
import Derived.SizedLaws
import Derived.Test.YtmlnedilbneekaaGreatSigMeets
import Derived.Test.YtmlnedilbneekaaGreatSigRef
namespace Go.Proofs.YtmlnedilbneekaaGreat
open Go.ChangeShapes Go.WideShapes Go.Deep Go.RowKit
set_option linter.unusedVariables false
section
variable {H : Type} {enc : TypeId × Value → H} {P : Program} {w : World} {base : Nat} {spare : Nat → Bool} {held : Bool}
end
theorem block_add (a : Addr) (n : Nat) : (a.add n).block = a.block := by unfold Addr.add; split <;> rfl
section
variable {H : Type} {enc : TypeId × Value → H} {P : Program} {w : World} {base : Nat} {spare : Nat → Bool} {held : Bool}
end
open Go.RowKit
def Slc (w : World) (A : Option Addr) (xs : List Int) : Prop :=
 xs.length ≤ maxLen ∧ (xs = [] ∨ ∃ b off,A = some ⟨b,off,none⟩ ∧ b < w.heap.size ∧ ∀ k x,xs[k]? = some x → w.cell? ⟨b,off + k,none⟩ = some (.int .i64 x))
theorem keeps_cell {S : List Nat} {w w' : World} (h : Keeps S w w') {p : Addr} (hp : p.block < w.heap.size) (hS : p.block ∉ S) : w'.cell? p = w.cell? p := World.cell?_of_block (h.block p.block hp hS)
theorem Slc.keeps {w w' : World} {A : Option Addr} {xs : List Int} (h : Slc w A xs) (hk : Keeps [] w w') : Slc w' A xs := by
 refine ⟨h.1,?_⟩
 rcases h.2 with h | ⟨b,off,hA,hb,hc⟩
 · exact .inl h
 · exact .inr ⟨b,off,hA,Nat.lt_of_lt_of_le hb hk.size,fun k x hx => (keeps_cell hk hb (by simp)).trans (hc k x hx)⟩
theorem Slc.of_own {w : World} {base n e : Nat} {v : Value} {l : List Int} (h : w.ownsRow base e 1 v n (l.map (Value.int .i64))) (hf : l.length ≤ maxLen) : ∃ A c,v = .slice A n c ∧ n = l.length ∧ Slc w A l := by
 have hn : n = l.length := by have := h.1; simp at this; omega
 rcases h.2 with ⟨rfl,h0⟩ | ⟨g,cap,cur,rfl,hb,hg,h1,h2,h3,h4⟩
 · exact ⟨none,0,by rw [h0],hn,hf,.inl (List.eq_nil_of_length_eq_zero (by omega))⟩
 · refine ⟨_,_,rfl,hn,hf,.inr ⟨g,0,rfl,(Array.getElem?_eq_some_iff.1 hg).1,fun k x hx => ?_⟩⟩
   have hc := h.cells (g := g) rfl k (.int .i64 x) (by rw [List.getElem?_map,hx]; rfl)
   have e : (⟨g,0,none⟩ : Addr).add k = ⟨g,0 + k,none⟩ := by unfold Addr.add; split <;> simp_all
   rwa [e] at hc
open Go.RowKit
section
variable {P : Program} {w : World}
theorem run_append_src (t ty e : TypeId) (i : TypeInfo) (z : Value) (size bytes : Nat) (ht : P.underlying t = some (.slice e)) (hi : P.info? e = some i) (hz : i.zero = some z)
 (hsize : i.size = size) (hby : i.bytes = bytes) (hzs : z.cells.size = size) (hsz : 0 < size) (v : Value) (n : Nat) (xs : List Value) (hown : w.ownsRow 0 e size v n xs)
 (A : Option Addr) (m c : Nat) (news : List Value) (hl : news.length = m * size) (hsrc : 0 < m → ∃ ad,A = some ad ∧ ∀ j u,news[j]? = some u → w.cell? (ad.add j) = some u)
 (h1 : ∀ u ∈ news,u.oneCell' = true) (h63 : n + m ≤ maxLen) (hbytes : (n + m) * bytes ≤ 140737488355328) :
 ∃ v' w',(Builtin.append_ #[t,t] ty #[v,.slice A m c]).run P w = .ok v' w' ∧ w'.ownsRow 0 e size v' (n + m) (xs ++ news) ∧ w.grownBy w' v.ownBlock ∧ (v'.ownBlock = v.ownBlock ∨ v'.ownBlock = some w.heap.size) := by
 rcases A with _ | ad
 ·
  have hm : m = 0 := by
   rcases Nat.eq_zero_or_pos m with h0 | h0
   · exact h0
   · obtain ⟨ad,h,_⟩ := hsrc h0; cases h
  subst hm
  have hn : news = [] := List.eq_nil_of_length_eq_zero (by simpa using hl)
  subst hn
  refine ⟨v,w,?_,by simpa using hown,World.grownBy.refl w _,.inl rfl⟩
  rcases hown.2 with ⟨rfl,rfl⟩ | ⟨g,cap,cur,rfl,_,_,hnc,_⟩
  · simp [Builtin.append_,run_underlying ht,sizeOf,typeInfo,hi,Builtin.lenOf,Builtin.firstCells]
  · simp [Builtin.append_,run_underlying ht,sizeOf,typeInfo,hi,Builtin.lenOf,Builtin.firstCells,hnc,storeCells]
 ·
  have hc : ∀ j u,news[j]? = some u → w.cell? (ad.add j) = some u := by
   intro j u hu
   rcases Nat.eq_zero_or_pos m with h0 | h0
   · subst h0
     have hn : news = [] := List.eq_nil_of_length_eq_zero (by simpa using hl)
     subst hn; simp at hu
   · obtain ⟨ad',h,hc⟩ := hsrc h0
     injection h with h; subst h
     exact hc j u hu
  obtain ⟨v',w',hrun,h2,h3,_,h5⟩ := run_append_own_at (P := P) w 0 t ty e i z size bytes ht hi hz hsize hby hzs hsz v n xs hown ad m c news hl hc h1 h63 hbytes (Nat.zero_le _)
  exact ⟨v',w',hrun,h2,h3,h5⟩
theorem wpList_append_src {ops : Array Oper} {rest : List Oper} {o : Oper} {a : Act} {Q : Exit → Act → World → Prop} (hgd : o.guard = none) (s x : Operand) (t : TypeId)
 (ho : o.op = .call { callee := .builtin .append,args := #[s,x],argTypes := #[t,t] })
 (e : TypeId) (i : TypeInfo) (z : Value) (size bytes : Nat) (ht : P.underlying t = some (.slice e)) (hi : P.info? e = some i) (hz : i.zero = some z)
 (hsize : i.size = size) (hby : i.bytes = bytes) (hzs : z.cells.size = size) (hsz : 0 < size) (v : Value) (n : Nat) (xs : List Value) (hs : a.eval s = v) (hown : w.ownsRow 0 e size v n xs)
 (A : Option Addr) (m c : Nat) (news : List Value) (hx : a.eval x = .slice A m c) (hl : news.length = m * size) (hsrc : 0 < m → ∃ ad,A = some ad ∧ ∀ j u,news[j]? = some u → w.cell? (ad.add j) = some u)
 (h1 : ∀ u ∈ news,u.oneCell' = true) (h63 : n + m ≤ maxLen) (hbytes : (n + m) * bytes ≤ 140737488355328)
 (h : ∀ v' w',w'.ownsRow 0 e size v' (n + m) (xs ++ news) → w.grownBy w' v.ownBlock → (v'.ownBlock = v.ownBlock ∨ v'.ownBlock = some w.heap.size) → wpList P ops Q rest (a.put o.dst v') w') : wpList P ops Q (o :: rest) a w := by
 refine wpList_plain hgd fun K hK => ?_
 obtain ⟨v',w',hrun,h2,h3,h4⟩ := run_append_src (P := P) (w := w) t o.type e i z size bytes ht hi hz hsize hby hzs hsz v n xs hown A m c news hl hsrc h1 h63 hbytes
 unfold Oper.wp execOp
 simp only [ho,resolve,invoke,builtin,Sem.run_bind,Sem.run_pure,Result.andThen_ok,List.map_toArray,List.map_cons,List.map_nil,hs,hx,hrun]
 exact hK _ _ (h v' w' h2 h3 h4)
end
open Go.RowKit
set_option linter.unusedSimpArgs false
theorem bit_lt64 {x i : Nat} (hx : x < 18446744073709551616) (h : x.testBit i = true) : i < 64 := by
 apply Nat.lt_of_not_le
 intro hle
 have : x.testBit i = false := Nat.testBit_lt_two_pow (Nat.lt_of_lt_of_le hx (by show 2 ^ 64 ≤ 2 ^ i; exact Nat.pow_le_pow_right (by omega) hle))
 rw [this] at h; cases h
open Go.RowKit
def Sg.add (n : Int) (s : Sg) (c : Int) : Sg := (s.set (hA c n).toNat).set (hB c n).toNat
def ofL (n : Int) (l : List Int) : Sg := l.foldl (Sg.add n) Sg.zero
def isCell (c : Int) : Bool := decide (0 ≤ c) && decide (c ≤ 255)
theorem isCell_yes {c : Int} : isCell c = true ↔ 0 ≤ c ∧ c ≤ 255 := by simp [isCell]
theorem add_ok {n : Int} (n0 : 1 ≤ n) (n1 : n ≤ 128) {s : Sg} (hs : s.ok) (c : Int) : (s.add n c).ok := by
 have h1 := hA_rng c n n0 n1
 have h2 := hB_rng c n n0 n1
 exact Sg.set_ok _ (Sg.set_ok s hs _ (by omega)) _ (by omega)
theorem zero_ok : Sg.zero.ok := by unfold Sg.ok Sg.zero; decide
theorem ofL_ok {n : Int} (n0 : 1 ≤ n) (n1 : n ≤ 128) (l : List Int) : (ofL n l).ok := by
 unfold ofL
 have : ∀ s : Sg,s.ok → (l.foldl (Sg.add n) s).ok := by
  induction l with
  | nil => exact fun s h => h
  | cons x l ih => exact fun s h => ih _ (add_ok n0 n1 h x)
 exact this _ zero_ok
theorem ofL_snoc (n : Int) (l : List Int) (x : Int) : ofL n (l ++ [x]) = (ofL n l).add n x := by simp [ofL]
theorem take_snoc {l : List Int} {k : Nat} {x : Int} (h : l[k]? = some x) : l.take (k + 1) = l.take k ++ [x] := by rw [List.take_add_one,h]; rfl
def Acc2 (w : World) (s : Sg) (wr : World) : Prop :=
 Blk wr w.heap.size 47 #[.int .u64 0,.int .u64 0] ∧ Blk wr (w.heap.size + 1) 47 #[.int .u64 (s.a : Int),.int .u64 (s.b : Int)] ∧ Keeps [] w wr
theorem Acc2.start (w : World) : Acc2 w Sg.zero ((w.alloc (.cells #[.int .u64 0,.int .u64 0] 47)).alloc (.cells #[.int .u64 0,.int .u64 0] 47)) :=
 ⟨(Blk.new _ _ _).alloc _,new_at _ _ _ (by simp),(Sq.r.alloc _).alloc _⟩
def ofR (n : Int) (l : List Int) : Sg := if l.all isCell then ofL n l else Sg.zero
def ofE (l : List Int) : Int := if l.all isCell then 0 else 2
theorem set_int (w : World) (a b : Nat) (s : Sg) (hs : s.ok) (ha : a = s.a) (hb : b = s.b) (k : Int) (h0 : 0 ≤ k) (h1 : k < 128) :
 Calls Tryz.prog 191 #[.agg #[.int .u64 (a : Int),.int .u64 (b : Int)],.int .i64 k] w fun e w' => (e = .returned (.agg #[.int .u64 ((s.set k.toNat).a : Int),.int .u64 ((s.set k.toNat).b : Int)])) ∧ Keeps [] w w' := by
 subst ha hb
 have := set_any w s hs k.toNat (by omega)
 rw [Int.toNat_of_nonneg h0] at this
 exact this
theorem with_int (w : World) (a b : Nat) (s : Sg) (hs : s.ok) (ha : a = s.a) (hb : b = s.b) (k : Int) (h0 : 0 ≤ k) (h1 : k < 128) :
 Calls Tryz.prog 151 #[.agg #[.int .u64 (a : Int),.int .u64 (b : Int)],.int .i64 k] w fun e w' => (e = .returned (.agg #[.int .u64 ((s.set k.toNat).a : Int),.int .u64 ((s.set k.toNat).b : Int)])) ∧ Keeps [] w w' := by
 subst ha hb
 have := with_any w s hs k.toNat (by omega)
 rw [Int.toNat_of_nonneg h0] at this
 exact this
theorem Acc2.next {w wr w1 : World} {s s' : Sg} (h : Acc2 w s wr) (hk : Keeps [] wr w1) : Acc2 w s' ((w1.setCell ⟨w.heap.size + 1,0,none⟩ (.int .u64 (s'.a : Int))).setCell ⟨w.heap.size + 1,1,none⟩ (.int .u64 (s'.b : Int))) := by
 obtain ⟨h1,h2,h3⟩ := h
 refine ⟨?_,?_,?_⟩
 · exact ((h1.keeps hk (by simp)).far (by simp) _).far (by simp) _
 · have := ((h2.keeps hk (by simp)).set_ 0 (.int .u64 (s'.a : Int))).set_ 1 (.int .u64 (s'.b : Int))
   simpa using this
 · exact ((h3.trans hk (by simp)).setCell (.inr (Nat.le_succ _)) _).setCell (.inr (Nat.le_succ _)) _
set_option maxHeartbeats 1000000 in
theorem of_any (w : World) (A : Option Addr) (c : Nat) (l : List Int) (hA : Slc w A l) (n : Int) (n0 : 1 ≤ n) (n1 : n ≤ 128) :
 Calls Tryz.prog 188 #[.slice A l.length c,.int .i64 n] w fun e w' => e = .returned (.tuple #[(ofR n l).val,.int .i64 (ofE l)]) ∧ Keeps [] w w' := by
 have hlen := hA.1
 have HA := Lib.hid hA
 unfold maxLen at hlen
 clear hA
 go_enter Tryz.func188,Tryz.ntmps188
 go_wp2
 go_loopw [21] (fun i wr => ∃ k : Nat,k ≤ l.length ∧ i = .int .i64 k ∧ Hid ((l.take k).all isCell = true) ∧ Acc2 w (ofL n (l.take k)) wr) (fun i _ => l.length - (intOf i).toNat)
 case atStart => exact ⟨0,Nat.zero_le _,rfl,by unfold Hid; simp,Acc2.start w⟩
 case round =>
  obtain ⟨k,hk,rfl,hall,hacc⟩ := hrel
  have H := Lib.hid hacc
  have r0 : wr.cell? ⟨w.heap.size,0,none⟩ = some (.int .u64 0) := (hacc.1.cell 0).trans rfl
  have r1 : wr.cell? ⟨w.heap.size,1,none⟩ = some (.int .u64 0) := (hacc.1.cell 1).trans rfl
  have g0 := hacc.1.frozen 0
  have g1 := hacc.1.frozen 1
  have c0 : wr.cell? ⟨w.heap.size + 1,0,none⟩ = some (.int .u64 ((ofL n (l.take k)).a : Int)) := (hacc.2.1.cell 0).trans rfl
  have c1 : wr.cell? ⟨w.heap.size + 1,1,none⟩ = some (.int .u64 ((ofL n (l.take k)).b : Int)) := (hacc.2.1.cell 1).trans rfl
  obtain ⟨s,hs⟩ : ∃ s,ofL n (l.take k) = s := ⟨_,rfl⟩
  have hok : s.ok := hs ▸ ofL_ok n0 n1 _
  rw [hs] at c0 c1
  have HS := Lib.hid hs
  have HOK := Lib.hid hok
  clear hacc hs hok
  by_cases hlt : k < l.length
  ·
   obtain ⟨x,hx⟩ : ∃ x,l[k]? = some x := ⟨_,List.getElem?_eq_getElem hlt⟩
   rcases (HA.out.keeps H.out.2.2).2 with h0 | ⟨b,off,rfl,hb,hc⟩
   · subst h0; simp at hlt
   have d1 := hc k x hx
   have HX := Lib.hid hx
   clear hc hx
   have k0 : (0 : Int) ≤ (k : Int) := by omega
   have k1 : (k : Int) < (l.length : Int) := by omega
   by_cases hc : isCell x = true
   ·
    have hxr := isCell_yes.1 hc
    have ra := hA_rng x n n0 n1
    have rb := hB_rng x n n0 n1
    have HC := Lib.hid hc
    clear hc
    go_wp2_with fail
    refine (hash_ok wr x n hxr.1 hxr.2 n0 n1).mono ?_
    rintro e w0 ⟨rfl,rfl⟩
    go_wp2_with fail
    refine (set_int wr s.a s.b s HOK.out rfl rfl (hA x n) ra.1 (by omega)).mono ?_
    rintro e w1 ⟨rfl,hk1⟩
    obtain ⟨s1,hs1⟩ : ∃ s1,s.set (hA x n).toNat = s1 := ⟨_,rfl⟩
    have hok1 : s1.ok := hs1 ▸ Sg.set_ok s HOK.out _ (by omega)
    rw [hs1]
    have HS1 := Lib.hid hs1
    have HOK1 := Lib.hid hok1
    have HK1 := Lib.hid hk1
    clear hs1 hok1 hk1
    go_wp2_with fail
    refine (set_int w1 s1.a s1.b s1 HOK1.out rfl rfl (hB x n) rb.1 (by omega)).mono ?_
    rintro e w2 ⟨rfl,hk2⟩
    obtain ⟨s2,hs2⟩ : ∃ s2,s1.set (hB x n).toNat = s2 := ⟨_,rfl⟩
    rw [hs2]
    have HS2 := Lib.hid hs2
    have hK := HK1.out.trans hk2 (by simp)
    have b2 := H.out.2.1.keeps hK (by simp)
    have e0 : w2.cell? ⟨w.heap.size + 1,0,none⟩ = some (.int .u64 ((ofL n (l.take k)).a : Int)) := (b2.cell 0).trans rfl
    have e1 : w2.cell? ⟨w.heap.size + 1,1,none⟩ = some (.int .u64 ((ofL n (l.take k)).b : Int)) := (b2.cell 1).trans rfl
    have f0 := b2.frozen 0
    have f1 := b2.frozen 1
    have HK2 := Lib.hid hK
    clear hs2 hk2 hK b2 c0 c1 d1
    go_wp2_with fail
    go_roundw
    case rel =>
     refine ⟨k + 1,by omega,by go_num,?_,?_⟩
     · unfold Hid
       rw [take_snoc HX.out,List.all_append,hall.out]
       simp [HC.out]
     · have e : ofL n (l.take (k + 1)) = s2 := by rw [take_snoc HX.out,ofL_snoc,HS.out]; unfold Sg.add; rw [HS1.out,HS2.out]
       rw [e]
       exact H.out.next HK2.out
    case measure => simp [intOf]; omega
   ·
    have hcf : isCell x = false := by simpa using hc
    have hxr : x < 0 ∨ 255 < x := by
     rcases Classical.em (0 ≤ x ∧ x ≤ 255) with h | h
     · exact absurd (isCell_yes.2 h) hc
     · omega
    have HXR := Lib.hid hxr
    have HC := Lib.hid hcf
    clear hc hcf hxr
    go_wp2_with fail
    refine (hash_place wr x n n0 n1 HXR.out).mono ?_
    rintro e w0 ⟨rfl,rfl⟩
    go_wp2_with fail
    have hall2 : l.all isCell = false := by
     rw [List.all_eq_false]
     exact ⟨x,List.mem_of_getElem? HX.out,by simp [HC.out]⟩
    refine bodyPost_ret (v := .tuple #[.agg #[.int .u64 0,.int .u64 0],.int .i64 2]) (by simp [results,Tryz.results188,go_sem,r0,r1]) rfl ⟨by simp [ofR,ofE,hall2,Sg.zero,Sg.val],?_⟩
    exact (H.out.2.2.setCell (.inr (Nat.le_refl _)) _).setCell (.inr (Nat.le_refl _)) _
  ·
   have hge : ¬ ((k : Int) < (l.length : Int)) := by omega
   go_wp2_with fail
   have e : k = l.length := by omega
   subst e
   have hall2 : l.all isCell = true := by have := hall.out; rwa [List.take_length] at this
   have hs2 : ofL n l = s := by have := HS.out; rwa [List.take_length] at this
   refine bodyPost_ret (v := .tuple #[.agg #[.int .u64 (s.a : Int),.int .u64 (s.b : Int)],.int .i64 0]) (by simp [results,Tryz.results188,go_sem,r0,r1]) rfl ⟨by simp [ofR,ofE,hall2,hs2,Sg.val],?_⟩
   exact (H.out.2.2.setCell (.inr (Nat.le_refl _)) _).setCell (.inr (Nat.le_refl _)) _
open Go.RowKit
end Go.Proofs.YtmlnedilbneekaaGreat