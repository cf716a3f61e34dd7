/- A script of quashlaw12.Op that came in: what its steps hold, how it is opened. -/
import Derived.Test.YtmlnedilbneekaaGreatSigRAsk
import Derived.Test.YtmlnedilbneekaaGreatDdS
import Derived.Test.YtmlnedilbneekaaGreatSigTouched
import Derived.Test.YtmlnedilbneekaaGreatCdN
set_option linter.unusedVariables false
set_option linter.unusedSimpArgs false
namespace Go.Proofs.YtmlnedilbneekaaGreat
open Go.ChangeShapes Go.WideShapes Go.Deep Go.RowKit
section
variable {H : Type} {enc : TypeId × Value → H} {w : World} {base : Nat} {spare : Nat → Bool} {held : Bool}
theorem trod_field_b {P : Program} {t : TypeId} {fs : Array Field} {fuel : Nat} {cs : List Value} {x : DataW H × List MemPlace} (ht : P.underlying t = some (.struct fs)) (h : DataW.trod enc P w base spare held fuel t cs = some x)
 (j : Nat) (f : Field) (hj : fs[j]? = some f) (k : Nat) (hk : P.cellsOf f.type = k) (cs' : List Value) (hcs : (cs.drop f.offset).take k = cs') : ∃ n y,DataW.trod enc P w base spare held n f.type cs' = some y ∧ Rows.uptoBulk y.1 ≤ Rows.uptoBulk x.1 := by
 obtain ⟨ys,n',hn',hy,hlen,hyl,hf⟩ := DataW.trod_struct ht h
 have hjl : j < fs.size := (Array.getElem?_eq_some_iff.1 hj).1
 have h1 := hf j f hj
 rw [hk,hcs] at h1
 have hg : ys[j]? = some (ys[j]'(by omega)) := List.getElem?_eq_getElem (by omega)
 refine ⟨n',_,h1.trans hg,?_⟩
 have hm : (ys[j]'(by omega)).1 ∈ ys.map (·.1) := List.mem_map_of_mem (List.getElem_mem _)
 have := bulks.part_le hm
 rw [hy]
 simp only [Rows.uptoBulk]
 omega
theorem open_els_b {P : Program} {t e : TypeId} {fuel C : Nat} {cs : List Value} {x : DataW H × List MemPlace} (ht : P.underlying t = some (.slice e)) (hC : P.cellsOf e = C) (h : DataW.trod enc P w base spare held fuel t cs = some x) :
 cs = [.slice none 0 0] ∨
 ∃ (a : Addr) (len cap : Nat),cs = [.slice (some a) len cap] ∧ len ≤ cap ∧ cap ≤ maxLen ∧
  ∀ i,i < len → ∃ (n : Nat) (cs' : List Value) (y : DataW H × List MemPlace),cs'.length = C ∧ (∀ k v,cs'[k]? = some v → w.cell? (a.add (i * C + k)) = some v) ∧ DataW.trod enc P w base spare held n e cs' = some y ∧ Rows.uptoBulk y.1 ≤ Rows.uptoBulk x.1 := by
 rcases open_slice ht h with ⟨h0,_⟩ | ⟨a,len,cap,m,n,D,Pl,hcs,hb,hl,hm,hmm,hx,hi⟩
 · exact .inl h0
 ·
  refine .inr ⟨a,len,cap,hcs,hl,hm,fun i hil => ?_⟩
  have him : i < m := by rw [hmm]; split <;> omega
  obtain ⟨cs',hc,ht'⟩ := hi i him
  rw [hC] at hc
  obtain ⟨_,hcl,hat⟩ := World.cells?_some hc
  refine ⟨n,cs',_,hcl,fun k v hk => ?_,ht',?_⟩
  · rw [← Go.Deep.add_add]
    have hkl := (List.getElem?_eq_some_iff.1 hk).1
    exact (hat k (by omega)).trans hk
  · have hme : D i ∈ (List.range len).map D := List.mem_map_of_mem (List.mem_range.2 hil)
    have := bulks.part_le hme
    rw [hx]
    simp only [Rows.uptoBulk]
    omega
end
open Go.RowKit
namespace LP
open Ld
theorem grown2 {w w1 w2 : World} {v1 : Value} (hg1 : (w.alloc (.cells #[] 113)).grownBy w1 (some w.heap.size)) (hat1 : v1.ownBlock = some w.heap.size ∨ v1.ownBlock = some (w.alloc (.cells #[] 113)).heap.size) (o : Obj) (hg2 : (w1.alloc o).grownBy w2 v1.ownBlock) {g2 : Nat} (hat2 : v1.ownBlock = some g2 ∨ g2 = (w1.alloc o).heap.size) : Keeps [] w w2 ∧ w.heap.size ≤ g2 := by
 have h1 : Keeps [] w w1 := ((Keeps.refl [] w).alloc _).grown hg1 (by intro k hk; injection hk with hk; exact .inr (by omega))
 have hz := h1.size
 have hw : ∀ k,v1.ownBlock = some k → w.heap.size ≤ k := fun k hk => by
  rcases hat1 with e | e <;> rw [e] at hk <;> simp at hk <;> omega
 refine ⟨(h1.alloc o).grown hg2 (fun k hk => .inr (hw k hk)),?_⟩
 rcases hat2 with e | e
 · exact hw _ e
 · rw [World.size_alloc] at e; omega
theorem own_front {w : World} {base q cap n m : Nat} {xs ys : List Value} (h : w.ownsRow base 113 4 (.slice (some ⟨q,0,none⟩) n cap) n (xs ++ ys)) (hx : xs.length = m * 4) (hm : m ≤ n) : w.ownsRow base 113 4 (.slice (some ⟨q,0,none⟩) m cap) m xs := by
 refine ⟨hx,?_⟩
 rcases h.2 with ⟨h0,_⟩ | ⟨g,cap',cur,h0,hb,hg,hnc,hcm,hcs,ht⟩
 · cases h0
 ·
  injection h0 with h1 h2 h3
  injection h1 with h1
  injection h1 with h1
  subst h1 h3
  refine .inr ⟨q,cap,cur,rfl,hb,hg,by omega,hcm,hcs,?_⟩
  have e := congrArg (List.take (m * 4)) ht
  rw [List.take_take,List.take_left' hx] at e
  rw [← e]
  congr 1
  omega
end LP
open Go.ChangeShapes Go.WideShapes Go.Deep Go.RowKit
instance : Inhabited Vc := ⟨⟨0,0,0,0⟩⟩
structure Op12 where
 kind : Int
 m : Int
 i : Int
 n : Int
 x : Int
 sg : Sg
 A : Option Addr
 c : Nat
 L : List Vc
instance : Inhabited Op12 := ⟨⟨0,0,0,0,0,⟨0,0⟩,none,0,[]⟩⟩
def Op12.vals (p : Op12) : Array Value := #[.int .i64 p.kind,.int .i64 p.m,.int .i64 p.i,.int .i64 p.n,.int .i64 p.x,.int .u64 (p.sg.a : Int),.int .u64 (p.sg.b : Int),.slice p.A p.L.length p.c]
structure Op12.At (w : World) (b o : Nat) (p : Op12) : Prop where
 c0 : w.cell? ⟨b,o,none⟩ = some (.int .i64 p.kind)
 c1 : w.cell? ⟨b,o + 1,none⟩ = some (.int .i64 p.m)
 c2 : w.cell? ⟨b,o + 2,none⟩ = some (.int .i64 p.i)
 c3 : w.cell? ⟨b,o + 3,none⟩ = some (.int .i64 p.n)
 c4 : w.cell? ⟨b,o + 4,none⟩ = some (.int .i64 p.x)
 c5 : w.cell? ⟨b,o + 5,none⟩ = some (.int .u64 (p.sg.a : Int))
 c6 : w.cell? ⟨b,o + 6,none⟩ = some (.int .u64 (p.sg.b : Int))
 c7 : w.cell? ⟨b,o + 7,none⟩ = some (.slice p.A p.L.length p.c)
 ok : p.sg.ok
 vs : Ld.Vs w p.A p.L
 cap : p.L.length ≤ p.c ∧ p.c ≤ maxLen
 ln : p.L.length ≤ 1048576
section
variable {H : Type} {enc : TypeId × Value → H} {w : World} {base : Nat} {spare : Nat → Bool} {held : Bool}
end
open Go.ChangeShapes Go.WideShapes Go.Deep Go.RowKit
theorem Ps_of {w : World} {q off : Nat} {L : List Pr} (h : ∀ i v,L[i]? = some v → w.cell? ⟨q,off + i * 2,none⟩ = some (.int .i64 v.cell) ∧ w.cell? ⟨q,off + i * 2 + 1,none⟩ = some (.int .i64 v.x)) : Cd.Ps w (some ⟨q,off,none⟩) L := fun _ => ⟨q,off,rfl,fun t u hu => by
 have htl := (List.getElem?_eq_some_iff.1 hu).1
 rw [Cd.prCells_len] at htl
 obtain ⟨v,hv⟩ : ∃ v,L[t / 2]? = some v := ⟨_,List.getElem?_eq_getElem (by omega)⟩
 obtain ⟨c0,c1⟩ := h _ v hv
 obtain ⟨d0,d1⟩ := Cd.pr_at L _ v hv
 have hr : t % 2 = 0 ∨ t % 2 = 1 := by omega
 have he : t = t / 2 * 2 + t % 2 := by omega
 rcases hr with h | h <;> rw [h] at he <;> rw [he] at hu ⊢
 · rw [Nat.add_zero] at hu ⊢; rw [d0] at hu; injection hu with hu; rw [← hu]; exact c0
 · rw [d1] at hu; injection hu with hu; rw [← hu,← Nat.add_assoc]; exact c1⟩
instance : Inhabited Pr := ⟨⟨0,0⟩⟩
structure Op13 where
 kind : Int
 m : Int
 i : Int
 n : Int
 x : Int
 sl : Int
 ge : Int
 th : Int
 st : Int
 A : Option Addr
 c : Nat
 L : List Pr
instance : Inhabited Op13 := ⟨⟨0,0,0,0,0,0,0,0,0,none,0,[]⟩⟩
def Op13.vals (p : Op13) : Array Value := #[.int .i64 p.kind,.int .i64 p.m,.int .i64 p.i,.int .i64 p.n,.int .i64 p.x,.int .i64 p.sl,.int .i64 p.ge,.int .i64 p.th,.int .i64 p.st,.slice p.A p.L.length p.c]
structure Op13.At (w : World) (b o : Nat) (p : Op13) : Prop where
 c0 : w.cell? ⟨b,o,none⟩ = some (.int .i64 p.kind)
 c1 : w.cell? ⟨b,o + 1,none⟩ = some (.int .i64 p.m)
 c2 : w.cell? ⟨b,o + 2,none⟩ = some (.int .i64 p.i)
 c3 : w.cell? ⟨b,o + 3,none⟩ = some (.int .i64 p.n)
 c4 : w.cell? ⟨b,o + 4,none⟩ = some (.int .i64 p.x)
 c5 : w.cell? ⟨b,o + 5,none⟩ = some (.int .i64 p.sl)
 c6 : w.cell? ⟨b,o + 6,none⟩ = some (.int .i64 p.ge)
 c7 : w.cell? ⟨b,o + 7,none⟩ = some (.int .i64 p.th)
 c8 : w.cell? ⟨b,o + 8,none⟩ = some (.int .i64 p.st)
 c9 : w.cell? ⟨b,o + 9,none⟩ = some (.slice p.A p.L.length p.c)
 vs : Cd.Ps w p.A p.L
 cap : p.L.length ≤ p.c ∧ p.c ≤ maxLen
 ln : p.L.length ≤ 1048576
def LstOp13 (w : World) (A : Option Addr) (n cap : Nat) (l : List Op13) : Prop :=
 l.length = n ∧ n ≤ cap ∧ n ≤ 1048576 ∧ cap ≤ maxLen ∧ (0 < n → ∃ b off,A = some ⟨b,off,none⟩ ∧ b < w.heap.size ∧ ∀ i p,l[i]? = some p → Op13.At w b (off + i * 10) p)
theorem Op13.At.keeps {w w' : World} {b o : Nat} {p : Op13} (h : Op13.At w b o p) (hb : b < w.heap.size) (hk : Keeps [] w w') : Op13.At w' b o p := by
 have hc : ∀ o,w'.cell? ⟨b,o,none⟩ = w.cell? ⟨b,o,none⟩ := fun o => World.cell?_of_block (hk.block b hb (by simp))
 exact ⟨(hc _).trans h.c0,(hc _).trans h.c1,(hc _).trans h.c2,(hc _).trans h.c3,(hc _).trans h.c4,(hc _).trans h.c5,(hc _).trans h.c6,(hc _).trans h.c7,(hc _).trans h.c8,(hc _).trans h.c9,h.vs.keeps hk (by simp),h.cap,h.ln⟩
theorem LstOp13.at_ {w : World} {A : Option Addr} {n cap : Nat} {l : List Op13} (h : LstOp13 w A n cap l) {k : Nat} (hk : k < n) :
 ∃ b off p,A = some ⟨b,off,none⟩ ∧ l[k]? = some p ∧ Cd.Ps w p.A p.L ∧ ∀ w',Keeps [] w w' → Op13.At w' b (off + k * 10) p := by
 obtain ⟨hl,_,_,_,h⟩ := h
 obtain ⟨b,off,hA,hb,hc⟩ := h (by omega)
 have hx : l[k]? = some (l[k]'(by omega)) := List.getElem?_eq_getElem (by omega)
 exact ⟨b,off,_,hA,hx,(hc k _ hx).vs,fun w' hw => (hc k _ hx).keeps hb hw⟩
section
variable {H : Type} {enc : TypeId × Value → H} {w : World} {base : Nat} {spare : Nat → Bool} {held : Bool}
theorem pr13_open {n : Nat} {cs : List Value} {y : DataW H × List MemPlace} (hl : cs.length = 2) (h : DataW.trod enc Tryz.prog w base spare held n 81 cs = some y) : ∃ v : Pr,cs = v.cells := by
 obtain ⟨c0,c1,rfl⟩ : ∃ c0 c1,cs = [c0,c1] := by
  match cs,hl with
  | [c0,c1],_ => exact ⟨_,_,rfl⟩
 obtain ⟨n0,y0,t0⟩ := trod_field Tryz.underlying81 h 0 _ rfl 1 (by kernel_rfl) [c0] rfl
 obtain ⟨x0,e0,_,q0⟩ := DataW.trod_int Tryz.underlying3 t0
 simp at e0
 obtain ⟨n1,y1,t1⟩ := trod_field Tryz.underlying81 h 1 _ rfl 1 (by kernel_rfl) [c1] rfl
 obtain ⟨x1,e1,_,q1⟩ := DataW.trod_int Tryz.underlying2 t1
 simp at e1
 exact ⟨⟨x0,x1⟩,by rw [e0,e1]; rfl⟩
theorem prs13_open {fuel : Nat} {v : Value} {x : DataW H × List MemPlace} (h : DataW.trod enc Tryz.prog w base spare held fuel 67 [v] = some x) (hsz : Rows.uptoBulk x.1 ≤ 1048576) : ∃ A c L,v = .slice A (List.length L) c ∧ Cd.Ps w A L ∧ L.length ≤ c ∧ c ≤ maxLen ∧ L.length ≤ 1048576 := by
 have hbn : ∀ A n c,v = .slice A n c → n ≤ 1048576 := fun A n c e => by
  subst e
  rcases open_slice Tryz.underlying67 h with ⟨hcs,_⟩ | ⟨a,len,c',m,q,D,Pl,hcs,_,_,_,_,hx,_⟩
  · simp at hcs
    omega
  · simp at hcs
    obtain ⟨rfl,rfl,rfl⟩ := hcs
    rw [hx] at hsz
    have h1 := Nat.le_trans (bulks.slice_le ((List.range n).map D) ((List.range (m - n)).map fun j => D (n + j))) hsz
    simp only [List.length_map,List.length_range] at h1
    omega
 rcases open_els_b Tryz.underlying67 (C := 2) (by kernel_rfl) h with hcs | ⟨a,n,c,hcs,hl,hm,hf⟩
 · simp at hcs
   subst hcs
   exact ⟨none,0,[],rfl,fun h => absurd h (by simp),by simp,by decide,by simp⟩
 ·
  simp at hcs
  subst hcs
  have hn := hbn _ _ _ rfl
  have one : ∀ i,i < n → ∃ p : Pr,(i = 0 → a = ⟨a.block,a.off,none⟩) ∧ (w.cell? ⟨a.block,a.off + i * 2,none⟩ = some (.int .i64 p.cell) ∧ w.cell? ⟨a.block,a.off + i * 2 + 1,none⟩ = some (.int .i64 p.x)) := by
   intro i hi
   obtain ⟨m,cs',y,hlen,hcell,ht,_⟩ := hf i hi
   obtain ⟨p,rfl⟩ := pr13_open hlen ht
   have k0 := hcell 0 _ rfl
   refine ⟨p,fun hi0 => ?_,addAt (hcell 0 _ rfl),addAt (hcell 1 _ rfl)⟩
   subst hi0; exact addrNone (by simpa using k0)
  obtain ⟨F,hF⟩ := choose_lt one
  have hlen : ((List.range n).map F).length = n := by simp
  refine ⟨some a,c,(List.range n).map F,by rw [hlen],fun h0 => ?_,by rw [hlen]; exact hl,hm,by rw [hlen]; exact hn⟩
  rw [hlen] at h0
  have ea := (hF 0 h0).1 rfl
  rw [ea]
  refine Ps_of (fun i v hv => ?_) (by rw [hlen]; exact h0)
  rw [List.getElem?_map] at hv
  by_cases hi : i < n
  · rw [List.getElem?_range hi] at hv
    simp at hv
    subst hv
    exact (hF i hi).2
  · rw [List.getElem?_eq_none (by simp; omega)] at hv
    cases hv
theorem op13_open {n : Nat} {cs : List Value} {y : DataW H × List MemPlace} (hl : cs.length = 10) (h : DataW.trod enc Tryz.prog w base spare held n 71 cs = some y) (hy : Rows.uptoBulk y.1 ≤ 1048576) : ∃ p : Op13,cs = p.vals.toList ∧ Cd.Ps w p.A p.L ∧ (p.L.length ≤ p.c ∧ p.c ≤ maxLen) ∧ p.L.length ≤ 1048576 := by
 obtain ⟨c0,c1,c2,c3,c4,c5,c6,c7,c8,c9,rfl⟩ : ∃ c0 c1 c2 c3 c4 c5 c6 c7 c8 c9,cs = [c0,c1,c2,c3,c4,c5,c6,c7,c8,c9] := by
  match cs,hl with
  | [c0,c1,c2,c3,c4,c5,c6,c7,c8,c9],_ => exact ⟨_,_,_,_,_,_,_,_,_,_,rfl⟩
 obtain ⟨n0,y0,t0⟩ := trod_field Tryz.underlying71 h 0 _ rfl 1 (by kernel_rfl) [c0] rfl
 obtain ⟨x0,e0,_,q0⟩ := DataW.trod_int Tryz.underlying3 t0
 simp at e0
 obtain ⟨n1,y1,t1⟩ := trod_field Tryz.underlying71 h 1 _ rfl 1 (by kernel_rfl) [c1] rfl
 obtain ⟨x1,e1,_,q1⟩ := DataW.trod_int Tryz.underlying3 t1
 simp at e1
 obtain ⟨n2,y2,t2⟩ := trod_field Tryz.underlying71 h 2 _ rfl 1 (by kernel_rfl) [c2] rfl
 obtain ⟨x2,e2,_,q2⟩ := DataW.trod_int Tryz.underlying3 t2
 simp at e2
 obtain ⟨n3,y3,t3⟩ := trod_field Tryz.underlying71 h 3 _ rfl 1 (by kernel_rfl) [c3] rfl
 obtain ⟨x3,e3,_,q3⟩ := DataW.trod_int Tryz.underlying3 t3
 simp at e3
 obtain ⟨n4,y4,t4⟩ := trod_field Tryz.underlying71 h 4 _ rfl 1 (by kernel_rfl) [c4] rfl
 obtain ⟨x4,e4,_,q4⟩ := DataW.trod_int Tryz.underlying2 t4
 simp at e4
 obtain ⟨nf,yf,tf,bf⟩ := trod_field_b Tryz.underlying71 h 5 _ rfl 5 (by kernel_rfl) [c5,c6,c7,c8,c9] rfl
 obtain ⟨m0,z0,s0⟩ := trod_field Tryz.underlying69 tf 0 _ rfl 1 (by kernel_rfl) [c5] rfl
 obtain ⟨x5,e5,_,q5⟩ := DataW.trod_int Tryz.underlying3 s0
 simp at e5
 obtain ⟨m1,z1,s1⟩ := trod_field Tryz.underlying69 tf 1 _ rfl 1 (by kernel_rfl) [c6] rfl
 obtain ⟨x6,e6,_,q6⟩ := DataW.trod_int Tryz.underlying3 s1
 simp at e6
 obtain ⟨m2,z2,s2⟩ := trod_field Tryz.underlying69 tf 2 _ rfl 1 (by kernel_rfl) [c7] rfl
 obtain ⟨x7,e7,_,q7⟩ := DataW.trod_int Tryz.underlying3 s2
 simp at e7
 obtain ⟨m3,z3,s3⟩ := trod_field Tryz.underlying69 tf 3 _ rfl 1 (by kernel_rfl) [c8] rfl
 obtain ⟨x8,e8,_,q8⟩ := DataW.trod_int Tryz.underlying3 s3
 simp at e8
 obtain ⟨n6,y6,t6,b6⟩ := trod_field_b Tryz.underlying69 tf 4 _ rfl 1 (by kernel_rfl) [c9] rfl
 obtain ⟨A,c,L,e9,hv,hc1,hc2,hln⟩ := prs13_open t6 (Nat.le_trans b6 (Nat.le_trans bf hy))
 exact ⟨⟨x0,x1,x2,x3,x4,x5,x6,x7,x8,A,c,L⟩,by rw [e0,e1,e2,e3,e4,e5,e6,e7,e8,e9]; rfl,hv,⟨hc1,hc2⟩,hln⟩
theorem lstOp13_open {fuel : Nat} {A : Option Addr} {n cap : Nat} {x : DataW H × List MemPlace} (h : DataW.trod enc Tryz.prog w base spare held fuel 54 [.slice A n cap] = some x) (hsz : Rows.uptoBulk x.1 ≤ 1048576) : ∃ l,LstOp13 w A n cap l := by
 have hbn : n ≤ 1048576 := by
  rcases open_slice Tryz.underlying54 h with ⟨hcs,_⟩ | ⟨a,len,c,m,q,D,Pl,hcs,_,_,_,_,hx,_⟩
  · simp at hcs
    omega
  · simp at hcs
    obtain ⟨rfl,rfl,rfl⟩ := hcs
    rw [hx] at hsz
    have h1 := Nat.le_trans (bulks.slice_le ((List.range n).map D) ((List.range (m - n)).map fun j => D (n + j))) hsz
    simp only [List.length_map,List.length_range] at h1
    omega
 rcases open_els_b Tryz.underlying54 (C := 10) (by kernel_rfl) h with hcs | ⟨a,len,c,hcs,hl,hm,hf⟩
 · simp at hcs
   obtain ⟨rfl,rfl,rfl⟩ := hcs
   exact ⟨[],rfl,Nat.le_refl _,by omega,by decide,fun h => absurd h (by omega)⟩
 ·
  simp at hcs
  obtain ⟨rfl,rfl,rfl⟩ := hcs
  have one : ∀ i,i < n → ∃ p : Op13,(i = 0 → a = ⟨a.block,a.off,none⟩) ∧ a.block < w.heap.size ∧ Op13.At w a.block (a.off + i * 10) p := by
   intro i hi
   obtain ⟨m,cs',y,hlen,hcell,ht,hyb⟩ := hf i hi
   obtain ⟨p,rfl,v1,v2,v3⟩ := op13_open hlen ht (Nat.le_trans hyb hsz)
   have k0 := hcell 0 _ rfl
   refine ⟨p,fun hi0 => ?_,?_,?_⟩
   · subst hi0; exact addrNone (by simpa using k0)
   · have := World.block_lt_of_cell? w _ k0
     rwa [block_add] at this
   · exact ⟨addAt (hcell 0 _ rfl),addAt (hcell 1 _ rfl),addAt (hcell 2 _ rfl),addAt (hcell 3 _ rfl),addAt (hcell 4 _ rfl),addAt (hcell 5 _ rfl),addAt (hcell 6 _ rfl),addAt (hcell 7 _ rfl),addAt (hcell 8 _ rfl),addAt (hcell 9 _ rfl),v1,v2,v3⟩
  obtain ⟨F,hF⟩ := choose_lt one
  refine ⟨(List.range n).map F,by simp,hl,hbn,hm,fun hn => ⟨a.block,a.off,?_,(hF 0 hn).2.1,?_⟩⟩
  · exact congrArg some ((hF 0 hn).1 rfl)
  ·
   intro i p hp
   rw [List.getElem?_map] at hp
   by_cases hi : i < n
   · rw [List.getElem?_range hi] at hp
     simp at hp
     subst hp
     exact (hF i hi).2.2
   · rw [List.getElem?_eq_none (by simp; omega)] at hp
     cases hp
end
end Go.Proofs.YtmlnedilbneekaaGreat