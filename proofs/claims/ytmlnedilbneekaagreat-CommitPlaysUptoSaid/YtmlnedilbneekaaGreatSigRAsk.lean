/- Arguments opened: slices of structs whose fields may have many cells. -/
import Derived.Test.YtmlnedilbneekaaGreatRows
import Derived.Test.YtmlnedilbneekaaGreatSigMeets
import Derived.WideKeyArr2
import Derived.Test.YtmlnedilbneekaaGreatSigTouched
import Derived.Test.YtmlnedilbneekaaGreatSigRef
import Derived.Laws.Bits128
import Derived.Test.YtmlnedilbneekaaGreatMake
namespace Go.Proofs.YtmlnedilbneekaaGreat.bulks
theorem one_le {H : Type} (d : DataW H) : 1 ≤ Rows.uptoBulk d := by
 cases d with
 | lit l => cases l <;> simp [Rows.uptoBulk]
 | nil => simp [Rows.uptoBulk]
 | ptr d => simp [Rows.uptoBulk]
 | slice elems spare => simp [Rows.uptoBulk]
 | agg parts => simp [Rows.uptoBulk]
 | iface t d => simp [Rows.uptoBulk]
 | map entries => simp [Rows.uptoBulk]
 | held h => simp [Rows.uptoBulk]
theorem part_le {H : Type} {d : DataW H} {l : List (DataW H)} (h : d ∈ l) : Rows.uptoBulk d ≤ Rows.uptoBulkAll l := by
 induction l with
 | nil => cases h
 | cons x r ih =>
   simp only [Rows.uptoBulkAll]
   cases List.mem_cons.1 h with
   | inl e => subst e; omega
   | inr e => have := ih e; omega
theorem length_le {H : Type} (l : List (DataW H)) : l.length ≤ Rows.uptoBulkAll l := by
 induction l with
 | nil => simp [Rows.uptoBulkAll]
 | cons x r ih => have := one_le x; simp only [Rows.uptoBulkAll,List.length_cons]; omega
theorem slice_le {H : Type} (elems spare : List (DataW H)) : elems.length + spare.length + 1 ≤ Rows.uptoBulk (.slice elems spare) := by
 have h1 := length_le elems
 have h2 := length_le spare
 simp only [Rows.uptoBulk]
 omega
theorem small {H : Type} {l : List (DataW H)} (hk : Rows.uptoSmall H l = true) {d : DataW H} (h : d ∈ l) : Rows.uptoBulk d ≤ 1048576 := by
 have h1 : Rows.uptoBulkAll l ≤ 1048576 := of_decide_eq_true hk
 exact Nat.le_trans (part_le h) h1
end Go.Proofs.YtmlnedilbneekaaGreat.bulks
namespace Go.Proofs.YtmlnedilbneekaaGreat
open Go.RowKit Go.ChangeShapes Go.WideShapes
set_option linter.unusedVariables false
variable {H : Type} {enc : TypeId × Value → H} {P : Program} {w : World} {base : Nat} {spare : Nat → Bool} {held : Bool}
open Go.ChangeShapes Go.WideShapes Go.Deep Go.RowKit
section
variable {H : Type} {enc : TypeId × Value → H} {P : Program} {w : World} {base : Nat} {spare : Nat → Bool} {held : Bool}
theorem trod_field {t : TypeId} {fs : Array Field} {fuel : Nat} {cs : List Value} {x : DataW H × List MemPlace} (ht : P.underlying t = some (.struct fs)) (h : DataW.trod enc P w base spare held fuel t cs = some x)
 (j : Nat) (f : Field) (hj : fs[j]? = some f) (k : Nat) (hk : P.cellsOf f.type = k) (cs' : List Value) (hcs : (cs.drop f.offset).take k = cs') : ∃ n y,DataW.trod enc P w base spare held n f.type cs' = some y := by
 obtain ⟨ys,n',hn',hy,hlen,hyl,hf⟩ := DataW.trod_struct ht h
 have hjl : j < fs.size := (Array.getElem?_eq_some_iff.1 hj).1
 have h1 := hf j f hj
 rw [hk,hcs] at h1
 exact ⟨n',_,h1.trans (List.getElem?_eq_getElem (by omega))⟩
theorem addAt {w : World} {a : Addr} {k : Nat} {v : Value} (h : w.cell? (a.add k) = some v) : w.cell? ⟨a.block,a.off + k,none⟩ = some v := by
 have hs := World.cell?_spot h
 obtain ⟨b,o,s⟩ := a
 by_cases hk : k = 0
 · subst hk
   simp [Addr.add] at hs
   subst hs
   simpa [Addr.add] using h
 · simpa [Addr.add,hk] using h
theorem addrNone {w : World} {a : Addr} {v : Value} (h : w.cell? (a.add 0) = some v) : a = ⟨a.block,a.off,none⟩ := by
 have hs := World.cell?_spot h
 obtain ⟨b,o,s⟩ := a
 simp [Addr.add] at hs
 simp [hs]
end
open Go.RowKit
set_option linter.unusedSimpArgs false
set_option maxHeartbeats 1000000 in
theorem rof_any (w : World) (A : Option Addr) (c : Nat) (l : List Int) (hA : Slc w A l) (n : Int) (n0 : 1 ≤ n) (n1 : n ≤ 128) :
 Calls Tryz.prog 124 #[.slice A l.length c,.int .i64 n] w fun e w' => e = .returned (.tuple #[(ofR n l).val,.int .i64 (ofE l)]) ∧ Keeps [] w w' := by
 have hlen := hA.1
 have HA := Lib.hid hA
 unfold maxLen at hlen
 clear hA
 go_enter Tryz.func124,Tryz.ntmps124
 go_wp2
 go_loopw [7] (fun i wr => ∃ k : Nat,k ≤ l.length ∧ i = .int .i64 k ∧ Hid ((l.take k).all isCell = true) ∧ Acc2 w (ofL n (l.take k)) wr) (fun i _ => l.length - (intOf i).toNat)
 case atStart => exact ⟨0,Nat.zero_le _,rfl,by unfold Hid; simp,Acc2.start w⟩
 case round =>
  obtain ⟨k,hk,rfl,hall,hacc⟩ := hrel
  have H := Lib.hid hacc
  have r0 : wr.cell? ⟨w.heap.size,0,none⟩ = some (.int .u64 0) := (hacc.1.cell 0).trans rfl
  have r1 : wr.cell? ⟨w.heap.size,1,none⟩ = some (.int .u64 0) := (hacc.1.cell 1).trans rfl
  have g0 := hacc.1.frozen 0
  have g1 := hacc.1.frozen 1
  have c0 : wr.cell? ⟨w.heap.size + 1,0,none⟩ = some (.int .u64 ((ofL n (l.take k)).a : Int)) := (hacc.2.1.cell 0).trans rfl
  have c1 : wr.cell? ⟨w.heap.size + 1,1,none⟩ = some (.int .u64 ((ofL n (l.take k)).b : Int)) := (hacc.2.1.cell 1).trans rfl
  obtain ⟨s,hs⟩ : ∃ s,ofL n (l.take k) = s := ⟨_,rfl⟩
  have hok : s.ok := hs ▸ ofL_ok n0 n1 _
  rw [hs] at c0 c1
  have HS := Lib.hid hs
  have HOK := Lib.hid hok
  clear hacc hs hok
  by_cases hlt : k < l.length
  ·
   obtain ⟨x,hx⟩ : ∃ x,l[k]? = some x := ⟨_,List.getElem?_eq_getElem hlt⟩
   rcases (HA.out.keeps H.out.2.2).2 with h0 | ⟨b,off,rfl,hb,hc⟩
   · subst h0; simp at hlt
   have d1 := hc k x hx
   have HX := Lib.hid hx
   clear hc hx
   have k0 : (0 : Int) ≤ (k : Int) := by omega
   have k1 : (k : Int) < (l.length : Int) := by omega
   by_cases hc : isCell x = true
   ·
    have hxr := isCell_yes.1 hc
    have ra := hA_rng x n n0 n1
    have rb := hB_rng x n n0 n1
    have HC := Lib.hid hc
    clear hc
    go_wp2_with fail
    refine (rhash_ok wr x n hxr.1 hxr.2 n0 n1).mono ?_
    rintro e w0 ⟨rfl,rfl⟩
    go_wp2_with fail
    refine (with_int wr s.a s.b s HOK.out rfl rfl (hA x n) ra.1 (by omega)).mono ?_
    rintro e w1 ⟨rfl,hk1⟩
    obtain ⟨s1,hs1⟩ : ∃ s1,s.set (hA x n).toNat = s1 := ⟨_,rfl⟩
    have hok1 : s1.ok := hs1 ▸ Sg.set_ok s HOK.out _ (by omega)
    rw [hs1]
    have b2 := H.out.2.1.keeps hk1 (by simp)
    have e0 : w1.cell? ⟨w.heap.size + 1,0,none⟩ = some (.int .u64 ((ofL n (l.take k)).a : Int)) := (b2.cell 0).trans rfl
    have e1 : w1.cell? ⟨w.heap.size + 1,1,none⟩ = some (.int .u64 ((ofL n (l.take k)).b : Int)) := (b2.cell 1).trans rfl
    have f0 := b2.frozen 0
    have f1 := b2.frozen 1
    have HN := Lib.hid (H.out.next (s' := s1) hk1)
    have HS1 := Lib.hid hs1
    have HOK1 := Lib.hid hok1
    clear hs1 hok1 hk1 b2 c0 c1 d1
    go_wp2_with fail
    refine (with_int _ s1.a s1.b s1 HOK1.out rfl rfl (hB x n) rb.1 (by omega)).mono ?_
    rintro e w2 ⟨rfl,hk2⟩
    obtain ⟨s2,hs2⟩ : ∃ s2,s1.set (hB x n).toNat = s2 := ⟨_,rfl⟩
    rw [hs2]
    have HS2 := Lib.hid hs2
    have b3 := HN.out.2.1.keeps hk2 (by simp)
    have e2 : w2.cell? ⟨w.heap.size + 1,0,none⟩ = some (.int .u64 (s1.a : Int)) := (b3.cell 0).trans rfl
    have e3 : w2.cell? ⟨w.heap.size + 1,1,none⟩ = some (.int .u64 (s1.b : Int)) := (b3.cell 1).trans rfl
    have f2 := b3.frozen 0
    have f3 := b3.frozen 1
    have HK2 := Lib.hid hk2
    clear hs2 hk2 b3 e0 e1 f0 f1
    go_wp2_with fail
    go_roundw
    case rel =>
     refine ⟨k + 1,by omega,by go_num,?_,?_⟩
     · unfold Hid
       rw [take_snoc HX.out,List.all_append,hall.out]
       simp [HC.out]
     · have e : ofL n (l.take (k + 1)) = s2 := by rw [take_snoc HX.out,ofL_snoc,HS.out]; unfold Sg.add; rw [HS1.out,HS2.out]
       rw [e]
       exact HN.out.next HK2.out
    case measure => simp [intOf]; omega
   ·
    have hcf : isCell x = false := by simpa using hc
    have hxr : x < 0 ∨ 255 < x := by
     rcases Classical.em (0 ≤ x ∧ x ≤ 255) with h | h
     · exact absurd (isCell_yes.2 h) hc
     · omega
    have HXR := Lib.hid hxr
    have HC := Lib.hid hcf
    clear hc hcf hxr
    go_wp2_with fail
    refine (rhash_place wr x n n0 n1 HXR.out).mono ?_
    rintro e w0 ⟨rfl,rfl⟩
    go_wp2_with fail
    have hall2 : l.all isCell = false := by
     rw [List.all_eq_false]
     exact ⟨x,List.mem_of_getElem? HX.out,by simp [HC.out]⟩
    refine bodyPost_ret (v := .tuple #[.agg #[.int .u64 0,.int .u64 0],.int .i64 2]) (by simp [results,Tryz.results124,go_sem,r0,r1]) rfl ⟨by simp [ofR,ofE,hall2,Sg.zero,Sg.val],?_⟩
    exact (H.out.2.2.setCell (.inr (Nat.le_refl _)) _).setCell (.inr (Nat.le_refl _)) _
  ·
   have hge : ¬ ((k : Int) < (l.length : Int)) := by omega
   go_wp2_with fail
   have e : k = l.length := by omega
   subst e
   have hall2 : l.all isCell = true := by have := hall.out; rwa [List.take_length] at this
   have hs2 : ofL n l = s := by have := HS.out; rwa [List.take_length] at this
   refine bodyPost_ret (v := .tuple #[.agg #[.int .u64 (s.a : Int),.int .u64 (s.b : Int)],.int .i64 0]) (by simp [results,Tryz.results124,go_sem,r0,r1]) rfl ⟨by simp [ofR,ofE,hall2,hs2,Sg.val],?_⟩
   exact (H.out.2.2.setCell (.inr (Nat.le_refl _)) _).setCell (.inr (Nat.le_refl _)) _
theorem Sg.ext_has {s t : Sg} (hs : s.ok) (ht : t.ok) (h : ∀ k,k < 128 → s.has k = t.has k) : s = t := by
 obtain ⟨a,b⟩ := s
 obtain ⟨c,d⟩ := t
 have e1 : a = c := by
  apply Nat.eq_of_testBit_eq
  intro i
  by_cases hi : i < 64
  · have := h i (by omega); simpa only [Sg.has,hi,if_true] using this
  · have h1 : a.testBit i = false := by cases hb : a.testBit i; rfl; exact absurd (bit_lt64 hs.1 hb) hi
    have h2 : c.testBit i = false := by cases hb : c.testBit i; rfl; exact absurd (bit_lt64 ht.1 hb) hi
    rw [h1,h2]
 have e2 : b = d := by
  apply Nat.eq_of_testBit_eq
  intro i
  by_cases hi : i < 64
  · have := h (i + 64) (by omega)
    have hn : ¬ i + 64 < 64 := by omega
    simpa only [Sg.has,hn,if_false,Nat.add_sub_cancel] using this
  · have h1 : b.testBit i = false := by cases hb : b.testBit i; rfl; exact absurd (bit_lt64 hs.2 hb) hi
    have h2 : d.testBit i = false := by cases hb : d.testBit i; rfl; exact absurd (bit_lt64 ht.2 hb) hi
    rw [h1,h2]
 rw [e1,e2]
theorem Sg.none_yes {s : Sg} : s.none = true ↔ s.a = 0 ∧ s.b = 0 := by
 unfold Sg.none
 simp
open Go.RowKit
theorem Sg.zero_has (i : Nat) : Sg.zero.has i = false := by unfold Sg.has Sg.zero; split <;> simp
theorem has_meet (a b : Sg) (i : Nat) : (a.meet b).has i = (a.has i && b.has i) := by unfold Sg.has Sg.meet; split <;> simp [Nat.testBit_and]
theorem none_has {s : Sg} (hs : s.ok) : s.none = true ↔ ∀ i,i < 128 → s.has i = false := by
 constructor
 · intro h i _
   obtain ⟨a,b⟩ := s
   have h := Sg.none_yes.1 h
   simp only at h
   rw [h.1,h.2]
   exact Sg.zero_has i
 · intro h
   have e : s = Sg.zero := Sg.ext_has hs zero_ok fun i hi => by rw [h i hi,Sg.zero_has]
   rw [e]; rfl
theorem none_of_all {s : Sg} (hs : s.ok) (h : ∀ i,i < 128 → s.has i = false) : s.none = true := (none_has hs).2 h
theorem some_of {s : Sg} (hs : s.ok) (i : Nat) (hi : i < 128) (h : s.has i = true) : s.none = false := by
 cases hn : s.none
 · rfl
 · rw [(none_has hs).1 hn i hi] at h; cases h
open Go.RowKit
open Go.RowKit
open Go.RowKit
open Go.RowKit
structure NoneB (s : Sg) (k : Nat) : Prop where
 out : ∀ i,i < k → s.has i = false
def StC (w : World) (a b : Sg) (wr : World) : Prop :=
 Blk wr w.heap.size 47 #[.int .u64 (a.a : Int),.int .u64 (a.b : Int)] ∧ Blk wr (w.heap.size + 1) 47 #[.int .u64 (b.a : Int),.int .u64 (b.b : Int)] ∧ Keeps [] w wr
theorem StC.start (w : World) (a b : Sg) : StC w a b ((w.alloc (.cells #[.int .u64 (a.a : Int),.int .u64 (a.b : Int)] 47)).alloc (.cells #[.int .u64 (b.a : Int),.int .u64 (b.b : Int)] 47)) :=
 ⟨(Blk.new _ _ _).alloc _,new_at _ _ _ (by simp),(Sq.r.alloc _).alloc _⟩
theorem StC.keeps {w wr w' : World} {a b : Sg} (h : StC w a b wr) (hk : Keeps [] wr w') : StC w a b w' :=
 ⟨h.1.keeps hk (by simp),h.2.1.keeps hk (by simp),h.2.2.trans hk (by simp)⟩
theorem StC.cells {w wr : World} {a b : Sg} (h : StC w a b wr) :
 wr.cell? ⟨w.heap.size,0,none⟩ = some (.int .u64 (a.a : Int)) ∧ wr.cell? ⟨w.heap.size,1,none⟩ = some (.int .u64 (a.b : Int)) ∧ wr.cell? ⟨w.heap.size + 1,0,none⟩ = some (.int .u64 (b.a : Int)) ∧ wr.cell? ⟨w.heap.size + 1,1,none⟩ = some (.int .u64 (b.b : Int)) :=
 ⟨(h.1.cell 0).trans rfl,(h.1.cell 1).trans rfl,(h.2.1.cell 0).trans rfl,(h.2.1.cell 1).trans rfl⟩
set_option maxRecDepth 4000 in
set_option maxHeartbeats 1000000 in
theorem rmeets_any (w : World) (a b : Sg) (oa : a.ok) (ob : b.ok) :
 Calls Tryz.prog 119 #[a.val,b.val] w fun e w' => e = .returned (.bool (!(a.meet b).none)) ∧ Keeps [] w w' := by
 have OA := Lib.hid oa
 have OB := Lib.hid ob
 clear oa ob
 unfold Sg.val
 go_enter Tryz.func119,Tryz.ntmps119
 go_wp2_with fail
 go_loopw [5] (fun i wr => ∃ k : Nat,k ≤ 128 ∧ i = .int .i64 k ∧ NoneB (a.meet b) k ∧ StC w a b wr) (fun i _ => 128 - (intOf i).toNat)
 case atStart => exact ⟨0,by omega,rfl,⟨fun i hi => by omega⟩,StC.start w a b⟩
 case round =>
  obtain ⟨k,hk,rfl,HALL,hst⟩ := hrel
  have H := Lib.hid hst
  obtain ⟨x0,x1,x2,x3⟩ := hst.cells
  clear hst
  by_cases hlt : (k : Int) < 128
  ·
   have hlt' : k < 128 := by omega
   have k0 : (0 : Int) ≤ (k : Int) := by omega
   have qa := has_any wr a OA.out k hlt'
   have hpk := Lib.hid (has_meet a b k)
   have HB := fun w1 : World => has_any w1 b OB.out k hlt'
   unfold Sg.val at qa HB
   cases h1 : a.has k
   ·
    rw [h1] at qa
    have HPK := Lib.hid (show (a.meet b).has k = false by rw [hpk.out,h1]; rfl)
    have QA := Lib.hid qa
    clear qa HB h1 hpk hlt'
    go_wp2_with fail
    refine QA.out.mono ?_
    rintro e w2 ⟨rfl,k1⟩
    have H2 := Lib.hid (H.out.keeps k1)
    clear k1
    go_wp2_with fail
    go_roundw
    case rel => exact ⟨k + 1,by omega,by go_num,⟨fun i hi => by
     by_cases e : i = k
     · subst e; exact HPK.out
     · exact HALL.out i (by omega)⟩,H2.out⟩
    case measure => simp [intOf]; omega
   ·
    rw [h1] at qa
    have QA := Lib.hid qa
    have H1a := Lib.hid h1
    clear qa h1 hlt'
    cases h2 : b.has k
    ·
     simp only [h2] at HB
     have QB := Lib.hid HB
     have HPK := Lib.hid (show (a.meet b).has k = false by rw [hpk.out,H1a.out,h2]; rfl)
     clear HB h2 hpk
     go_wp2_with fail
     refine QA.out.mono ?_
     rintro e w1 ⟨rfl,k1⟩
     have H1 := Lib.hid (H.out.keeps k1)
     clear x0 x1 x2 x3 k1
     obtain ⟨x0,x1,x2,x3⟩ := H1.out.cells
     go_wp2_with fail
     refine (QB.out _).mono ?_
     rintro e w2 ⟨rfl,k2⟩
     have H2 := Lib.hid (H1.out.keeps k2)
     clear x0 x1 x2 x3 k2
     go_wp2_with fail
     go_roundw
     case rel => exact ⟨k + 1,by omega,by go_num,⟨fun i hi => by
      by_cases e : i = k
      · subst e; exact HPK.out
      · exact HALL.out i (by omega)⟩,H2.out⟩
     case measure => simp [intOf]; omega
    ·
     simp only [h2] at HB
     have QB := Lib.hid HB
     have HPK := Lib.hid (show (a.meet b).has k = true by rw [hpk.out,H1a.out,h2]; rfl)
     clear HB h2 hpk
     go_wp2_with fail
     refine QA.out.mono ?_
     rintro e w1 ⟨rfl,k1⟩
     have H1 := Lib.hid (H.out.keeps k1)
     clear x0 x1 x2 x3 k1
     obtain ⟨x0,x1,x2,x3⟩ := H1.out.cells
     go_wp2_with fail
     refine (QB.out _).mono ?_
     rintro e w2 ⟨rfl,k2⟩
     have H2 := Lib.hid (H1.out.keeps k2)
     clear x0 x1 x2 x3 k2
     go_wp2_with fail
     have hn := some_of (Sg.meet_ok b OA.out) k (by omega) HPK.out
     go_ret
     exact ⟨by rw [hn]; rfl,H2.out.2.2⟩
  · have ek : k = 128 := by omega
    subst ek
    go_wp2_with fail
    have hn := none_of_all (Sg.meet_ok b OA.out) (fun i hi => HALL.out i hi)
    go_ret
    exact ⟨by rw [hn]; rfl,H.out.2.2⟩
end Go.Proofs.YtmlnedilbneekaaGreat