/- What a space holds, and its calls as functions. Plain Lean. -/
import Derived.Test.YtmlnedilbneekaaGreatSlotsCl
import Derived.RegionTactic
import Derived.BigRegion
import Derived.StillTailTactics
import Derived.Laws.CopyOwn
import Derived.Laws.StructEq
import Derived.Test.YtmlnedilbneekaaGreatMeter
import Derived.Test.YtmlnedilbneekaaGreatRowG
import Derived.Test.YtmlnedilbneekaaGreatRowH
import Derived.Test.YtmlnedilbneekaaGreatMake
set_option linter.unusedVariables false
set_option linter.unusedSimpArgs false
namespace Go.Proofs.YtmlnedilbneekaaGreat
open Go.RowKit
structure TS (w0 w : World) (t : Tb) (H : List Hd) (W : List Int) : Prop where
 tab : TabAt w t none H W
 keep : Keeps [] w0 w
 lob : w0.heap.size ≤ t.b
 loc : w0.heap.size ≤ t.c
section
variable {w0 w w' : World} {t : Tb} {H H' : List Hd} {W W' : List Int}
end
open Go.RowKit
section
variable {w w' : World} {z : Nat} {ty : TypeId} {f f' : Nat → Value}
end
def hg (H : List Hd) (j : Nat) : Hd := H[j]?.getD Hd.zero
def Hd.shape (x : Hd) : Prop :=
 (∃ g,x = ⟨g,0,0,0,false,0⟩) ∨ (∃ g t,t ≠ 0 ∧ x = ⟨g,1,0,t,false,0⟩) ∨ (∃ g s t,s ≠ 0 ∧ t ≠ 0 ∧ x = ⟨g,2,s,t,false,0⟩) ∨ (∃ g s t b,s ≠ 0 ∧ t ≠ 0 ∧ b ≠ 0 ∧ x = ⟨g,2,s,t,true,b⟩)
structure Fine (k : Nat) (x : Hd) : Prop where
 g0 : 0 ≤ x.gen
 g1 : x.gen ≤ k
 sh : x.shape
open Go.RowKit
structure Sl where
 h : Hd
 a : Int
 b : Int
def Sl.cells (s : Sl) : List Value := RowH.cells s.h ++ [.int .u64 s.a,.int .u64 s.b]
def slL : List Hd → List Int → List Sl
 | h :: H,a :: b :: W => ⟨h,a,b⟩ :: slL H W
 | _,_ => []
theorem slL_len : ∀ (H : List Hd) (W : List Int),W.length = 2 * H.length → (slL H W).length = H.length
 | [],_,_ => rfl
 | h :: H,a :: b :: W,e => by simp [slL]; exact slL_len H W (by simp at e; omega)
 | h :: H,[],e => by simp at e
 | h :: H,[a],e => by simp at e; omega
theorem slL_get : ∀ (H : List Hd) (W : List Int) (k : Nat) (x : Hd) (a b : Int),H[k]? = some x → W[2 * k]? = some a → W[2 * k + 1]? = some b → (slL H W)[k]? = some ⟨x,a,b⟩
 | [],_,k,_,_,_,h,_,_ => by simp at h
 | y :: H,[],k,_,_,_,_,h,_ => by simp at h
 | y :: H,[c],k,_,_,_,_,h,h2 => by simp at h2
 | y :: H,c :: d :: W,0,x,a,b,h,h1,h2 => by simp at h h1 h2; subst h h1 h2; rfl
 | y :: H,c :: d :: W,k + 1,x,a,b,h,h1,h2 => by
   have e1 : 2 * (k + 1) = 2 * k + 1 + 1 := by omega
   rw [e1] at h1 h2
   simp at h h1 h2
   simpa [slL] using slL_get H W k x a b h h1 h2
def RowS (w wr : World) (v : Value) (l : List Sl) : Prop := wr.ownsRow w.heap.size 224 8 v l.length (l.flatMap Sl.cells) ∧ Keeps [] w wr
theorem RowS.nil {w wr : World} (h : Keeps [] w wr) : RowS w wr (.slice none 0 0) [] := ⟨World.ownsRow_nil _ _ _ _,h⟩
theorem RowS.keeps {w wr w' : World} {v : Value} {l : List Sl} (h : RowS w wr v l) (hk : Keeps [] wr w') : RowS w w' v l := ⟨own_keeps h.1 hk (by simp),h.2.trans hk (by simp)⟩
theorem RowS.own0 {w wr : World} {v : Value} {l : List Sl} (h : RowS w wr v l) (n : Nat) (hn : n = l.length) : wr.ownsRow 0 224 8 v n (l.flatMap Sl.cells) := hn ▸ own_base h.1 (fun k _ => Nat.zero_le k)
theorem RowS.snoc {w wr w0 w1 : World} {v v1 : Value} {l m : List Sl} (h : RowS w wr v l) (hk : Keeps [] wr w0) {n : Nat} (hn : n = (l ++ m).length)
 (ho : w1.ownsRow 0 224 8 v1 n (l.flatMap Sl.cells ++ m.flatMap Sl.cells)) (hg : w0.grownBy w1 v.ownBlock) (ha : v1.ownBlock = v.ownBlock ∨ v1.ownBlock = some w0.heap.size) : RowS w w1 v1 (l ++ m) := by
 have hsz : w.heap.size ≤ w0.heap.size := Nat.le_trans h.2.size hk.size
 have hb : ∀ k,v.ownBlock = some k → w.heap.size ≤ k := fun k hk' => (h.1.lt k hk').1
 subst hn
 refine ⟨own_base (by simpa using ho) ?_,(h.2.trans hk (by simp)).grown hg fun k hk' => .inr (hb k hk')⟩
 intro k hk'
 rcases ha with e | e
 · exact hb k (e ▸ hk')
 · rw [e] at hk'; injection hk' with hk'; omega
theorem slot_row (w : World) (s : Sl) (k : Nat) (hk : w.heap.size = k) : (w.alloc (.cells #[.int .i64 s.h.gen,.int .i64 s.h.state,.int .i64 s.h.stamp,.int .i64 s.h.thread,.bool s.h.doomed,.int .i64 s.h.who,.int .u64 s.a,.int .u64 s.b] 224)).ownsRow 0 224 8 (.slice (some ⟨k,0,none⟩) 1 1) 1 ([s].flatMap Sl.cells) := by
 subst hk
 exact ⟨rfl,.inr ⟨w.heap.size,1,_,rfl,Nat.zero_le _,heap_alloc_new w _,Nat.le_refl _,by decide,rfl,by simp [Sl.cells,RowH.cells]⟩⟩
theorem sl_ones (l : List Sl) : ∀ u ∈ l.flatMap Sl.cells,u.oneCell' = true := by
 intro u hu
 obtain ⟨x,_,hx⟩ := List.mem_flatMap.1 hu
 simp only [Sl.cells,RowH.cells,List.mem_append,List.mem_cons,List.not_mem_nil,or_false] at hx
 rcases hx with (rfl | rfl | rfl | rfl | rfl | rfl) | rfl | rfl <;> rfl
theorem Tryz.infoSlot : (Tryz.prog.info? 224).map (fun i => (i.zero,i.size,i.bytes)) = some (some (.agg #[.int .i64 0,.int .i64 0,.int .i64 0,.int .i64 0,.bool false,.int .i64 0,.int .u64 0,.int .u64 0]),8,64) := by kernel_rfl
theorem words_all (w : World) (r b : Nat) (kind : Int) (mp : Option Nat) (l : List Int) (hr : RowU.At RowU.R w r b kind mp l) (hn : 1 ≤ l.length) :
 Calls Tryz.prog 149 #[.pointer (some ⟨r,0,none⟩)] w fun e w' => ∃ a c,e = .returned (.slice (some ⟨a,0,none⟩) l.length c) ∧ l.length ≤ c ∧ c ≤ maxLen ∧ w.heap.size ≤ a ∧ (∀ k x,l[k]? = some x → w'.cell? ⟨a,k,none⟩ = some (.int .u64 x)) ∧ Keeps [] w w' :=
 (RowU.all_any w r b kind mp l hr).mono fun e w' ⟨v,he,h1,h2⟩ => by
   rcases h1.2 with ⟨_,h0⟩ | ⟨a,cap,cur,rfl,hb,hg,h3,h4,_⟩
   · omega
   · exact ⟨a,cap,he,h3,h4,hb,fun k x hx => (h1.cellAt k (by have := (List.getElem?_eq_some_iff.1 hx).1; omega)).trans (RowU.cells_get l k x hx),h2⟩
set_option maxRecDepth 100000 in
theorem keeps_cell0 {w w' : World} (hk : Keeps [] w w') {b o : Nat} {v : Value} (h : w.cell? ⟨b,o,none⟩ = some v) : w'.cell? ⟨b,o,none⟩ = some v := by
 have hb := World.block_lt_of_cell? w _ h
 exact (World.cell?_of_block (hk.block b hb (by simp))).trans h
set_option maxRecDepth 100000 in
set_option maxHeartbeats 2000000 in
theorem slots_now (w : World) (t : Tb) (mp : Option Nat) (H : List Hd) (W : List Int) (h : TabAt w t mp H W) :
 Calls Tryz.prog 123 #[.pointer (some ⟨t.q,0,none⟩)] w fun e w' => ∃ v,e = .returned v ∧ RowS w w' v (slL H W) := by
 obtain ⟨i0,hi,hz0,hz1,hz2⟩ := info_parts Tryz.infoSlot
 have c1 : w.cell? ⟨t.q,1,none⟩ = some (.pointer (some ⟨t.s,0,none⟩)) := (h.blk.cell 1).trans rfl
 have QW := Lib.hid (words_all w t.s t.c 4 mp W h.words (by have := h.len; have := h.n1; omega))
 have HT := Lib.hid h
 have hlen := h.len
 have h8 := h.n8
 clear h
 go_enter Tryz.func123,Tryz.ntmps123
 go_wp2_with fail
 refine QW.out.mono ?_
 rintro e w1 ⟨aw,cw,rfl,hcw,hcm,haw,hww,k1⟩
 have HWW := Lib.hid hww
 have K1 := Lib.hid k1
 have c0 : w1.cell? ⟨t.q,0,none⟩ = some (.pointer (some ⟨t.r,0,none⟩)) := ((HT.out.calm k1).blk.cell 0).trans rfl
 have QH := Lib.hid (heads_all w1 t.r t.b 3 mp H (HT.out.calm k1).heads HT.out.n1)
 clear hww k1 c1 QW
 go_wp2_with fail
 refine QH.out.mono ?_
 rintro e w2 ⟨ah,ch,rfl,hah,hhh,k2⟩
 have HHH := Lib.hid hhh
 have K2 := Lib.hid (K1.out.trans k2 (by simp))
 have HWW2 := Lib.hid (fun k x (hx : W[k]? = some x) => (keeps_cell0 k2 (HWW.out k x hx)))
 clear hhh k2 c0 QH HWW
 go_wp2_with fail
 go_loopw [3,19] (fun out i wr => ∃ k : Nat,k ≤ H.length ∧ i = .int .i64 k ∧ RowS w2 wr out ((slL H W).take k)) (fun _ i _ => H.length - (intOf i).toNat)
 case atStart => exact ⟨0,Nat.zero_le _,rfl,RowS.nil Sq.r⟩
 case round =>
  obtain ⟨k,hk,rfl,hrow⟩ := hrel
  have hkw := hrow.2
  have HR := Lib.hid hrow
  have KW := Lib.hid hkw
  clear hrow
  by_cases hlt : k < H.length
  ·
   obtain ⟨x,hx⟩ : ∃ x,H[k]? = some x := ⟨_,List.getElem?_eq_getElem hlt⟩
   obtain ⟨ya,hya⟩ : ∃ a,W[2 * k]? = some a := ⟨_,List.getElem?_eq_getElem (by omega)⟩
   obtain ⟨yb,hyb⟩ : ∃ a,W[2 * k + 1]? = some a := ⟨_,List.getElem?_eq_getElem (by omega)⟩
   have HSL := Lib.hid (slL_get H W k x ya yb hx hya hyb)
   have hr6 := fun j v (hv : (RowH.cells x)[j]? = some v) => keeps_cell0 hkw (HHH.out k x hx j v hv)
   have l0 : wr.cell? ⟨ah,k * 6,none⟩ = some (.int .i64 x.gen) := hr6 0 _ rfl
   have l1 : wr.cell? ⟨ah,k * 6 + 1,none⟩ = some (.int .i64 x.state) := hr6 1 _ rfl
   have l2 : wr.cell? ⟨ah,k * 6 + 2,none⟩ = some (.int .i64 x.stamp) := hr6 2 _ rfl
   have l3 : wr.cell? ⟨ah,k * 6 + 3,none⟩ = some (.int .i64 x.thread) := hr6 3 _ rfl
   have l4 : wr.cell? ⟨ah,k * 6 + 4,none⟩ = some (.bool x.doomed) := hr6 4 _ rfl
   have l5 : wr.cell? ⟨ah,k * 6 + 5,none⟩ = some (.int .i64 x.who) := hr6 5 _ rfl
   have k0 : (0 : Int) ≤ (k : Int) := by omega
   have kl : (k : Int) < (H.length : Int) := by omega
   obtain ⟨kk,hkk⟩ : ∃ kk : Nat,kk = 2 * k := ⟨_,rfl⟩
   have m0 : IntKind.i64.wrap ((k : Int) * 2) = (kk : Int) := by rw [IntKind.wrap_i64]; omega
   have m1 : (0 : Int) ≤ (kk : Int) := by omega
   have m2 : (kk : Int) ≤ 2 * (H.length : Int) := by omega
   have m3 : ¬ cw = kk := by omega
   rw [← hkk] at hya hyb
   have HKK := Lib.hid hkk
   clear hkk
   clear hr6
   go_wp2_with fail
   have bS := Lib.hid (show Blk ((wr.alloc (.cells #[.int .i64 x.gen,.int .i64 x.state,.int .i64 x.stamp,.int .i64 x.thread,.bool x.doomed,.int .i64 x.who] 115)).alloc (.cells #[.int .i64 x.gen,.int .i64 x.state,.int .i64 x.stamp,.int .i64 x.thread,.bool x.doomed,.int .i64 x.who,.int .u64 0,.int .u64 0] 224)) (wr.heap.size + 1) 224 #[.int .i64 x.gen,.int .i64 x.state,.int .i64 x.stamp,.int .i64 x.thread,.bool x.doomed,.int .i64 x.who,.int .u64 0,.int .u64 0] from new_at _ _ _ (by simp))
   have KB := Lib.hid (show Keeps [] wr ((wr.alloc (.cells #[.int .i64 x.gen,.int .i64 x.state,.int .i64 x.stamp,.int .i64 x.thread,.bool x.doomed,.int .i64 x.who] 115)).alloc (.cells #[.int .i64 x.gen,.int .i64 x.state,.int .i64 x.stamp,.int .i64 x.thread,.bool x.doomed,.int .i64 x.who,.int .u64 0,.int .u64 0] 224)) from (Sq.r.alloc _).alloc _)
   generalize hwB : (wr.alloc (.cells #[.int .i64 x.gen,.int .i64 x.state,.int .i64 x.stamp,.int .i64 x.thread,.bool x.doomed,.int .i64 x.who] 115)).alloc (.cells #[.int .i64 x.gen,.int .i64 x.state,.int .i64 x.stamp,.int .i64 x.thread,.bool x.doomed,.int .i64 x.who,.int .u64 0,.int .u64 0] 224) = wB at *
   clear hwB l0 l1 l2 l3 l4 l5
   have hsrc : Hid (∀ (j : Nat) (v : Value),[Value.int .u64 ya,.int .u64 yb][j]? = some v → wB.drew.cell? ((⟨aw,kk,none⟩ : Addr).add j) = some v) := fun j v hv => by
    have hk2 := KW.out.trans KB.out (by simp)
    match j,hv with
    | 0,hv => simp at hv; subst hv; simpa [Addr.add] using keeps_cell0 hk2 (HWW2.out kk ya hya)
    | 1,hv => simp at hv; subst hv; simpa [Addr.add] using keeps_cell0 hk2 (HWW2.out (kk + 1) yb hyb)
    | j + 2,hv => simp at hv
   go_still_tail 6,(by kernel_rfl)
   change wpList _ _ _ _ _ wB.drew
   refine wpList_copy_own rfl (.tmp 27) (.tmp 31) 187 187 rfl 45 Tryz.underlying187 (by kernel_rfl) (wr.heap.size + 1) 6 2 2 ⟨aw,kk,none⟩ (2 * H.length - kk) (cw - kk) rfl rfl _ _ bS.out [.int .u64 ya,.int .u64 yb] (by show 2 = min (2 * H.length - kk) 2; have := HKK.out; omega) hsrc.out (by show 8 ≤ 8; omega) (by simp; exact ⟨rfl,rfl⟩) ?_
   have b5 : Blk (wB.drew.setRow (wr.heap.size + 1) #[.int .i64 x.gen,.int .i64 x.state,.int .i64 x.stamp,.int .i64 x.thread,.bool x.doomed,.int .i64 x.who,.int .u64 ya,.int .u64 yb]) (wr.heap.size + 1) 224 #[.int .i64 x.gen,.int .i64 x.state,.int .i64 x.stamp,.int .i64 x.thread,.bool x.doomed,.int .i64 x.who,.int .u64 ya,.int .u64 yb] := setRow_heap wB.drew _ _ _ _ _ bS.out
   have k5 : Keeps [] wr (wB.drew.setRow (wr.heap.size + 1) #[.int .i64 x.gen,.int .i64 x.state,.int .i64 x.stamp,.int .i64 x.thread,.bool x.doomed,.int .i64 x.who,.int .u64 ya,.int .u64 yb]) := KB.out.trans (T := [wr.heap.size + 1]) ⟨rfl,rfl,rfl,by simp [World.setRow],fun q _ hq => setRow_other wB.drew _ q _ (by simpa using hq)⟩ (fun q hq => .inr (by simp at hq; omega))
   show wpList _ _ _ _ _ (wB.drew.setRow (wr.heap.size + 1) #[.int .i64 x.gen,.int .i64 x.state,.int .i64 x.stamp,.int .i64 x.thread,.bool x.doomed,.int .i64 x.who,.int .u64 ya,.int .u64 yb])
   generalize hw5 : wB.drew.setRow (wr.heap.size + 1) #[.int .i64 x.gen,.int .i64 x.state,.int .i64 x.stamp,.int .i64 x.thread,.bool x.doomed,.int .i64 x.who,.int .u64 ya,.int .u64 yb] = w5 at *
   clear hw5
   have z0 : w5.cell? ⟨wr.heap.size + 1,0,none⟩ = some (.int .i64 x.gen) := (b5.cell 0).trans rfl
   have z1 : w5.cell? ⟨wr.heap.size + 1,1,none⟩ = some (.int .i64 x.state) := (b5.cell 1).trans rfl
   have z2 : w5.cell? ⟨wr.heap.size + 1,2,none⟩ = some (.int .i64 x.stamp) := (b5.cell 2).trans rfl
   have z3 : w5.cell? ⟨wr.heap.size + 1,3,none⟩ = some (.int .i64 x.thread) := (b5.cell 3).trans rfl
   have z4 : w5.cell? ⟨wr.heap.size + 1,4,none⟩ = some (.bool x.doomed) := (b5.cell 4).trans rfl
   have z5 : w5.cell? ⟨wr.heap.size + 1,5,none⟩ = some (.int .i64 x.who) := (b5.cell 5).trans rfl
   have z6 : w5.cell? ⟨wr.heap.size + 1,6,none⟩ = some (.int .u64 ya) := (b5.cell 6).trans rfl
   have z7 : w5.cell? ⟨wr.heap.size + 1,7,none⟩ = some (.int .u64 yb) := (b5.cell 7).trans rfl
   have K5 := Lib.hid k5
   have hln : ((slL H W).take k).length = k := by rw [List.length_take,slL_len H W hlen]; omega
   have hmx : Hid (((slL H W).take k).length + 1 ≤ maxLen) := by unfold Hid maxLen; omega
   have hby : Hid ((((slL H W).take k).length + 1) * 64 ≤ 140737488355328) := by unfold Hid; omega
   clear b5 k5 hln m0 m1 m2 m3
   go_wp2_with (at_builtin; refine wpList_append_row rfl (.tmp 33) (.tmp 35) 145 rfl 224 i0 _ 8 64 Tryz.underlying145 hi hz0 hz1 hz2 rfl (by decide) _ ((slL H W).take k).length (((slL H W).take k).flatMap Sl.cells) rfl ((HR.out.keeps (K5.out.alloc _)).own0 _ rfl) _ 1 ([(⟨x,ya,yb⟩ : Sl)].flatMap Sl.cells) rfl (slot_row _ ⟨x,ya,yb⟩ _ rfl) (sl_ones _) hmx.out hby.out ?_; intro v1 w6 hown1 hg1 hat1)
   have HN := Lib.hid (HR.out.snoc (m := [⟨x,ya,yb⟩]) (K5.out.alloc _) (by simp) hown1 hg1 hat1)
   clear hown1 hg1 hat1
   go_wp2_with fail
   go_roundw
   case rel => exact ⟨k + 1,by omega,by go_num,by rw [List.take_add_one,HSL.out]; exact HN.out⟩
   case measure => simp [intOf]; omega
  · have hge : ¬ ((k : Int) < (H.length : Int)) := by omega
    have ek : k = H.length := by omega
    subst ek
    rw [List.take_of_length_le (by rw [slL_len H W hlen]; exact Nat.le_refl _)] at HR
    go_wp2_with fail
    go_ret
    exact ⟨_,rfl,own_base HR.out.1 (fun q hq => Nat.le_trans K2.out.size (HR.out.1.lt q hq).1),K2.out.trans HR.out.2 (by simp)⟩
open Go.RowKit
theorem sig_eqF (f : Nat) (w : World) (a b c d : Int) : (Op.equalIn (f + 2) 47 (.agg #[.int .u64 a,.int .u64 b]) (.agg #[.int .u64 c,.int .u64 d])).run Tryz.prog w = .ok (a == c && b == d) w := by
 have hu : Tryz.prog.underlying 47 = some (.array 2 45) := by kernel_rfl
 have hp (x y : Value) : ∀ w,(part 45 #[x,y] 0).run Tryz.prog w = .ok x w := fun _ => by kernel_rfl
 have hq (x y : Value) : ∀ w,(part 45 #[x,y] 1).run Tryz.prog w = .ok y w := fun _ => by kernel_rfl
 have hs : ∀ w,(sizeOf 45).run Tryz.prog w = .ok 1 w := fun _ => by kernel_rfl
 have hi (x y : Int) : ∀ w,(Op.equalIn (f + 1) 45 (.int .u64 x) (.int .u64 y)).run Tryz.prog w = .ok (x == y) w := fun w => run_equalIn_int w f 45 .u64 .u64 x y (by kernel_rfl)
 unfold Op.equalIn
 simp only [Sem.run_bind,run_underlying hu,Result.andThen_ok,hs]
 simp
 have hr : List.range' 0 2 = [0,1] := by decide
 rw [hr]
 simp only [List.forIn_cons,List.forIn_nil,Sem.run_bind,hp,hi,Result.andThen_ok]
 cases h1 : (a == c) <;> cases h2 : (b == d) <;> simp [Sem.run_bind,hq,hi,h2]
theorem sig_same9 (w : World) (a b : Int) : (Op.equalIn 9999 47 (.agg #[.int .u64 a,.int .u64 b]) (.agg #[.int .u64 a,.int .u64 b])).run Tryz.prog w = .ok true w := by
 have h := sig_eqF 9997 w a b a b
 simpa using h
def Gens (k : Nat) (H : List Hd) : Prop := ∀ (j : Nat) (x : Hd),H[j]? = some x → 0 ≤ x.gen ∧ x.gen ≤ k
structure Moved (k s : Nat) (H H' : List Hd) : Prop where
 len : H'.length = H.length
 gens : Gens (k + 1) H'
 other : ∀ j,j ≠ s → H'[j]? = H[j]?
theorem sl_get (l : List Sl) (i : Nat) (y : Sl) (h : l[i]? = some y) (j : Nat) (u : Value) (hu : y.cells[j]? = some u) : (l.flatMap Sl.cells)[i * 8 + j]? = some u := by
 induction l generalizing i with
 | nil => simp at h
 | cons z l ih =>
   have hj : j < y.cells.length := (List.getElem?_eq_some_iff.1 hu).1
   have h8 : ∀ q : Sl,q.cells.length = 8 := fun q => rfl
   rw [List.flatMap_cons]
   cases i with
   | zero =>
     simp at h; subst h
     rw [Nat.zero_mul,Nat.zero_add,List.getElem?_append_left hj]
     exact hu
   | succ i =>
     have e : (i + 1) * 8 + j = z.cells.length + (i * 8 + j) := by rw [h8]; omega
     rw [e,List.getElem?_append_right (by omega),Nat.add_sub_cancel_left]
     exact ih i (by simpa using h)
section
variable {w0 w : World} {t : Tb} {H : List Hd} {W : List Int} {k s : Nat}
end
open Go.RowKit
structure Cf where
 cells : Int
 slots : Int
 bits : Int
 tag : Int
 bias : Int
 defer : Int
deriving DecidableEq
def Cf.vals (c : Cf) : Array Value := #[.int .i64 c.cells,.int .i64 c.slots,.int .i64 c.bits,.int .i64 c.tag,.int .i64 c.bias,.int .i64 c.defer]
def Cf.ok (c : Cf) : Prop := (1 ≤ c.cells ∧ c.cells ≤ 256) ∧ (1 ≤ c.slots ∧ c.slots ≤ 8) ∧ (1 ≤ c.bits ∧ c.bits ≤ 128) ∧ (1 ≤ c.tag ∧ c.tag ≤ 3) ∧ (0 ≤ c.bias ∧ c.bias ≤ 8) ∧ (0 ≤ c.defer ∧ c.defer ≤ 64)
instance (c : Cf) : Decidable c.ok := by unfold Cf.ok; infer_instance
structure Ev where
 kind : Int
 step : Int
 thread : Int
 stamp : Int
 cell : Int
 x : Int
 mine : Bool
 gate : Int
 e : Int
 who : Int
deriving DecidableEq
def Ev.cells (v : Ev) : List Value := [.int .i64 v.kind,.int .i64 v.step,.int .i64 v.thread,.int .i64 v.stamp,.int .i64 v.cell,.int .i64 v.x,.bool v.mine,.int .i64 v.gate,.int .i64 v.e,.int .i64 v.who]
def evCells (l : List Ev) : List Value := l.flatMap Ev.cells
structure Sp where
 c : Cf
 met : MS
 cells : List Int
 gate : Gt
 H : List Hd
 W : List Int
 ev : List Ev
def Sp.new (c : Cf) : Sp := ⟨c,MS.zero,List.replicate c.cells.toNat 0,Gt.zero,List.replicate c.slots.toNat Hd.zero,List.replicate (c.slots.toNat * 2) 0,[]⟩
def Sp.acc (S : Sp) (k p o : Int) (b : Bool) : Sp := { S with met := S.met.note k p o b }
def nth {α : Type} (l : List α) (i : Int) : Option α := if 0 ≤ i then l[i.toNat]? else none
def Sp.begin (S : Sp) (t : Int) : Sp := { S with met := S.met.begin t }
def Sp.store (S : Sp) (i x : Int) : Int × Sp :=
 match nth S.cells i with
 | some _ => (0,{ S.acc 1 i 2 true with cells := S.cells.set i.toNat x })
 | none => (2,S)
def Sp.take (S : Sp) (t : Int) : (Int × Int) × Sp :=
 if t < 1 ∨ 8 < t then ((0,1),S)
 else if S.gate.number % 2 = 0 then ((S.gate.number + 1,0),{ S.acc 2 0 3 true with gate := ⟨S.gate.number + 1,t⟩ })
 else ((0,5),S.acc 2 0 3 false)
def Sp.give (S : Sp) (t : Int) : Int × Sp :=
 if t < 1 ∨ 8 < t then (1,S)
 else if S.gate.owner = t then (0,{ S.acc 2 0 3 true with gate := ⟨S.gate.number + 1,0⟩ })
 else (4,S.acc 2 0 3 false)
def Sp.claim (S : Sp) (i t : Int) : (Int × Int) × Sp :=
 if t < 1 ∨ 8 < t then ((0,1),S)
 else match nth S.H i with
 | none => ((0,2),S)
 | some x => if x.state = 0 then ((x.gen + 1,0),{ S.acc 3 i 3 true with H := S.H.set i.toNat ⟨x.gen + 1,1,0,t,false,0⟩ }) else ((0,5),S.acc 3 i 3 false)
def Sp.ready (S : Sp) (i g st : Int) : Int × Sp :=
 if st < 1 then (1,S)
 else match nth S.H i with
 | none => (2,S)
 | some x => if x.state = 1 ∧ x.gen = g then (0,{ S.acc 3 i 3 true with H := S.H.set i.toNat ⟨x.gen,2,st,x.thread,x.doomed,x.who⟩ }) else (4,S.acc 3 i 3 false)
def Hd.doom (x : Hd) (b : Int) : Hd := if x.doomed then x else ⟨x.gen,x.state,x.stamp,x.thread,true,b⟩
def Sp.doom (S : Sp) (i g b : Int) : Int × Sp :=
 if b < 1 ∨ 8 < b then (1,S)
 else match nth S.H i with
 | none => (2,S)
 | some x => if x.state = 2 ∧ x.gen = g then (0,{ S.acc 3 i 3 true with H := S.H.set i.toNat (x.doom b) }) else (4,S.acc 3 i 3 false)
def Sp.free (S : Sp) (i g : Int) : Int × Sp :=
 match nth S.H i with
 | none => (2,S)
 | some x => if x.state ≠ 0 ∧ x.gen = g then (0,{ S.acc 3 i 3 true with H := S.H.set i.toNat ⟨x.gen,0,0,0,false,0⟩ }) else (4,S.acc 3 i 3 false)
def Sp.look (S : Sp) (i : Int) : (Hd × Int) × Sp :=
 match nth S.H i with
 | none => ((Hd.zero,2),S)
 | some x => ((x,0),S.acc 3 i 1 true)
def wnth (S : Sp) (i j : Int) : Option Int := if (0 ≤ i ∧ i < S.H.length) ∧ (0 ≤ j ∧ j < 2) then S.W[2 * i.toNat + j.toNat]? else none
def Sp.word (S : Sp) (i j : Int) : (Int × Int) × Sp :=
 match wnth S i j with
 | none => ((0,2),S)
 | some x => ((x,0),S.acc 4 (2 * i + j) 1 true)
def Sp.put (S : Sp) (i j x : Int) : Int × Sp :=
 match wnth S i j with
 | none => (2,S)
 | some _ => (0,{ S.acc 4 (2 * i + j) 2 true with W := S.W.set (2 * i.toNat + j.toNat) x })
def Ev.at_ (v : Ev) (n : Int) : Ev := { v with step := n }
def Sp.note (S : Sp) (v : Ev) : Sp := { S with ev := S.ev ++ [v.at_ S.met.steps] }
structure Fit (k : Nat) (S : Sp) : Prop where
 c : S.c.ok
 cells : S.cells.length = S.c.cells.toNat
 slots : S.H.length = S.c.slots.toNat
 words : S.W.length = 2 * S.H.length
 gens : Gens k S.H
 log : S.met.log.length ≤ k
 g0 : 0 ≤ S.gate.number
 g1 : S.gate.number ≤ k
 even : S.gate.number % 2 = 0 → S.gate.owner = 0
 odd : S.gate.number % 2 = 1 → 1 ≤ S.gate.owner
 ev : S.ev.length ≤ k
section
variable {k : Nat} {S : Sp}
theorem nth_len {α : Type} {l : List α} {i : Int} {x : α} (h : nth l i = some x) : 0 ≤ i ∧ i < l.length ∧ l[i.toNat]? = some x := by
 unfold nth at h
 split at h
 · rename_i h0
   have := (List.getElem?_eq_some_iff.1 h).1
   exact ⟨h0,by omega,h⟩
 · cases h
theorem nth_none {α : Type} {l : List α} {i : Int} (h : nth l i = none) : i < 0 ∨ (l.length : Int) ≤ i := by
 unfold nth at h
 split at h
 · rw [List.getElem?_eq_none_iff] at h; omega
 · omega
theorem wnth_some {i j x : Int} (h : wnth S i j = some x) : (0 ≤ i ∧ i < S.H.length) ∧ (0 ≤ j ∧ j < 2) ∧ S.W[2 * i.toNat + j.toNat]? = some x := by
 unfold wnth at h
 split at h
 · rename_i h0; exact ⟨h0.1,h0.2,h⟩
 · cases h
theorem wnth_none {i j : Int} (hw : S.W.length = 2 * S.H.length) (h : wnth S i j = none) : i < 0 ∨ (S.H.length : Int) ≤ i ∨ j < 0 ∨ 2 ≤ j := by
 unfold wnth at h
 split at h
 · rename_i h0
   rw [List.getElem?_eq_none_iff] at h
   omega
 · omega
theorem Gens.wide {k j : Nat} {H : List Hd} (h : Gens k H) (hj : k ≤ j) : Gens j H := fun i x hx => by have := h i x hx; omega
theorem Gens.set {k : Nat} {H : List Hd} (h : Gens k H) (i : Nat) (y : Hd) (h0 : 0 ≤ y.gen) (h1 : y.gen ≤ k) : Gens k (H.set i y) := fun j x hx => by
 rw [List.getElem?_set] at hx
 split at hx
 · split at hx
   · injection hx with hx; subst hx; exact ⟨h0,h1⟩
   · cases hx
 · exact h j x hx
theorem Fit.wide (h : Fit k S) {j : Nat} (hj : k ≤ j) : Fit j S :=
 ⟨h.c,h.cells,h.slots,h.words,h.gens.wide hj,by have := h.log; omega,h.g0,by have := h.g1; omega,h.even,h.odd,by have := h.ev; omega⟩
theorem Fit.new {c : Cf} (h : c.ok) : Fit 0 (Sp.new c) := by
 refine ⟨h,by simp [Sp.new],by simp [Sp.new],by simp [Sp.new]; omega,fun j x hx => ?_,by simp [Sp.new,MS.zero],by simp [Sp.new,Gt.zero],by simp [Sp.new,Gt.zero],fun _ => rfl,fun h => by simp [Sp.new,Gt.zero] at h,by simp [Sp.new]⟩
 simp only [Sp.new,List.getElem?_replicate] at hx
 split at hx
 · injection hx with hx; subst hx; exact ⟨by decide,by decide⟩
 · cases hx
theorem Fit.acc (h : Fit k S) (a p o : Int) (b : Bool) : Fit (k + 1) (S.acc a p o b) :=
 ⟨h.c,h.cells,h.slots,h.words,h.gens.wide (Nat.le_succ k),by have := h.log; simp [Sp.acc,MS.note]; omega,h.g0,by have := h.g1; show S.gate.number ≤ _; omega,h.even,h.odd,by have := h.ev; show S.ev.length ≤ _; omega⟩
theorem Fit.succ (h : Fit k S) : Fit (k + 1) S := h.wide (Nat.le_succ k)
theorem Fit.begin (h : Fit k S) (t : Int) : Fit k (S.begin t) := ⟨h.c,h.cells,h.slots,h.words,h.gens,h.log,h.g0,h.g1,h.even,h.odd,h.ev⟩
theorem Fit.store (h : Fit k S) (i x : Int) : Fit (k + 1) (S.store i x).2 := by
 unfold Sp.store
 split
 · have h' := h.acc 1 i 2 true
   exact ⟨h'.c,by rw [← h'.cells]; simp [Sp.acc],h'.slots,h'.words,h'.gens,h'.log,h'.g0,h'.g1,h'.even,h'.odd,h'.ev⟩
 · exact h.succ
theorem Fit.take (h : Fit k S) (t : Int) : Fit (k + 1) (S.take t).2 := by
 unfold Sp.take
 split
 · exact h.succ
 ·
  rename_i ht
  split
  · rename_i h2
    have h' := h.acc 2 0 3 true
    refine ⟨h'.c,h'.cells,h'.slots,h'.words,h'.gens,h'.log,?_,?_,?_,?_,h'.ev⟩
    · have := h.g0; show 0 ≤ S.gate.number + 1; omega
    · have := h.g1; show S.gate.number + 1 ≤ _; omega
    · intro (h3 : (S.gate.number + 1) % 2 = 0); omega
    · intro _; show 1 ≤ t; omega
  · exact h.acc _ _ _ _
theorem Fit.give (h : Fit k S) (t : Int) : Fit (k + 1) (S.give t).2 := by
 unfold Sp.give
 split
 · exact h.succ
 ·
  rename_i ht
  split
  ·
   rename_i h2
   have h' := h.acc 2 0 3 true
   have he := h.even
   refine ⟨h'.c,h'.cells,h'.slots,h'.words,h'.gens,h'.log,?_,?_,?_,?_,h'.ev⟩
   · have := h.g0; show 0 ≤ S.gate.number + 1; omega
   · have := h.g1; show S.gate.number + 1 ≤ _; omega
   · intro _; rfl
   · intro (h3 : (S.gate.number + 1) % 2 = 1)
     have := he (by omega)
     omega
  · exact h.acc _ _ _ _
theorem Fit.headed (h : Fit k S) {i : Nat} {x y : Hd} (hx : S.H[i]? = some x) (h0 : 0 ≤ y.gen) (h1 : y.gen ≤ x.gen + 1) (a p o : Int) (b : Bool) : Fit (k + 1) { S.acc a p o b with H := S.H.set i y } := by
 have h' := h.acc a p o b
 have hg := h.gens i x hx
 exact ⟨h'.c,h'.cells,by rw [← h'.slots]; simp [Sp.acc],by simpa [Sp.acc] using h.words,h'.gens.set i y h0 (by omega),h'.log,h'.g0,h'.g1,h'.even,h'.odd,h'.ev⟩
theorem Fit.claim (h : Fit k S) (i t : Int) : Fit (k + 1) (S.claim i t).2 := by
 unfold Sp.claim
 split
 · exact h.succ
 ·
  split
  · exact h.succ
  · rename_i x hx
    have hn := (nth_len hx).2.2
    have hg := h.gens _ _ hn
    split
    · exact h.headed hn (by simp; omega) (by simp; try omega) _ _ _ _
    · exact h.acc _ _ _ _
theorem Fit.ready (h : Fit k S) (i g st : Int) : Fit (k + 1) (S.ready i g st).2 := by
 unfold Sp.ready
 split
 · exact h.succ
 ·
  split
  · exact h.succ
  · rename_i x hx
    have hn := (nth_len hx).2.2
    have hg := h.gens _ _ hn
    split
    · exact h.headed hn (by simp; omega) (by simp; try omega) _ _ _ _
    · exact h.acc _ _ _ _
theorem Hd.doom_gen (x : Hd) (b : Int) : (x.doom b).gen = x.gen := by unfold Hd.doom; split <;> rfl
theorem Fit.doom (h : Fit k S) (i g b : Int) : Fit (k + 1) (S.doom i g b).2 := by
 unfold Sp.doom
 split
 · exact h.succ
 ·
  split
  · exact h.succ
  · rename_i x hx
    have hn := (nth_len hx).2.2
    have hg := h.gens _ _ hn
    split
    · exact h.headed hn (by rw [Hd.doom_gen]; omega) (by rw [Hd.doom_gen]; omega) _ _ _ _
    · exact h.acc _ _ _ _
theorem Fit.free (h : Fit k S) (i g : Int) : Fit (k + 1) (S.free i g).2 := by
 unfold Sp.free
 split
 · exact h.succ
 · rename_i x hx
   have hn := (nth_len hx).2.2
   have hg := h.gens _ _ hn
   split
   · exact h.headed hn (by simp; omega) (by simp; try omega) _ _ _ _
   · exact h.acc _ _ _ _
theorem Fit.look (h : Fit k S) (i : Int) : Fit (k + 1) (S.look i).2 := by
 unfold Sp.look
 split
 · exact h.succ
 · exact h.acc _ _ _ _
theorem Fit.word (h : Fit k S) (i j : Int) : Fit (k + 1) (S.word i j).2 := by
 unfold Sp.word
 split
 · exact h.succ
 · exact h.acc _ _ _ _
theorem Fit.put (h : Fit k S) (i j x : Int) : Fit (k + 1) (S.put i j x).2 := by
 unfold Sp.put
 split
 · exact h.succ
 · have h' := h.acc 4 (2 * i + j) 2 true
   exact ⟨h'.c,h'.cells,h'.slots,by have := h'.words; simp [Sp.acc] at this ⊢; exact this,h'.gens,h'.log,h'.g0,h'.g1,h'.even,h'.odd,h'.ev⟩
end
end Go.Proofs.YtmlnedilbneekaaGreat