/- Layer 12: met; a step of a look. -/
import Derived.Test.YtmlnedilbneekaaGreatRegT
import Derived.Deep.QuietTactic
import Derived.BigQuiet
import Derived.Deep.RegionHeld3
import Derived.Test.YtmlnedilbneekaaGreatSigTouched
import Derived.Test.YtmlnedilbneekaaGreatMake
set_option linter.unusedVariables false
set_option linter.unusedSimpArgs false
namespace Go.Proofs.YtmlnedilbneekaaGreat
open Go.RowKit
section
variable {w0 w w' w'' : World} {z : Sb} {F G : List Nat} {S S' : Sp} {k b : Nat} {x x' : Lk} {tv wv vv : Value}
theorem lk_done (h : LkAt w z b tv wv vv x) : Calls Tryz.prog 31 #[PT b] w fun e w' => e = .returned (.bool x.turns.isEmpty) ∧ w = w' := by
 have c4 : w.cell? ⟨b,4,none⟩ = some tv := (Blk.cell h.blk 4).trans rfl
 obtain ⟨_,A,c,rfl,_⟩ := h.turns
 clear h
 cases ht : x.turns with
 | nil =>
   rw [ht] at c4
   simp only [List.length_nil] at c4
   clear ht
   go_enter Tryz.func31,Tryz.ntmps31
   go_wp2
   go_ret
   exact ⟨rfl,rfl⟩
 | cons t l =>
   rw [ht] at c4
   simp only [List.length_cons] at c4
   have h4 : (((l.length + 1 : Nat) : Int) == 0) = false := by simp; omega
   clear ht
   generalize l.length + 1 = m at c4 h4
   go_enter Tryz.func31,Tryz.ntmps31
   go_wp2
   go_ret
   exact ⟨rfl,rfl⟩
theorem lk_turned (h : LkAt w z b tv wv vv x) (tv' : Value) (hs : SlR w 3 1 tv' x.turn.turns.length (x.turn.turns.map (Value.int .i64))) (hv : ∀ q,q ∈ vblk tv' → q ∈ vblk tv) :
 ∃ tv'',LkAt (((w.setCell ⟨b,4,none⟩ tv').setCell ⟨b,11,none⟩ (.slice none 0 0)).setCell ⟨b,12,none⟩ (.bool false)) z b tv'' (.slice none 0 0) vv x.turn ∧ Keeps [b] w (((w.setCell ⟨b,4,none⟩ tv').setCell ⟨b,11,none⟩ (.slice none 0 0)).setCell ⟨b,12,none⟩ (.bool false)) ∧ (∀ q,q ∈ vblk tv'' → q ∈ vblk tv) := by
 have hk : Keeps [b] w (((w.setCell ⟨b,4,none⟩ tv').setCell ⟨b,11,none⟩ (.slice none 0 0)).setCell ⟨b,12,none⟩ (.bool false)) := (((Keeps.refl [b] w).setCell (.inl (by simp)) _).setCell (.inl (by simp)) _).setCell (.inl (by simp)) _
 refine ⟨tv',⟨?_,hs.keeps hk ?_,World.ownsRow_nil _ _ _ _,own_keeps h.vs hk ?_⟩,hk,hv⟩
 · have := ((h.blk.set_ 4 tv').set_ 11 (.slice none 0 0)).set_ 12 (.bool false)
   simpa [Lk.turn] using this
 ·
  intro q hq hx
  simp at hx
  subst hx
  have h1 := hs.ty q hq
  rw [h.blk.tyOf] at h1
  revert h1
  decide
 · intro q hq hx
   simp at hx
   subst hx
   exact own_blk_ne h.vs h.blk (by decide) hq
theorem lk_turn (h : LkAt w z b tv wv vv x) (hne : x.turns ≠ []) : Calls Tryz.prog 107 #[PT b] w fun e w' => e = .returned (.tuple #[]) ∧ ∃ tv',LkAt w' z b tv' (.slice none 0 0) vv x.turn ∧ Keeps [b] w w' ∧ (∀ q,q ∈ vblk tv' → q ∈ vblk tv) := by
 have c4 : w.cell? ⟨b,4,none⟩ = some tv := (Blk.cell h.blk 4).trans rfl
 have f4 := h.blk.frozen 4
 have f11 := h.blk.frozen 11
 have f12 := h.blk.frozen 12
 have c11 : w.cell? ⟨b,11,none⟩ = some wv := (Blk.cell h.blk 11).trans rfl
 have c12 : w.cell? ⟨b,12,none⟩ = some (.bool x.looked) := (Blk.cell h.blk 12).trans rfl
 obtain ⟨n,hn⟩ : ∃ n,x.turns.length = n + 1 := ⟨x.turns.length - 1,by have := List.length_pos_iff.2 hne; omega⟩
 have hs := h.turns
 rw [hn] at hs
 obtain ⟨g,off,c,rfl,hc,hm,_⟩ := hs.spot
 obtain ⟨hc1,hc2⟩ := hs.cut1
 have HC := Lib.hid (And.intro hc1 hc2)
 have hnc : (1 : Int) ≤ (n + 1 : Nat) := by omega
 have hnc2 : ((n + 1 : Nat) : Int) ≤ (c : Int) := by omega
 have HB := Lib.hid h
 have HN := Lib.hid hn
 have hd : (x.turns.map (Value.int .i64)).drop 1 = x.turn.turns.map (Value.int .i64) := by show _ = x.turns.tail.map _; rw [List.map_tail,List.drop_one]
 have hl : n = x.turn.turns.length := by show n = x.turns.tail.length; rw [List.length_tail,hn]; rfl
 have HD := Lib.hid (And.intro hd hl)
 clear h hn hne hc1 hc2 hs hd hl
 go_enter Tryz.func107,Tryz.ntmps107
 go_wp2
 all_goals
  go_end0
  first
   | (have e : c = 1 := by assumption
      subst e
      exact ⟨rfl,lk_turned HB.out _ (HD.out.1 ▸ HD.out.2 ▸ HC.out.1 rfl) (fun q hq => by simpa [vblk,Value.ownBlock] using hq)⟩)
   | exact ⟨rfl,lk_turned HB.out _ (HD.out.1 ▸ HD.out.2 ▸ HC.out.2 (by assumption)) (fun q hq => by simpa [vblk,Value.ownBlock] using hq)⟩
end
open Go.RowKit
theorem vc_one (l : List Vc) : ∀ u ∈ vcCells l,u.oneCell' = true := by
 intro u hu
 simp only [vcCells,List.mem_flatMap] at hu
 obtain ⟨x,_,hx⟩ := hu
 simp only [Vc.cells,List.mem_cons,List.not_mem_nil,or_false] at hx
 rcases hx with rfl | rfl | rfl | rfl <;> rfl
section
variable {w0 w w' w'' : World} {z : Sb} {F G : List Nat} {S S' : Sp} {k b : Nat} {x x' : Lk} {y : Dm} {tv wv vv lv dv : Value}
theorem lk_victims (h : LkAt w z b tv wv vv x) (hl : x.victims.length ≤ 1099511627776) : Calls Tryz.prog 33 #[PT b] w fun e w' => ∃ v,e = .returned v ∧ NewRow 113 4 x.victims.length (vcCells x.victims) [] w w' v := by
 have c7 : w.cell? ⟨b,13,none⟩ = some vv := (Blk.cell h.blk 13).trans rfl
 have hplt := h.blk.lt
 have hpne : b ≠ w.heap.size := by omega
 have HO := Lib.hid h.vs
 have hmx : Hid (0 + x.victims.length ≤ maxLen) := by unfold Hid maxLen; omega
 have hby : Hid ((0 + x.victims.length) * 32 ≤ 140737488355328) := by unfold Hid; omega
 clear h hl
 obtain ⟨i0,hi,hz0,hz1,hz2⟩ := info_parts Tryz.infoVc
 go_enter Tryz.func33,Tryz.ntmps33
 go_wp2_with (at_builtin; refine wpList_append_row rfl (.tmp 3) (.tmp 7) 48 rfl 113 i0 _ 4 32 Tryz.underlying48 hi hz0 hz1 hz2 rfl (by decide) (.slice (some ⟨w.heap.size,0,none⟩) 0 0) 0 [] rfl (World.ownsRow_made _ _ _ (Nat.zero_le _) (by decide) rfl) vv x.victims.length (vcCells x.victims) rfl (own_keeps HO.out ((Keeps.refl [] _).alloc _) (by simp)) (vc_one _) hmx.out hby.out ?_; intro v1 w1 hown1 hg1 hat1)
 go_ret
 refine ⟨v1,rfl,own_base (by simpa using hown1) ?_,Sq.r.alloc _ |>.grown hg1 ?_⟩
 · intro k hk
   rcases hat1 with e | e <;> rw [e] at hk <;> simp [Value.ownBlock] at hk <;> omega
 · simp [Value.ownBlock]
theorem dm_done (h : DmAt w z b lv dv y) : Calls Tryz.prog 37 #[PT b] w fun e w' => e = .returned (.bool y.left.isEmpty) ∧ w = w' := by
 have c4 : w.cell? ⟨b,2,none⟩ = some lv := (Blk.cell h.blk 2).trans rfl
 obtain ⟨_,A,c,rfl,_⟩ := h.left
 clear h
 cases ht : y.left with
 | nil =>
   rw [ht] at c4
   simp only [List.length_nil] at c4
   clear ht
   go_enter Tryz.func37,Tryz.ntmps37
   go_wp2
   go_ret
   exact ⟨rfl,rfl⟩
 | cons t l =>
   rw [ht] at c4
   simp only [List.length_cons] at c4
   have h4 : (((l.length + 1 : Nat) : Int) == 0) = false := by simp; omega
   clear ht
   generalize l.length + 1 = m at c4 h4
   go_enter Tryz.func37,Tryz.ntmps37
   go_wp2
   go_ret
   exact ⟨rfl,rfl⟩
end
open Go.RowKit
def Newing (w : World) (z : Sb) (b : Nat) (slot : Int) (s : Sg) (j : Nat) (wr : World) : Prop := ∃ tv,
 Blk wr b 189 #[PT z.p,.int .i64 slot,.int .u64 (s.a : Int),.int .u64 (s.b : Int),tv,.int .i64 0,.int .i64 0,.int .i64 0,.int .i64 0,.bool false,.int .i64 0,.slice none 0 0,.bool false,.slice none 0 0] ∧
 wr.ownsRow w.heap.size 3 1 tv (turnsTo slot j).length ((turnsTo slot j).map (Value.int .i64)) ∧ w.heap.size ≤ b ∧ Keeps [] w wr
theorem Newing.grow {w wr w1 : World} {z : Sb} {b : Nat} {slot : Int} {s : Sg} {j : Nat} {tv v1 : Value} {o : Obj} (hb : Blk wr b 189 #[PT z.p,.int .i64 slot,.int .u64 (s.a : Int),.int .u64 (s.b : Int),tv,.int .i64 0,.int .i64 0,.int .i64 0,.int .i64 0,.bool false,.int .i64 0,.slice none 0 0,.bool false,.slice none 0 0])
 (ho : wr.ownsRow w.heap.size 3 1 tv (turnsTo slot j).length ((turnsTo slot j).map (Value.int .i64))) (hlb : w.heap.size ≤ b) (hk : Keeps [] w wr) (hj : (j : Int) ≠ slot)
 (hown : w1.ownsRow 0 3 1 v1 ((turnsTo slot j).length + 1) ((turnsTo slot j).map (Value.int .i64) ++ [.int .i64 j])) (hg : (wr.alloc o).grownBy w1 tv.ownBlock) (hat : v1.ownBlock = tv.ownBlock ∨ v1.ownBlock = some (wr.alloc o).heap.size) :
 Newing w z b slot s (j + 1) (w1.setCell ⟨b,4,none⟩ v1) := by
 have hbne : tv.ownBlock ≠ some b := own_blk_ne ho hb (by decide)
 have hb1 : Blk w1 b 189 #[PT z.p,.int .i64 slot,.int .u64 (s.a : Int),.int .u64 (s.b : Int),tv,.int .i64 0,.int .i64 0,.int .i64 0,.int .i64 0,.bool false,.int .i64 0,.slice none 0 0,.bool false,.slice none 0 0] := (hb.alloc o).grown hg (Ne.symm hbne)
 have hk1 : Keeps [] w w1 := (hk.alloc o).grown hg (fun k hk' => .inr (ho.lt k hk').1)
 have e : turnsTo slot (j + 1) = turnsTo slot j ++ [(j : Int)] := by simp [turnsTo,hj]
 refine ⟨v1,?_,?_,hlb,hk1.setCell (.inr hlb) _⟩
 · have := hb1.set_ 4 v1
   simpa using this
 ·
  rw [e]
  have h2 := own_keeps hown (S := [b]) ((Keeps.refl [b] w1).setCell (p := ⟨b,4,none⟩) (.inl (by simp)) v1) (fun q hq => by
   simp
   intro e2
   subst e2
   exact own_blk_ne hown hb1 (by decide) hq)
  have h3 := own_base (base' := w.heap.size) h2 (fun q hq => by
   rcases hat with h4 | h4
   · exact (ho.lt q (h4 ▸ hq)).1
   · rw [h4] at hq; injection hq with hq; subst hq; have := hk.size; simp; omega)
  simpa using h3
section
variable {w0 w w' w'' : World} {z : Sb} {F G : List Nat} {S S' : Sp} {k b : Nat} {x x' : Lk} {y : Dm} {tv wv vv lv dv : Value}
theorem Newing.lk {n : Nat} {slot : Int} {s : Sg} (h : Newing w z b slot s n w') (hs : SP w0 w z F S) : ∃ G,LK w0 w' z F b G (Lk.new n slot s) ∧ (∀ q,q ∈ G → w.heap.size ≤ q) := by
 obtain ⟨tv,hb,ho,hlb,hk⟩ := h
 have hG : ∀ q,q ∈ footL b tv (.slice none 0 0) (.slice none 0 0) → w.heap.size ≤ q := fun q hq => by
  simp [footL,vblk,Value.ownBlock] at hq
  rcases hq with rfl | hq
  · exact hlb
  · exact (ho.lt q hq).1
 exact ⟨_,⟨⟨tv,_,_,⟨hb,SlR.of_own ho,World.ownsRow_nil _ _ _ _,World.ownsRow_nil _ _ _ _⟩,rfl⟩,fun q hq => Nat.le_trans hs.keep.size (hG q hq),fun q hq => hs.fresh (hG q hq)⟩,hG⟩
set_option maxRecDepth 100000 in
set_option maxHeartbeats 8000000 in
theorem lk_new (h : SP w0 w z F S) (hf : Fit k S) (s : Sg) (slot : Int) (s0 : 0 ≤ slot) (s1 : slot < S.H.length) : Calls Tryz.prog 30 #[PT z.p,.int .i64 slot,s.val] w fun e w' => ∃ b G,e = .returned (.tuple #[PT b,.int .i64 0]) ∧ LK w0 w' z F b G (Lk.new S.H.length slot s) ∧ (∀ q,q ∈ G → w.heap.size ≤ q) ∧ Keeps [] w w' := by
 have h8 : S.H.length ≤ 8 := by have h1 := hf.slots; have h2 := hf.c.2.1.2; omega
 obtain ⟨n,hn⟩ : ∃ n,S.H.length = n := ⟨_,rfl⟩
 have hb0 := Blk.new w 47 #[.int .u64 (s.a : Int),.int .u64 (s.b : Int)]
 have hk0 : Keeps [] w (w.alloc (.cells #[.int .u64 (s.a : Int),.int .u64 (s.b : Int)] 47)) := by simp
 have h0 := h.calm hk0
 have QS := Lib.hid (fun w' (hk : Keeps [] (w.alloc (.cells #[.int .u64 (s.a : Int),.int .u64 (s.b : Int)] 47)) w') => slots_held h0 hk)
 have QL := Lib.hid (fun w' (hk : Keeps [] (w.alloc (.cells #[.int .u64 (s.a : Int),.int .u64 (s.b : Int)] 47)) w') => len_heldS h0 hk)
 rw [hn] at s1 h8 QL ⊢
 have HH := Lib.hid h
 have HB := Lib.hid hb0
 have HK := Lib.hid hk0
 clear hb0 hk0 h0
 obtain ⟨i0,hi,hz0,hz1,hz2⟩ := info_parts Tryz.infoInt
 clear h hf hn
 unfold Sg.val
 go_enter Tryz.func30,Tryz.ntmps30
 go_wp2_with fail
 refine (QS.out _ (by simp)).mono ?_
 rintro e w1 ⟨rfl,hk1⟩
 go_wp2_with fail
 refine (QL.out _ hk1).mono ?_
 rintro e w2 ⟨rfl,hk2⟩
 replace HB := Lib.hid (HB.out.keeps hk2 (by simp))
 replace HK := Lib.hid (HK.out.trans hk2 (by simp))
 obtain ⟨q0,hq0⟩ : ∃ q,w.heap.size = q := ⟨_,rfl⟩
 have HQ := Lib.hid hq0
 rw [hq0] at HB ⊢
 have d0 : w2.cell? ⟨q0,0,none⟩ = some (.int .u64 (s.a : Int)) := (HB.out.cell 0).trans rfl
 have d1 : w2.cell? ⟨q0,1,none⟩ = some (.int .u64 (s.b : Int)) := (HB.out.cell 1).trans rfl
 clear QS QL hk1 hk2 hq0
 have n1 : decide (slot < 0) = false := by simp; omega
 have n2 : decide (slot ≥ (n : Int)) = false := by simp; omega
 have hst : Hid (Newing w z w2.heap.size slot s 0 (w2.alloc (.cells #[PT z.p,.int .i64 slot,.int .u64 (s.a : Int),.int .u64 (s.b : Int),.slice none 0 0,.int .i64 0,.int .i64 0,.int .i64 0,.int .i64 0,.bool false,.int .i64 0,.slice none 0 0,.bool false,.slice none 0 0] 189))) := ⟨_,Blk.new _ _ _,World.ownsRow_nil _ _ _ _,HK.out.size,HK.out.alloc _⟩
 obtain ⟨b,hb⟩ : ∃ q,w2.heap.size = q := ⟨_,rfl⟩
 rw [hb] at hst
 have HBB := Lib.hid hb
 clear hb
 go_wp2_with fail
 rw [HBB.out]
 go_loopw [27] (fun i wr => ∃ j : Nat,j ≤ n ∧ i = .int .i64 j ∧ Newing w z b slot s j wr) (fun i _ => n - (intOf i).toNat)
 case atStart => exact ⟨0,Nat.zero_le _,rfl,hst.out⟩
 case round =>
  obtain ⟨j,hj,rfl,hr⟩ := hrel
  clear hst d0 d1 n1 n2
  by_cases hlt : (j : Int) < (n : Int)
  ·
   have q0 : (0 : Int) ≤ (j : Int) := by omega
   by_cases hjs : (j : Int) = slot
   · have e1 : ((j : Int) != slot) = false := by simp [hjs]
     have e2 : turnsTo slot (j + 1) = turnsTo slot j := by simp [turnsTo,hjs]
     have HR := Lib.hid hr
     have HE := Lib.hid e2
     clear hr e2 hjs
     go_wp2_with fail
     exact ⟨⟨j + 1,by omega,by simp,by obtain ⟨tv,g1,g2,g3⟩ := HR.out; exact ⟨tv,g1,by rw [HE.out]; exact g2,g3⟩⟩,by simp [intOf]; omega⟩
   ·
    have e1 : ((j : Int) != slot) = true := by simp [hjs]
    obtain ⟨tv,hb,ho,hlb,hk⟩ := hr
    have c4 : wr.cell? ⟨b,4,none⟩ = some tv := (hb.cell 4).trans rfl
    have f4 := hb.frozen 4
    have hbl := hb.lt
    have hne : b ≠ wr.heap.size := by omega
    have hbne : tv.ownBlock ≠ some b := own_blk_ne ho hb (by decide)
    have hl := turnsTo_len slot j
    have hmx : Hid ((turnsTo slot j).length + 1 ≤ maxLen) := by unfold Hid maxLen; omega
    have hby : Hid (((turnsTo slot j).length + 1) * 8 ≤ 140737488355328) := by unfold Hid; omega
    have HO := Lib.hid ho
    have HB1 := Lib.hid hb
    have HB2 := Lib.hid hbne
    have HK2 := Lib.hid (And.intro hlb hk)
    have HJ := Lib.hid hjs
    clear hb ho hlb hk hl hbne hjs
    go_wp2_with (at_builtin; refine wpList_append_row rfl (.tmp 37) (.tmp 39) 186 rfl 3 i0 _ 1 8 Tryz.underlying186 hi hz0 hz1 hz2 rfl (by decide) tv (turnsTo slot j).length _ rfl (own_base (own_keeps HO.out ((Keeps.refl [] _).alloc _) (by simp)) (fun k _ => Nat.zero_le k)) _ 1 [.int .i64 j] rfl (made_row _ _ _ _ rfl) (by simp [Value.oneCell']) hmx.out hby.out ?_; intro v1 w1 hown1 hg1 hat1; obtain ⟨g1,cc,rfl,_,_⟩ := hown1.form (Nat.succ_pos _); have hb1 := (HB1.out.alloc _).grown hg1 (Ne.symm HB2.out); have c41 : w1.cell? ⟨b,4,none⟩ = some tv := (hb1.cell 4).trans rfl; have f41 := hb1.frozen 4; clear hb1)
    exact ⟨⟨j + 1,by omega,by simp,Newing.grow HB1.out HO.out HK2.out.1 HK2.out.2 HJ.out hown1 hg1 hat1⟩,by simp [intOf]; omega⟩
  ·
   obtain rfl : j = n := by omega
   have HR := Lib.hid hr
   clear hr
   go_wp2_with fail
   go_ret2
   obtain ⟨G,g1,g2⟩ := HR.out.lk HH.out
   obtain ⟨_,_,_,_,hk⟩ := HR.out
   exact ⟨b,rfl,G,g1,g2,hk⟩
end
open Go.RowKit
section
variable {w0 w w' w'' : World} {z : Sb} {F G : List Nat} {S S' : Sp} {k b : Nat} {x x' : Lk} {y : Dm} {tv wv vv lv dv : Value}
set_option maxHeartbeats 4000000 in
theorem lk_met (h : LkAt w z b tv wv vv x) (m0 m1 : Nat) (hw : x.words = [(m0 : Int),(m1 : Int)]) (h0 : m0 < 18446744073709551616) (h1 : m1 < 18446744073709551616) (hs : x.writes.ok) :
 Calls Tryz.prog 109 #[PT b] w fun e w' => e = .returned (.bool x.met) ∧ Keeps [] w w' := by
 have ho := h.words
 rw [hw] at ho
 replace ho : w.ownsRow 0 45 1 wv 2 [.int .u64 (m0 : Int),.int .u64 (m1 : Int)] := ho
 obtain ⟨g,cc,rfl,_,_⟩ := ho.form (by decide)
 have HM := Lib.hid (fun w => (show Calls Tryz.prog 145 #[.agg #[.int .u64 (m0 : Int),.int .u64 (m1 : Int)],.agg #[.int .u64 (x.writes.a : Int),.int .u64 (x.writes.b : Int)]] w fun e w' => e = .returned (.bool (!((Sg.mk m0 m1).meet x.writes).none)) ∧ Keeps [] w w' from meets_any w ⟨m0,m1⟩ x.writes ⟨h0,h1⟩ hs))
 have e1 : x.met = !((Sg.mk m0 m1).meet x.writes).none := by simp [Lk.met,sgOf,hw]
 have hg0 : w.cell? ⟨g,0,none⟩ = some (.int .u64 (m0 : Int)) := (ho.cellAt 0 (by simp)).trans rfl
 have hg1 : w.cell? ⟨g,1,none⟩ = some (.int .u64 (m1 : Int)) := (ho.cellAt 1 (by simp)).trans rfl
 have hgl := (ho.lt g rfl).2
 have hbl := h.blk.lt
 rw [e1]
 obtain ⟨r,hr⟩ : ∃ r,(!((Sg.mk m0 m1).meet x.writes).none) = r := ⟨_,rfl⟩
 rw [hr] at HM ⊢
 have HC := Lib.hid (show ∀ w',Keeps [] w w' → w'.cell? ⟨b,11,none⟩ = some (.slice (some ⟨g,0,none⟩) 2 cc) ∧ w'.cell? ⟨b,2,none⟩ = some (.int .u64 (x.writes.a : Int)) ∧ w'.cell? ⟨b,3,none⟩ = some (.int .u64 (x.writes.b : Int)) ∧ w'.cell? ⟨g,0,none⟩ = some (.int .u64 (m0 : Int)) ∧ w'.cell? ⟨g,1,none⟩ = some (.int .u64 (m1 : Int)) from fun w' hk => by
  have hb := h.blk.keeps hk (by simp)
  refine ⟨(hb.cell 11).trans rfl,(hb.cell 2).trans rfl,(hb.cell 3).trans rfl,(keeps_cell hk hgl (by simp)).trans hg0,(keeps_cell hk hgl (by simp)).trans hg1⟩)
 clear h ho e1 hg0 hg1 hr hw hs h0 h1
 obtain ⟨c11,c2,c3,g0,g1⟩ := HC.out w Sq.r
 go_enter Tryz.func109,Tryz.ntmps109
 go_wp2_with fail
 clear c11 c2 c3 g0 g1
 go_loopw [5] (fun i wr => ∃ a b0 : Int,((i = .int .i64 0 ∧ a = 0 ∧ b0 = 0) ∨ (i = .int .i64 1 ∧ a = m0 ∧ b0 = 0) ∨ (i = .int .i64 2 ∧ a = m0 ∧ b0 = m1)) ∧ Blk wr w.heap.size 47 #[.int .u64 a,.int .u64 b0] ∧ Keeps [] w wr) (fun i _ => 2 - (intOf i).toNat)
 case atStart => exact ⟨0,0,.inl ⟨rfl,rfl,rfl⟩,Blk.new _ _ _,by simp⟩
 case round =>
  obtain ⟨a,b0,hi,hb,hk⟩ := hrel
  obtain ⟨c11,c2,c3,g0,g1⟩ := HC.out wr hk
  have s0 : wr.cell? ⟨w.heap.size,0,none⟩ = some (.int .u64 a) := (hb.cell 0).trans rfl
  have s1 : wr.cell? ⟨w.heap.size,1,none⟩ = some (.int .u64 b0) := (hb.cell 1).trans rfl
  have f0 := hb.frozen 0
  have f1 := hb.frozen 1
  have HB := Lib.hid hb
  have HK := Lib.hid hk
  clear hb hk
  have hl : Hid (w.heap.size < wr.heap.size) := HB.out.lt
  obtain ⟨q,hq⟩ : ∃ q,w.heap.size = q := ⟨_,rfl⟩
  have HQ := Lib.hid hq
  rw [hq] at s0 s1 f0 f1 HB hl ⊢
  clear hq
  rcases hi with ⟨rfl,rfl,rfl⟩ | ⟨rfl,rfl,rfl⟩ | ⟨rfl,rfl,rfl⟩
  · go_wp2_with fail
    refine ⟨⟨m0,0,.inr (.inl ⟨rfl,rfl,rfl⟩),?_,HK.out.setCell (.inr (by rw [HQ.out]; exact Nat.le_refl _)) _⟩,by decide⟩
    have := HB.out.set_ 0 (.int .u64 (m0 : Int))
    simpa using this
  · go_wp2_with fail
    refine ⟨⟨m0,m1,.inr (.inr ⟨rfl,rfl,rfl⟩),?_,HK.out.setCell (.inr (by rw [HQ.out]; exact Nat.le_refl _)) _⟩,by decide⟩
    have := HB.out.set_ 1 (.int .u64 (m1 : Int))
    simpa using this
  ·
   have HS := Lib.hid (show ∀ w',Keeps [] wr w' → w'.cell? ⟨q,0,none⟩ = some (.int .u64 (m0 : Int)) ∧ w'.cell? ⟨q,1,none⟩ = some (.int .u64 (m1 : Int)) ∧ w'.cell? ⟨b,2,none⟩ = some (.int .u64 (x.writes.a : Int)) ∧ w'.cell? ⟨b,3,none⟩ = some (.int .u64 (x.writes.b : Int)) from fun w' hk => by
    have hb := HB.out.keeps hk (by simp)
    obtain ⟨_,y2,y3,_,_⟩ := HC.out w' (HK.out.trans hk (by simp))
    exact ⟨(hb.cell 0).trans rfl,(hb.cell 1).trans rfl,y2,y3⟩)
   have hkB : Keeps [] wr wr := Keeps.refl _ _
   have QM := Lib.hid (fun w' (hk : Keeps [] wr w') => (HM.out w').mono fun e w'' ⟨he,hk2⟩ => And.intro he (hk.trans hk2 (by simp)))
   clear g0 g1 c11 f0 f1
   go_wp2_with fail
   go_region_held3 (fun w' => w'.cell? ⟨q,0,none⟩ = some (.int .u64 (m0 : Int)) ∧ w'.cell? ⟨q,1,none⟩ = some (.int .u64 (m1 : Int)) ∧ w'.cell? ⟨b,2,none⟩ = some (.int .u64 (x.writes.a : Int)) ∧ w'.cell? ⟨b,3,none⟩ = some (.int .u64 (x.writes.b : Int))) (first | with_reducible exact HS.out _ Sq.kq | go_keep) ((first
    | (go_at_call 145; refine (QM.out _ Sq.kq).mono ?_; rintro e wc ⟨rfl,hkc⟩)))
   all_goals
    go_wp2_with fail
    go_ret
    exact ⟨rfl,HK.out.trans hkc (by simp)⟩
end
end Go.Proofs.YtmlnedilbneekaaGreat