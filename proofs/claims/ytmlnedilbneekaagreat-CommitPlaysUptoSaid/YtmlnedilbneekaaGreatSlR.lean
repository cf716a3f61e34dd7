/- Slices that are read and cut from the front; what a machine beside a space owns. -/
import Derived.Test.YtmlnedilbneekaaGreatSpace
import Derived.Deep.AppendLies
import Derived.Deep.RegionLaw
import Derived.Deep.DrawnRows
import Derived.Outline
import Derived.Handy
import Derived.Test.YtmlnedilbneekaaGreatMake
set_option linter.unusedVariables false
set_option linter.unusedSimpArgs false
namespace Go.Proofs.YtmlnedilbneekaaGreat
open Go.RowKit
section
variable {w0 w w' w'' : World} {z : Sb} {F : List Nat} {S S' : Sp} {k : Nat}
theorem SP.cells (h : SP w0 w z F S) : w.cell? ⟨z.p,0,none⟩ = some (PT z.m) ∧ w.cell? ⟨z.p,7,none⟩ = some (PT z.r) ∧ w.cell? ⟨z.p,8,none⟩ = some (PT z.q) ∧ w.cell? ⟨z.p,9,none⟩ = some (PT z.t.q) := by
 obtain ⟨lb,v,hs,_⟩ := h.ex
 exact ⟨(hs.blk.cell 0).trans rfl,(hs.blk.cell 7).trans rfl,(hs.blk.cell 8).trans rfl,(hs.blk.cell 9).trans rfl⟩
theorem SP.plt (h : SP w0 w z F S) : z.p < w.heap.size := by
 obtain ⟨lb,v,hs,_⟩ := h.ex
 exact hs.blk.lt
theorem SP.cfg (h : SP w0 w z F S) : w.cell? ⟨z.p,1,none⟩ = some (.int .i64 S.c.cells) ∧ w.cell? ⟨z.p,2,none⟩ = some (.int .i64 S.c.slots) ∧ w.cell? ⟨z.p,3,none⟩ = some (.int .i64 S.c.bits) ∧ w.cell? ⟨z.p,4,none⟩ = some (.int .i64 S.c.tag) ∧ w.cell? ⟨z.p,5,none⟩ = some (.int .i64 S.c.bias) ∧ w.cell? ⟨z.p,6,none⟩ = some (.int .i64 S.c.defer) := by
 obtain ⟨lb,v,hs,_⟩ := h.ex
 exact ⟨(hs.blk.cell 1).trans rfl,(hs.blk.cell 2).trans rfl,(hs.blk.cell 3).trans rfl,(hs.blk.cell 4).trans rfl,(hs.blk.cell 5).trans rfl,(hs.blk.cell 6).trans rfl⟩
theorem sp_gate (h : SP w0 w z F S) : Calls Tryz.prog 82 #[PT z.p] w fun e w' => e = .returned (PT z.q) ∧ w = w' := by
 obtain ⟨_,_,c8,_⟩ := h.cells
 clear h
 go_enter Tryz.func82,Tryz.ntmps82
 go_wp2
 go_ret
 exact ⟨rfl,rfl⟩
theorem sp_slots (h : SP w0 w z F S) : Calls Tryz.prog 25 #[PT z.p] w fun e w' => e = .returned (PT z.t.q) ∧ w = w' := by
 obtain ⟨_,_,_,c9⟩ := h.cells
 clear h
 go_enter Tryz.func25,Tryz.ntmps25
 go_wp2
 go_ret
 exact ⟨rfl,rfl⟩
theorem sp_len (h : SP w0 w z F S) : Calls Tryz.prog 106 #[PT z.t.q] w fun e w' => e = .returned (.int .i64 S.H.length) ∧ w = w' := by
 obtain ⟨lb,v,hs,_⟩ := h.ex
 exact slots_len w z.t _ _ _ hs.tab
theorem sp_done (h : SP w0 w z F S) : Calls Tryz.prog 19 #[PT z.m] w fun e w' => e = .returned (.int .i64 S.met.done) ∧ w = w' := by
 obtain ⟨lb,v,hs,_⟩ := h.ex
 exact done_some w z.m lb _ hs.met
theorem sp_most (h : SP w0 w z F S) : Calls Tryz.prog 60 #[PT z.m] w fun e w' => e = .returned (.int .i64 S.met.most) ∧ w = w' := by
 obtain ⟨lb,v,hs,_⟩ := h.ex
 exact most_some w z.m lb _ hs.met
theorem sp_log (h : SP w0 w z F S) (hl : S.met.log.length ≤ 2199023255552) : Calls Tryz.prog 59 #[PT z.m] w fun e w' => ∃ v,e = .returned v ∧ NewRow 216 6 S.met.log.length (logCells S.met.log) [] w w' v := by
 obtain ⟨lb,v,hs,_⟩ := h.ex
 exact log_some w z.m lb _ hs.met hl
theorem sp_begin (h : SP w0 w z F S) (t : Int) : Calls Tryz.prog 68 #[PT z.m,.int .i64 t] w fun e w' => e = .returned (.tuple #[]) ∧ Went w0 w w' z F (S.begin t) := by
 obtain ⟨lb,v,hs,hF⟩ := h.ex
 exact (begin_any w (some z.m) lb S.met hs.met t).mono fun e w' ⟨he,h1,h2⟩ => ⟨he,h.went hF (hs.turned h1 h2 (.inl rfl))⟩
theorem sp_turn (h : SP w0 w z F S) (t : Int) : Calls Tryz.prog 13 #[PT z.p,.int .i64 t] w fun e w' => e = .returned (.tuple #[]) ∧ Went w0 w w' z F (S.begin t) := by
 obtain ⟨c0,_,_,_⟩ := h.cells
 have H := Lib.hid h
 clear h
 go_enter Tryz.func13,Tryz.ntmps13
 go_wp2_with fail
 refine (sp_begin H.out t).mono ?_
 rintro e w1 ⟨rfl,hw⟩
 have HW := Lib.hid hw
 clear hw
 go_wp2_with fail
 go_end0
 exact ⟨rfl,HW.out⟩
theorem row_store (h : SP w0 w z F S) (hf : Fit k S) (hk : k ≤ 1099511627776) (i x : Int) : Calls Tryz.prog 130 #[PT z.r,.int .i64 i,.int .i64 x] w fun e w' => e = .returned (.int .i64 (S.store i x).1) ∧ Went w0 w w' z F (S.store i x).2 := by
 obtain ⟨lb,v,hs,hF⟩ := h.ex
 unfold Sp.store
 split
 · rename_i x0 hn
   obtain ⟨h0,h1,hx⟩ := nth_len hn
   obtain ⟨i,rfl⟩ : ∃ n : Nat,i = n := ⟨i.toNat,by omega⟩
   simp only [Int.toNat_natCast] at hx ⊢
   exact (RowI.store_at w z.r z.b 1 (some z.m) S.cells hs.row lb S.met hs.met (hf.room hk _) i x (by omega)).mono fun e w' ⟨he,hl⟩ => ⟨he,h.went hF (hs.rowed hl)⟩
 · rename_i hn
   exact (RowI.store_no w z.r z.b 1 (some z.m) S.cells hs.row i x (nth_none hn)).mono fun e w' ⟨he,hk⟩ => ⟨he,h.stay (hk ▸ Keeps.refl _ _)⟩
theorem sp_store (h : SP w0 w z F S) (hf : Fit k S) (hk : k ≤ 1099511627776) (i x : Int) : Calls Tryz.prog 80 #[PT z.p,.int .i64 i,.int .i64 x] w fun e w' => e = .returned (.int .i64 (S.store i x).1) ∧ Went w0 w w' z F (S.store i x).2 := by
 obtain ⟨_,c7,_,_⟩ := h.cells
 have H := Lib.hid (And.intro h hf)
 clear h hf
 go_enter Tryz.func80,Tryz.ntmps80
 go_wp2_with fail
 refine (row_store H.out.1 H.out.2 hk i x).mono ?_
 rintro e w1 ⟨rfl,hw⟩
 have HW := Lib.hid hw
 clear hw
 go_wp2_with fail
 go_ret
 exact ⟨rfl,HW.out⟩
theorem sp_config (h : SP w0 w z F S) : Calls Tryz.prog 67 #[PT z.p] w fun e w' => e = .returned (.agg #[.int .i64 S.c.cells,.int .i64 S.c.slots,.int .i64 S.c.bits,.int .i64 S.c.tag,.int .i64 S.c.bias,.int .i64 S.c.defer]) ∧ Keeps [] w w' := by
 have hk : Keeps [] w (w.alloc (.cells #[.int .i64 0,.int .i64 0,.int .i64 0,.int .i64 0,.int .i64 0,.int .i64 0] 23)) := by simp
 obtain ⟨c1,c2,c3,c4,c5,c6⟩ := (h.calm hk).cfg
 have hlt := h.plt
 clear h
 go_enter Tryz.func67,Tryz.ntmps67
 go_wp2
 refine bodyPost_ret (v := .agg #[.int .i64 S.c.cells,.int .i64 S.c.slots,.int .i64 S.c.bits,.int .i64 S.c.tag,.int .i64 S.c.bias,.int .i64 S.c.defer]) (by simp [results,Tryz.results67,go_sem]) rfl ⟨rfl,?_⟩
 simp
end
open Go.RowKit
theorem own_slice {w : World} {base : Nat} {t : TypeId} {size n : Nat} {v : Value} {xs : List Value} (h : w.ownsRow base t size v n xs) (hn : 0 < n) : ∃ a c,v = .slice (some ⟨a,0,none⟩) n c ∧ base ≤ a := by
 rcases h.2 with ⟨_,h0⟩ | ⟨a,cap,cur,rfl,hb,_⟩
 · omega
 · exact ⟨a,cap,rfl,hb⟩
def OwnC (w : World) (a c : Nat) (l : List Int) : Prop := w.ownsRow 0 2 1 (.slice (some ⟨a,0,none⟩) l.length c) l.length (l.flatMap RowI.cells)
def OwnS (w : World) (a c n : Nat) (l : List Sl) : Prop := w.ownsRow 0 224 8 (.slice (some ⟨a,0,none⟩) n c) n (l.flatMap Sl.cells)
section
variable {w0 w w' w'' wB : World} {z : Sb} {F : List Nat} {S S' : Sp} {k : Nat}
theorem OwnC.keeps {X : List Nat} {a c : Nat} {l : List Int} (h : OwnC w a c l) (hk : Keeps X w w') (ha : a ∉ X) : OwnC w' a c l := own_keeps h hk (fun q hq => by simp [Value.ownBlock] at hq; subst hq; exact ha)
theorem OwnS.keeps {X : List Nat} {a c n : Nat} {l : List Sl} (h : OwnS w a c n l) (hk : Keeps X w w') (ha : a ∉ X) : OwnS w' a c n l := own_keeps h hk (fun q hq => by simp [Value.ownBlock] at hq; subst hq; exact ha)
theorem Fit.ncells (hf : Fit k S) : 1 ≤ S.cells.length ∧ S.cells.length ≤ 256 := by have := hf.c.1; have := hf.cells; omega
theorem Fit.nslots (hf : Fit k S) : 1 ≤ S.H.length ∧ S.H.length ≤ 8 := by have := hf.c.2.1; have := hf.slots; omega
theorem row_all (h : SP w0 w z F S) (hf : Fit k S) : Calls Tryz.prog 121 #[PT z.r] w fun e w' => ∃ a c,e = .returned (.slice (some ⟨a,0,none⟩) S.cells.length c) ∧ OwnC w' a c S.cells ∧ w.heap.size ≤ a ∧ Keeps [] w w' := by
 obtain ⟨lb,v,hs,hF⟩ := h.ex
 have hn := hf.ncells
 exact (RowI.all_any w z.r z.b 1 (some z.m) S.cells hs.row).mono fun e w' ⟨v,he,h1,h2⟩ => by
  obtain ⟨a,c,rfl,ha⟩ := own_slice h1 (by omega)
  exact ⟨a,c,he,own_base h1 (fun _ _ => Nat.zero_le _),ha,h2⟩
theorem tab_now (h : SP w0 w z F S) (hf : Fit k S) : Calls Tryz.prog 123 #[PT z.t.q] w fun e w' => ∃ a c,e = .returned (.slice (some ⟨a,0,none⟩) S.H.length c) ∧ OwnS w' a c S.H.length (slL S.H S.W) ∧ w.heap.size ≤ a ∧ Keeps [] w w' := by
 obtain ⟨lb,v,hs,hF⟩ := h.ex
 have hn := hf.nslots
 have hl := slL_len S.H S.W hf.words
 exact (slots_now w z.t _ S.H S.W hs.tab).mono fun e w' ⟨v,he,h1,h2⟩ => by
  rw [hl] at h1
  obtain ⟨a,c,rfl,ha⟩ := own_slice h1 (by omega)
  exact ⟨a,c,he,own_base h1 (fun _ _ => Nat.zero_le _),ha,h2⟩
theorem held3 {f : FuncId} {args : Array Value} {w1 w : World} {Q : Ending → World → Prop} (hk : Keeps [] w1 w) (hc : Calls Tryz.prog f args w fun e w' => Q e w' ∧ Keeps [] w w') : Calls Tryz.prog f args w fun e w' => Q e w' ∧ Keeps [] w w' ∧ Keeps [] w1 w' := hc.mono fun e w' ⟨h1,h2⟩ => ⟨h1,h2,hk.trans h2 (by simp)⟩
theorem g_now (h : SP w0 w z F S) : Calls Tryz.prog 122 #[PT z.q] w fun e w' => e = .returned (.agg #[.int .i64 S.gate.number,.int .i64 S.gate.owner]) ∧ Keeps [] w w' := by
 obtain ⟨lb,v,hs,hF⟩ := h.ex
 exact gate_now w z.q z.gr z.gb _ S.gate hs.gate
set_option maxRecDepth 100000 in
set_option maxHeartbeats 4000000 in
theorem sp_view (h : SP w0 w z F S) (hf : Fit k S) : Calls Tryz.prog 57 #[PT z.p] w fun e w' => ∃ a1 c1 a2 c2,e = .returned (.agg #[.slice (some ⟨a1,0,none⟩) S.cells.length c1,.int .i64 S.gate.number,.int .i64 S.gate.owner,.slice (some ⟨a2,0,none⟩) S.H.length c2]) ∧ OwnC w' a1 c1 S.cells ∧ OwnS w' a2 c2 S.H.length (slL S.H S.W) ∧ w.heap.size ≤ a1 ∧ w.heap.size ≤ a2 ∧ Keeps [] w w' := by
 have hk1 : Keeps [] w (w.alloc (.cells #[.slice none 0 0,.int .i64 0,.int .i64 0,.slice none 0 0] 147)) := by simp
 have H1 := Lib.hid (h.calm hk1)
 have HF := Lib.hid hf
 have HB := Lib.hid (Blk.new w 147 #[.slice none 0 0,.int .i64 0,.int .i64 0,.slice none 0 0])
 have HK1 := Lib.hid hk1
 have hlt := h.plt
 have hne : z.p ≠ w.heap.size := by omega
 have hne' : w.heap.size ≠ z.p := by omega
 clear h hf hk1
 go_enter Tryz.func57,Tryz.ntmps57
 go_wp2_with fail
 obtain ⟨w1,hw1⟩ : ∃ w1,w.alloc (.cells #[.slice none 0 0,.int .i64 0,.int .i64 0,.slice none 0 0] 147) = w1 := ⟨_,rfl⟩
 have hz1 : w1.heap.size = w.heap.size + 1 := by rw [← hw1]; simp
 rw [hw1] at H1 HB HK1 ⊢
 clear hw1
 have hkB : Keeps [] w1 w1 := Keeps.refl _ _
 have HC := Lib.hid (show ∀ w',Keeps [] w1 w' → w'.cell? ⟨z.p,7,none⟩ = some (PT z.r) ∧ w'.cell? ⟨z.p,8,none⟩ = some (PT z.q) ∧ w'.cell? ⟨z.p,9,none⟩ = some (PT z.t.q) from fun w' hk => (H1.out.calm hk).cells.2)
 have QA := Lib.hid (fun w (hk : Keeps [] w1 w) => held3 hk ((row_all (H1.out.calm hk) HF.out).mono fun e w' ⟨a,c,he,h1,h2,h3⟩ => (⟨⟨a,c,he,h1,Nat.le_trans hk.size h2⟩,h3⟩ : (∃ a c,e = .returned (.slice (some ⟨a,0,none⟩) S.cells.length c) ∧ OwnC w' a c S.cells ∧ w1.heap.size ≤ a) ∧ Keeps [] w w')))
 have QG := Lib.hid (fun w (hk : Keeps [] w1 w) => held3 hk (g_now (H1.out.calm hk)))
 have QT := Lib.hid (fun w (hk : Keeps [] w1 w) => held3 hk ((tab_now (H1.out.calm hk) HF.out).mono fun e w' ⟨a,c,he,h1,h2,h3⟩ => (⟨⟨a,c,he,h1,Nat.le_trans hk.size h2⟩,h3⟩ : (∃ a c,e = .returned (.slice (some ⟨a,0,none⟩) S.H.length c) ∧ OwnS w' a c S.H.length (slL S.H S.W) ∧ w1.heap.size ≤ a) ∧ Keeps [] w w')))
 go_region_held3 (fun w' => w'.cell? ⟨z.p,7,none⟩ = some (PT z.r) ∧ w'.cell? ⟨z.p,8,none⟩ = some (PT z.q) ∧ w'.cell? ⟨z.p,9,none⟩ = some (PT z.t.q)) (first | exact HC.out _ Sq.kq | go_keep) ((first
  | (go_at_call 121; refine (QA.out _ Sq.kq).mono ?_; rintro e wc ⟨⟨a1,c1,rfl,oC,la1⟩,hs,hkc⟩; (try replace oT := OwnS.keeps oT (Keeps.undrew hs) (by simp)); (try replace oT := OwnS.keeps oT hs (by simp)); obtain ⟨x7,x8,x9⟩ := HC.out wc hkc; have z0 : wc.cell? ⟨w.heap.size,0,none⟩ = some (.slice none 0 0) := ((HB.out.keeps hkc (by simp)).cell 0).trans rfl; have z1 : wc.cell? ⟨w.heap.size,1,none⟩ = some (.int .i64 0) := ((HB.out.keeps hkc (by simp)).cell 1).trans rfl; have z2 : wc.cell? ⟨w.heap.size,2,none⟩ = some (.int .i64 0) := ((HB.out.keeps hkc (by simp)).cell 2).trans rfl; have z3 : wc.cell? ⟨w.heap.size,3,none⟩ = some (.slice none 0 0) := ((HB.out.keeps hkc (by simp)).cell 3).trans rfl; have y0 := (HB.out.keeps hkc (by simp)).frozen 0; have y1 := (HB.out.keeps hkc (by simp)).frozen 1; have y2 := (HB.out.keeps hkc (by simp)).frozen 2; have y3 := (HB.out.keeps hkc (by simp)).frozen 3; clear hs)
  | (go_at_call 122; refine (QG.out _ Sq.kq).mono ?_; rintro e wc ⟨rfl,hs,hkc⟩; (try replace oT := OwnS.keeps oT (Keeps.undrew hs) (by simp)); (try replace oT := OwnS.keeps oT hs (by simp)); (try replace oC := OwnC.keeps oC (Keeps.undrew hs) (by simp)); (try replace oC := OwnC.keeps oC hs (by simp)); obtain ⟨x7,x8,x9⟩ := HC.out wc hkc; have z0 : wc.cell? ⟨w.heap.size,0,none⟩ = some (.slice none 0 0) := ((HB.out.keeps hkc (by simp)).cell 0).trans rfl; have z1 : wc.cell? ⟨w.heap.size,1,none⟩ = some (.int .i64 0) := ((HB.out.keeps hkc (by simp)).cell 1).trans rfl; have z2 : wc.cell? ⟨w.heap.size,2,none⟩ = some (.int .i64 0) := ((HB.out.keeps hkc (by simp)).cell 2).trans rfl; have z3 : wc.cell? ⟨w.heap.size,3,none⟩ = some (.slice none 0 0) := ((HB.out.keeps hkc (by simp)).cell 3).trans rfl; have y0 := (HB.out.keeps hkc (by simp)).frozen 0; have y1 := (HB.out.keeps hkc (by simp)).frozen 1; have y2 := (HB.out.keeps hkc (by simp)).frozen 2; have y3 := (HB.out.keeps hkc (by simp)).frozen 3; clear hs)
  | (go_at_call 123; refine (QT.out _ Sq.kq).mono ?_; rintro e wc ⟨⟨a2,c2,rfl,oT,la2⟩,hs,hkc⟩; (try replace oC := OwnC.keeps oC (Keeps.undrew hs) (by simp)); (try replace oC := OwnC.keeps oC hs (by simp)); obtain ⟨x7,x8,x9⟩ := HC.out wc hkc; have z0 : wc.cell? ⟨w.heap.size,0,none⟩ = some (.slice none 0 0) := ((HB.out.keeps hkc (by simp)).cell 0).trans rfl; have z1 : wc.cell? ⟨w.heap.size,1,none⟩ = some (.int .i64 0) := ((HB.out.keeps hkc (by simp)).cell 1).trans rfl; have z2 : wc.cell? ⟨w.heap.size,2,none⟩ = some (.int .i64 0) := ((HB.out.keeps hkc (by simp)).cell 2).trans rfl; have z3 : wc.cell? ⟨w.heap.size,3,none⟩ = some (.slice none 0 0) := ((HB.out.keeps hkc (by simp)).cell 3).trans rfl; have y0 := (HB.out.keeps hkc (by simp)).frozen 0; have y1 := (HB.out.keeps hkc (by simp)).frozen 1; have y2 := (HB.out.keeps hkc (by simp)).frozen 2; have y3 := (HB.out.keeps hkc (by simp)).frozen 3; clear hs)))
 all_goals
  go_wp2_with fail
  have q0 : a1 ∉ [w.heap.size] := by simp; omega
  have q1 : a2 ∉ [w.heap.size] := by simp; omega
  have kk : ∀ v0 v1 v2 v3 : Value,Keeps [w.heap.size] wc ((((wc.setCell ⟨w.heap.size,0,none⟩ v0).setCell ⟨w.heap.size,1,none⟩ v1).setCell ⟨w.heap.size,2,none⟩ v2).setCell ⟨w.heap.size,3,none⟩ v3) := fun v0 v1 v2 v3 => (((Sq.r.setCell (.inl (by simp)) _).setCell (.inl (by simp)) _).setCell (.inl (by simp)) _).setCell (.inl (by simp)) _
  refine bodyPost_ret (v := .agg #[.slice (some ⟨a1,0,none⟩) S.cells.length c1,.int .i64 S.gate.number,.int .i64 S.gate.owner,.slice (some ⟨a2,0,none⟩) S.H.length c2]) (by simp [results,Tryz.results57,go_sem,z0,z1,z2,z3]) rfl ⟨a1,c1,a2,c2,rfl,oC.keeps (kk _ _ _ _) q0,oT.keeps (kk _ _ _ _) q1,by omega,by omega,(HK1.out.trans hkc (by simp)).trans (kk _ _ _ _) (by simp)⟩
end
open Go.RowKit
attribute [local go_sem ↓] Go.wp_at_zero Go.wp_at_succ
def Ev.vals (v : Ev) : Array Value := #[.int .i64 v.kind,.int .i64 v.step,.int .i64 v.thread,.int .i64 v.stamp,.int .i64 v.cell,.int .i64 v.x,.bool v.mine,.int .i64 v.gate,.int .i64 v.e,.int .i64 v.who]
section
variable {w0 w w' w'' : World} {z : Sb} {F : List Nat} {S S' : Sp} {k : Nat}
theorem Went.pre {w1 : World} (hk : Keeps [] w w1) (h : Went w0 w1 w' z F S') : Went w0 w w' z F S' := by
 obtain ⟨F',h1,h2,h3⟩ := h
 refine ⟨F',h1,(hk.mono (T := F) (by simp)).trans h2 (fun x hx => .inl hx),fun x hx => ?_⟩
 have := hk.size
 rcases h3 x hx with h4 | h4
 · exact .inl h4
 · exact .inr (by omega)
end
open Go.RowKit
structure Loc (w : World) (F : List Nat) (b : Nat) (t : TypeId) (cs : Array Value) : Prop where
 blk : Blk w b t cs
 off : b ∉ F
structure LocR (w : World) (F : List Nat) (a : Nat) (t : TypeId) (size n c : Nat) (xs : List Value) : Prop where
 own : w.ownsRow 0 t size (.slice (some ⟨a,0,none⟩) n c) n xs
 off : a ∉ F
section
variable {w0 w w' w1 : World} {z : Sb} {F F' : List Nat} {S S' : Sp} {b : Nat} {t : TypeId} {cs : Array Value} {size n c : Nat} {xs : List Value}
theorem LocR.cell (h : LocR w F b t size n c xs) {i : Nat} {v : Value} (hx : xs[i]? = some v) : w.cell? ⟨b,i,none⟩ = some v := by
 have hl : xs.length = n * size := h.own.1
 have hi := (List.getElem?_eq_some_iff.1 hx).1
 exact (h.own.cellAt i (by omega)).trans hx
theorem SP.fresh (h : SP w0 w z F S) {b : Nat} (hb : w.heap.size ≤ b) : b ∉ F := fun hx => by have := h.lt b hx; omega
theorem SP.base (h : SP w1 w z F S) (hk : Keeps [] w0 w1) : SP w0 w z F S := ⟨h.ex,fun x hx => Nat.le_trans hk.size (h.low x hx),hk.trans h.keep (by simp)⟩
theorem slots_held {wB : World} (h : SP w0 wB z F S) (hk : Keeps [] wB w) : Calls Tryz.prog 25 #[PT z.p] w fun e w' => e = .returned (PT z.t.q) ∧ Keeps [] wB w' :=
 (sp_slots (h.calm hk)).mono fun e w' ⟨he,h2⟩ => ⟨he,h2 ▸ hk⟩
theorem len_heldS {wB : World} (h : SP w0 wB z F S) (hk : Keeps [] wB w) : Calls Tryz.prog 106 #[PT z.t.q] w fun e w' => e = .returned (.int .i64 S.H.length) ∧ Keeps [] wB w' :=
 (sp_len (h.calm hk)).mono fun e w' ⟨he,h2⟩ => ⟨he,h2 ▸ hk⟩
end
open Go.RowKit
def vblk (v : Value) : List Nat := v.ownBlock.toList
structure SlR (w : World) (t : TypeId) (size : Nat) (v : Value) (n : Nat) (xs : List Value) : Prop where
 len : xs.length = n * size
 ex : ∃ A c,v = .slice A n c ∧ n ≤ c ∧ c ≤ maxLen ∧ (∀ a,A = some a → tyOf w a.block = some t) ∧ (0 < n → ∃ b off,A = some ⟨b,off,none⟩ ∧ ∀ j u,xs[j]? = some u → w.cell? ⟨b,off + j,none⟩ = some u)
section
variable {w w' : World} {t : TypeId} {size n : Nat} {v : Value} {xs : List Value} {X : List Nat}
theorem SlR.ty (h : SlR w t size v n xs) : ∀ y,y ∈ vblk v → tyOf w y = some t := by
 obtain ⟨_,A,c,rfl,_,_,h1,_⟩ := h
 intro y hy
 cases A with
 | none => simp [vblk,Value.ownBlock] at hy
 | some a => simp [vblk,Value.ownBlock] at hy; subst hy; exact h1 a rfl
theorem SlR.keeps (h : SlR w t size v n xs) (hk : Keeps X w w') (hX : ∀ y,y ∈ vblk v → y ∉ X) : SlR w' t size v n xs := by
 obtain ⟨h0,A,c,rfl,hc,hm,h1,h2⟩ := h
 refine ⟨h0,A,c,rfl,hc,hm,fun a ha => tyOf_keeps (h1 a ha) hk (hX _ (by subst ha; simp [vblk,Value.ownBlock])),fun hn => ?_⟩
 obtain ⟨b,off,rfl,h3⟩ := h2 hn
 refine ⟨b,off,rfl,fun j u hu => ?_⟩
 have := tyOf_lt (h1 _ rfl)
 rw [← h3 j u hu]
 exact World.cell?_of_block (hk.block b this (hX b (by simp [vblk,Value.ownBlock])))
theorem SlR.of_own {base : Nat} (h : w.ownsRow base t size v n xs) : SlR w t size v n xs := by
 refine ⟨h.1,?_⟩
 rcases h.2 with ⟨rfl,rfl⟩ | ⟨g,cap,cur,rfl,hb,hg,h1,h2,h3⟩
 · exact ⟨none,0,rfl,Nat.le_refl _,by decide,(fun a h => by cases h),fun h => absurd h (by omega)⟩
 ·
  refine ⟨some ⟨g,0,none⟩,cap,rfl,h1,?_,fun a ha => ?_,fun _ => ⟨g,0,rfl,fun j u hu => ?_⟩⟩
  · exact h2
  · injection ha with ha; subst ha
    exact Blk.tyOf (cs := cur) hg
  · have hc := h.cells (g := g) rfl j u hu
    have e : (⟨g,0,none⟩ : Addr).add j = ⟨g,0 + j,none⟩ := by unfold Addr.add; split <;> simp_all
    rwa [e] at hc
theorem SlR.cut {A : Option Addr} {c : Nat} (h : SlR w t size (.slice A (n + 1) c) (n + 1) xs) : SlR w t size (.slice (if c = 1 then A else A.map (·.add (1 * size))) n (c - 1)) n (xs.drop size) ∧ ∀ y,y ∈ vblk (.slice (if c = 1 then A else A.map (·.add (1 * size))) n (c - 1)) → y ∈ vblk (.slice A (n + 1) c) := by
 obtain ⟨h0,A',c',e,hc,hm,h1,h2⟩ := h
 injection e with e1 _ e3
 subst e1 e3
 obtain ⟨b,off,rfl,h3⟩ := h2 (by omega)
 have ea : (⟨b,off,none⟩ : Addr).add (1 * size) = ⟨b,off + size,none⟩ := by unfold Addr.add; split <;> simp_all
 by_cases hc1 : c = 1
 · rw [if_pos hc1]
   have hn : n = 0 := by omega
   subst hn
   refine ⟨⟨by simp at h0 ⊢; omega,_,_,rfl,by omega,by omega,h1,fun h => absurd h (by omega)⟩,fun y hy => hy⟩
 ·
  rw [if_neg hc1]
  simp only [Option.map_some,ea]
  refine ⟨⟨by simp at h0 ⊢; rw [h0,Nat.succ_mul]; omega,_,_,rfl,by omega,by omega,fun a ha => ?_,fun _ => ⟨b,off + size,rfl,fun j u hu => ?_⟩⟩,fun y hy => hy⟩
  · injection ha with ha; subst ha
    have hb0 := h1 ⟨b,off,none⟩ rfl
    exact hb0
  · rw [List.getElem?_drop] at hu
    have := h3 _ u hu
    rw [Nat.add_assoc]
    exact this
theorem SlR.spot (h : SlR w t size v (n + 1) xs) : ∃ g off c,v = .slice (some ⟨g,off,none⟩) (n + 1) c ∧ n + 1 ≤ c ∧ c ≤ maxLen ∧ (∀ j u,xs[j]? = some u → w.cell? ⟨g,off + j,none⟩ = some u) := by
 obtain ⟨h0,A,c,rfl,hc,hm,h1,h2⟩ := h
 obtain ⟨g,off,rfl,h3⟩ := h2 (by omega)
 exact ⟨g,off,c,rfl,hc,hm,h3⟩
theorem SlR.spot_pos (h : SlR w t size v n xs) (hn : 0 < n) : ∃ g off c,v = .slice (some ⟨g,off,none⟩) n c ∧ n ≤ c ∧ c ≤ maxLen ∧ (∀ j u,xs[j]? = some u → w.cell? ⟨g,off + j,none⟩ = some u) := by
 obtain ⟨h0,A,c,rfl,hc,hm,h1,h2⟩ := h
 obtain ⟨g,off,rfl,h3⟩ := h2 hn
 exact ⟨g,off,c,rfl,hc,hm,h3⟩
theorem SlR.cut1 {g off c : Nat} (h : SlR w t size (.slice (some ⟨g,off,none⟩) (n + 1) c) (n + 1) xs) : (c = 1 → SlR w t size (.slice (some ⟨g,off,none⟩) n (c - 1)) n (xs.drop size)) ∧ (c ≠ 1 → SlR w t size (.slice (some ⟨g,off + size,none⟩) n (c - 1)) n (xs.drop size)) := by
 have hc := h.cut.1
 have ea : (⟨g,off,none⟩ : Addr).add (1 * size) = ⟨g,off + size,none⟩ := by unfold Addr.add; split <;> simp_all
 refine ⟨fun e => ?_,fun e => ?_⟩
 · rw [if_pos e] at hc; exact hc
 · rw [if_neg e,Option.map_some,ea] at hc; exact hc
theorem made_row (w : World) (t : TypeId) (cs : Array Value) (k : Nat) (hk : w.heap.size = k) : (w.alloc (.cells cs t)).ownsRow 0 t cs.size (.slice (some ⟨k,0,none⟩) 1 1) 1 cs.toList := by
 subst hk
 exact ⟨by simp,.inr ⟨w.heap.size,1,cs,rfl,Nat.zero_le _,heap_alloc_new w _,Nat.le_refl _,by decide,by simp,by rw [Nat.one_mul]; exact List.take_of_length_le (by simp)⟩⟩
end
theorem Tryz.infoInt : (Tryz.prog.info? 3).map (fun i => (i.zero,i.size,i.bytes)) = some (some (.int .i64 0),1,8) := by kernel_rfl
theorem Tryz.infoU64 : (Tryz.prog.info? 45).map (fun i => (i.zero,i.size,i.bytes)) = some (some (.int .u64 0),1,8) := by kernel_rfl
end Go.Proofs.YtmlnedilbneekaaGreat