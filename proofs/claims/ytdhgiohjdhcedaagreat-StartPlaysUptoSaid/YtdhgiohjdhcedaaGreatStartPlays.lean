/- StartPlays: four begins at one time over one space, raw steps between theirs, and the document: the call returns true wherever what it reads is of bulk at most 1048576. -/
import Derived.Test.YtdhgiohjdhcedaaGreatRows
import Derived.Test.YtdhgiohjdhcedaaGreatStTold
import Derived.Test.YtdhgiohjdhcedaaGreatRegT
import Derived.Test.YtdhgiohjdhcedaaGreatScript10
import Derived.Test.YtdhgiohjdhcedaaGreatOneStruct
import Derived.Deep.RegionHeld3
import Derived.Deep.QuietTactic
import Derived.BigQuiet
import Derived.JoinedCond
import Derived.WalkKit
import Derived.ProofKit
import Derived.OpenShut
import Derived.ShutString
import Derived.ChangeOld
import Derived.Below
import Derived.Carry
namespace Go.Proofs.YtdhgiohjdhcedaaGreat.startPlays
open Go.ChangeShapes Go.WideShapes Go.ChangeAt Go.RowKit
set_option linter.unusedVariables false
set_option linter.unusedSimpArgs false


open SR
/-- Both sides have the same machines. -/
def Pair (M N : Nat → Mc) (s : Int) : Prop := ∀ j, (M j = none ∧ N j = none) ∨ ∃ a b x, M j = some (a, x) ∧ N j = some (b, x) ∧ St.J s x
theorem Pair.set {M N : Nat → Mc} {s : Int} (h : Pair M N s) (j : Nat) {a b : Nat} {x : St} (hj : x.J s) : Pair (upd' M j (some (a, x))) (upd' N j (some (b, x))) s := fun i => by
  by_cases e : i = j
  · subst e; exact .inr ⟨a, b, x, upd_at _ _ _, upd_at _ _ _, hj⟩
  · rw [upd_off _ _ _ e, upd_off _ _ _ e]; exact h i
theorem Pair.unset {M N : Nat → Mc} {s : Int} (h : Pair M N s) (j : Nat) : Pair (upd' M j none) (upd' N j none) s := fun i => by
  by_cases e : i = j
  · subst e; exact .inl ⟨upd_at _ _ _, upd_at _ _ _⟩
  · rw [upd_off _ _ _ e, upd_off _ _ _ e]; exact h i
section
variable {w0 w w1 w' : World} {z : Sb} {y : Rb} {xb yb j a : Nat} {O : Option (Nat × Array Value)} {S T : Sp} {M N : Nat → Mc} {x : St}
theorem cx_none (h : Rig w0 w z y xb yb O S T M N) (hj : j < 4) (e : M j = none) : w.cell? ⟨xb, j, none⟩ = some (.pointer none) := by
  rw [h.xs.cell j, arr_get M hj, e]; rfl
theorem cy_none (h : Rig w0 w z y xb yb O S T M N) (hj : j < 4) (e : N j = none) : w.cell? ⟨yb, j, none⟩ = some (.pointer none) := by
  rw [h.ys.cell j, arr_get N hj, e]; rfl
theorem cx_some (h : Rig w0 w z y xb yb O S T M N) (hj : j < 4) (e : M j = some (a, x)) : w.cell? ⟨xb, j, none⟩ = some (PT a) := by
  rw [h.xs.cell j, arr_get M hj, e]; rfl
theorem cy_some (h : Rig w0 w z y xb yb O S T M N) (hj : j < 4) (e : N j = some (a, x)) : w.cell? ⟨yb, j, none⟩ = some (PT a) := by
  rw [h.ys.cell j, arr_get N hj, e]; rfl
theorem st_of (h : Rig w0 w z y xb yb O S T M N) (e : M j = some (a, x)) : StAt w z a x := by
  obtain ⟨G, hs⟩ := h
  have := hs.at_ (.m j)
  rw [parts_m, e] at this
  exact this.2
theorem rst_of (h : Rig w0 w z y xb yb O S T M N) (e : N j = some (a, x)) : RstAt w y a x := by
  obtain ⟨G, hs⟩ := h
  have := hs.at_ (.d j)
  rw [parts_d, e] at this
  exact this.2
theorem told_rig {b : Nat} {s : Int} (h : Rig w0 w z y xb yb O S T M N) (e1 : M j = some (a, x)) (e2 : N j = some (b, x)) (hJ : x.J s) (hk : Keeps [] w w') : Calls Tryz.prog 67 #[PT a, PT b] w' fun e w'' => e = .returned (.bool true) ∧ Keeps [] w w'' :=
  (told_yes (st_of (h.calm hk) e1) (rst_of (h.calm hk) e2) hJ).mono fun e w'' ⟨he, h2⟩ => ⟨he, hk.trans h2 (by simp)⟩
/-- The bundle at its start. -/
theorem Rig.start {F G : List Nat} (hs : SP w0 w z F S) (hr : RP w0 w y G T) (hd : ∀ x, x ∈ F → x ∉ G) :
    Rig w0 ((w.alloc (.cells (arr (fun _ => none)) TX)).alloc (.cells (arr (fun _ => none)) TY)) z y w.heap.size (w.heap.size + 1) none S T (fun _ => none) (fun _ => none) := by
  have hsz : (w.alloc (.cells (arr (fun _ => none)) TX)).heap.size = w.heap.size + 1 := by simp
  have k1 : Keeps [] w (w.alloc (.cells (arr (fun _ => none)) TX)) := (Keeps.refl _ _).alloc _
  have k2 : Keeps [] w ((w.alloc (.cells (arr (fun _ => none)) TX)).alloc (.cells (arr (fun _ => none)) TY)) := k1.alloc _
  have bx : Blk ((w.alloc (.cells (arr (fun _ => none)) TX)).alloc (.cells (arr (fun _ => none)) TY)) w.heap.size TX (arr (fun _ => none)) := (Blk.new _ _ _).alloc _
  have bY : Blk ((w.alloc (.cells (arr (fun _ => none)) TX)).alloc (.cells (arr (fun _ => none)) TY)) (w.heap.size + 1) TY (arr (fun _ => none)) := by
    have := Blk.new (w.alloc (.cells (arr (fun _ => none)) TX)) TY (arr (fun _ => none))
    rw [hsz] at this
    exact this
  have s2 := hs.calm k2
  have r2 := hr.calm k2
  have hb := hs.keep.size
  have hlF := hs.lt
  have hlG := hr.lt
  refine ⟨fun p => match p with
    | .s => F
    | .r => G
    | .xs => [w.heap.size]
    | .ys => [w.heap.size + 1]
    | _ => [], fun p => ?_, parts_lies _ _ _ _ _ _ _ _ _ _, fun p => ?_, fun p q hpq => ?_, hs.keep.trans k2 (by simp)⟩
  · cases p with
    | s => exact s2
    | r => exact r2
    | xs => exact ⟨rfl, bx⟩
    | ys => exact ⟨rfl, bY⟩
    | o => exact rfl
    | m i => exact rfl
    | d i => exact rfl
  · cases p with
    | s => exact s2.apart
    | r => exact r2.apart
    | xs => exact apart_blk bx hb (by decide)
    | ys => exact apart_blk bY (by omega) (by decide)
    | o => exact Apart.nil
    | m i => exact Apart.nil
    | d i => exact Apart.nil
  · intro c h1 h2
    cases p <;> cases q <;> first | exact hpq rfl | skip
    all_goals
      simp only [List.mem_cons, List.not_mem_nil, or_false] at h1 h2
    all_goals first
      | exact hd c h1 h2
      | exact hd c h2 h1
      | (have := hlF c h1; omega)
      | (have := hlF c h2; omega)
      | (have := hlG c h1; omega)
      | (have := hlG c h2; omega)
      | omega
end
theorem rig_zc {w0 w : World} {z : Sb} {y : Rb} {xb yb : Nat} {O : Option (Nat × Array Value)} {S T : Sp} {M N : Nat → Mc} (h : Rig w0 w z y xb yb O S T M N) : w.cell? ⟨z.p, 0, none⟩ = some (PT z.m) := by
  obtain ⟨_, hs⟩ := h.sp
  exact hs.cells.1
theorem rig_yc {w0 w : World} {z : Sb} {y : Rb} {xb yb : Nat} {O : Option (Nat × Array Value)} {S T : Sp} {M N : Nat → Mc} (h : Rig w0 w z y xb yb O S T M N) : w.cell? ⟨y.p, 6, none⟩ = some (PT y.m) := by
  obtain ⟨_, hs⟩ := h.rp
  exact hs.cells.2.2.2.1
theorem rig_done_cell {w0 w : World} {z : Sb} {y : Rb} {xb yb : Nat} {O : Option (Nat × Array Value)} {S T : Sp} {M N : Nat → Mc} (h : Rig w0 w z y xb yb O S T M N) : w.cell? ⟨y.m, 2, none⟩ = some (.int .i64 T.met.done) := by
  obtain ⟨_, hr⟩ := h.rp
  obtain ⟨lb, v, hs, _⟩ := hr.ex
  obtain ⟨vx, hmx⟩ := hs.met
  exact (hmx.blk.cell 2).trans rfl
theorem rig_done_call {w0 w : World} {z : Sb} {y : Rb} {xb yb : Nat} {O : Option (Nat × Array Value)} {S T : Sp} {M N : Nat → Mc} (h : Rig w0 w z y xb yb O S T M N) : Calls Tryz.prog 48 #[PT z.m] w fun e w' => e = .returned (.int .i64 S.met.done) ∧ w = w' := by
  obtain ⟨_, hs⟩ := h.sp
  exact sp_done hs
theorem step_c (x : St) (S : Sp) : (x.step S).2.2.c = S.c := by
  have hc : ∀ i t, (S.claim i t).2.c = S.c := fun i t => by unfold Sp.claim; split; rfl; split; rfl; split <;> rfl
  have hp : ∀ i j v, (S.put i j v).2.c = S.c := fun i j v => by unfold Sp.put; split <;> rfl
  have hr : ∀ i j v, (S.ready i j v).2.c = S.c := fun i j v => by unfold Sp.ready; split; rfl; split; rfl; split <;> rfl
  unfold St.step
  split
  · unfold St.claim
    split
    · exact hc _ _
    · split <;> exact hc _ _
  · split
    · exact hp _ _ _
    · split
      · exact hr _ _ _
      · rfl
theorem raw_c (S : Sp) (kd i n x : Int) : (S.raw kd i n x).c = S.c := by
  unfold Sp.raw
  split; (unfold Sp.store; split <;> rfl)
  split; (unfold Sp.take; split; rfl; split <;> rfl)
  split; (unfold Sp.give; split; rfl; split <;> rfl)
  split; (unfold Sp.claim; split; rfl; split; rfl; split <;> rfl)
  split; (unfold Sp.ready; split; rfl; split; rfl; split <;> rfl)
  split; (unfold Sp.doom; split; rfl; split; rfl; split <;> rfl)
  split; (unfold Sp.free; split; rfl; split <;> rfl)
  split; (unfold Sp.put; split <;> rfl)
  rfl
theorem bx0 {w wq w' : World} {b i : Nat} {v : Value} (h : w.cell? ⟨b, i, none⟩ = some v) (hk : Keeps [] w w') : w'.cell? ⟨b, i, none⟩ = some v := keeps_cell0 hk h
set_option maxRecDepth 100000 in
set_option maxHeartbeats 16000000 in
theorem walk (cf : Cf) (A : Option Addr) (n c : Nat) (ops : List Op10) (w : World) (hs : Script10 w A n c ops) :
    Calls Tryz.prog 10 #[.agg #[.int .i64 cf.cells, .int .i64 cf.slots, .int .i64 cf.bits, .int .i64 cf.tag, .int .i64 cf.bias, .int .i64 cf.defer], .slice A n c] w fun e w' => e = .returned (.bool true) ∧ Below w.heap.size w w' := by
  have HSC := Lib.hid hs
  have hn := hs.2.2.1
  have hni : (n : Int) ≤ 1048576 := by omega
  clear hs
  have kB : Keeps [] w (w.alloc (.cells cf.vals 23)) := (Keeps.refl _ _).alloc _
  have hb : Blk (w.alloc (.cells cf.vals 23)) w.heap.size 23 cf.vals := Blk.new _ _ _
  have HKB := Lib.hid kB
  have HBB := Lib.hid hb
  unfold Cf.vals at kB hb
  clear kB hb
  go_enter Tryz.func10, Tryz.ntmps10
  go_wp2_with fail
  refine (awake10 _).mono ?_
  rintro e w1 ⟨rfl, hk1⟩
  have HK1 : Hid (Keeps [] w w1) := HKB.out.trans hk1 (by simp)
  have HB1 : Hid (Blk w1 w.heap.size 23 cf.vals) := HBB.out.keeps hk1 (by simp)
  clear hk1 HKB HBB
  obtain ⟨d0, d1, d2, d3, d4, d5⟩ := cf_cells HB1.out
  go_wp2_with fail
  by_cases hok : cf.ok
  · refine (sp_new w1 cf hok).mono ?_
    rintro e w2 ⟨z, F, rfl, hsp⟩
    have HS2 := Lib.hid (hsp.base HK1.out)
    have hk2 := hsp.keep
    have HB2 : Hid (Blk w2 w.heap.size 23 cf.vals) := HB1.out.keeps hk2 (by simp)
    clear hsp hk2 d0 d1 d2 d3 d4 d5 HB1
    obtain ⟨d0, d1, d2, d3, d4, d5⟩ := cf_cells HB2.out
    go_wp2_with fail
    refine (rp_new w2 cf hok).mono ?_
    rintro e w3 ⟨y, G, rfl, hrp⟩
    have HR0 : Hid (Rig w ((w3.alloc (.cells (arr (fun _ => none)) TX)).alloc (.cells (arr (fun _ => none)) TY)) z y w3.heap.size (w3.heap.size + 1) none (Sp.new cf) (Sp.new cf) (fun _ => none) (fun _ => none)) := by
      have hk3 := hrp.keep
      refine Rig.start (HS2.out.calm hk3) (hrp.base HS2.out.keep) (fun x hx hg => ?_)
      have h1 := HS2.out.lt x hx
      have h2 := hrp.low x hg
      omega
    obtain ⟨w4, hw4⟩ : ∃ v, ((w3.alloc (.cells (arr (fun _ => none)) TX)).alloc (.cells (arr (fun _ => none)) TY)) = v := ⟨_, rfl⟩
    rw [hw4] at HR0
    have hw5 : ((w3.alloc (.cells #[.pointer none, .pointer none, .pointer none, .pointer none] TX)).alloc (.cells #[.pointer none, .pointer none, .pointer none, .pointer none] TY)) = w4 := hw4
    obtain ⟨xb, hxb⟩ : ∃ v, w3.heap.size = v := ⟨_, rfl⟩
    clear hrp d0 d1 d2 d3 d4 d5 HS2 HB2 hw4
    go_wp2_with fail
    try rw [hw5]
    rw [hxb] at HR0
    try rw [hxb]
    obtain ⟨yb, hyb⟩ : ∃ v, xb + 1 = v := ⟨_, rfl⟩
    rw [hyb] at HR0
    try rw [hyb]
    clear hw5 hxb hyb HK1
    go_loopw [12] (fun i wr => ∃ (k : Nat) (S : Sp) (M N : Nat → Mc), k ≤ n ∧ i = .int .i64 k ∧ Rig w wr z y xb yb none S S M N ∧ Fit k S ∧ S.c = cf ∧ Pair M N cf.slots) (fun i _ => n - (intOf i).toNat)
    case atStart => exact ⟨0, _, _, _, Nat.zero_le _, rfl, HR0.out, Fit.new hok, rfl, fun j => .inl ⟨rfl, rfl⟩⟩
    case round =>
      obtain ⟨k, S, M, N, hk, rfl, hr, hf, hcf, hp⟩ := hrel
      have HC0 := Lib.hid hr
      have HF0 := Lib.hid hf
      have HCF0 := Lib.hid hcf
      have HP := Lib.hid hp
      clear hr hf hcf hp
      by_cases hlt : k < n
      · obtain ⟨ab, off, p, rfl, hp, hcell⟩ := HSC.out.at_ hlt
        have hop := hcell wr (HC0.out.keep.below (by simp) (Nat.le_refl _))
        have c0 := hop.c0
        have c1 := hop.c1
        have c2 := hop.c2
        have c3 := hop.c3
        have c4 := hop.c4
        clear hop hcell hp
        have k0 : (0 : Int) ≤ (k : Int) := by omega
        have k1 : (k : Int) < (n : Int) := by omega
        obtain ⟨kd, mm, pi, pn, px⟩ := p
        simp only at c0 c1 c2 c3 c4
        obtain ⟨j, hj⟩ : ∃ j : Nat, mm % 4 = (j : Int) := ⟨(mm % 4).toNat, by omega⟩
        have m3 : bits .and .i64 mm 3 = (j : Int) := (i64_and3 mm).trans hj
        have hj4 : j < 4 := by omega
        have j0 : (0 : Int) ≤ (j : Int) := by omega
        have j1 : (j : Int) < 4 := by omega
        clear hj
        have HR1 := Lib.hid (HC0.out.laid #[.int .i64 kd, .int .i64 mm, .int .i64 pi, .int .i64 pn, .int .i64 px])
        obtain ⟨bo, hbo⟩ : ∃ b, wr.heap.size = b := ⟨_, rfl⟩
        go_wp2_with fail
        refine (HR1.out.turn _).mono ?_
        rintro e w1 ⟨rfl, hr2⟩
        rw [hbo] at hr2
        have HR2 := Lib.hid hr2
        obtain ⟨_, hrp⟩ := hr2.rp
        have cM := hrp.cells.2.2.2.1
        have bx := hr2.box
        have d0 : w1.cell? ⟨bo, 0, none⟩ = some (.int .i64 kd) := (bx.cell 0).trans rfl
        have d2 : w1.cell? ⟨bo, 2, none⟩ = some (.int .i64 pi) := (bx.cell 2).trans rfl
        have d3 : w1.cell? ⟨bo, 3, none⟩ = some (.int .i64 pn) := (bx.cell 3).trans rfl
        have d4 : w1.cell? ⟨bo, 4, none⟩ = some (.int .i64 px) := (bx.cell 4).trans rfl
        try rw [hbo]
        clear hr2 hrp bx HR1 hbo c0 c1 c2 c3 c4 m3
        go_wp2_with fail
        refine (HR2.out.begin _).mono ?_
        rintro e w2 ⟨rfl, hr3⟩
        have HR3 := Lib.hid hr3
        have bx := hr3.box
        clear d0 d2 d3 d4 cM
        have d0 : w2.cell? ⟨bo, 0, none⟩ = some (.int .i64 kd) := (bx.cell 0).trans rfl
        have d2 : w2.cell? ⟨bo, 2, none⟩ = some (.int .i64 pi) := (bx.cell 2).trans rfl
        have d3 : w2.cell? ⟨bo, 3, none⟩ = some (.int .i64 pn) := (bx.cell 3).trans rfl
        have d4 : w2.cell? ⟨bo, 4, none⟩ = some (.int .i64 px) := (bx.cell 4).trans rfl
        clear hr3 bx HR2
        have HF1 : Hid (Fit k (S.begin j)) := HF0.out.begin _
        have HCF1 : Hid ((S.begin j).c = cf) := HCF0.out
        obtain ⟨S1, hS1⟩ : ∃ v, S.begin j = v := ⟨_, rfl⟩
        rw [hS1] at HR3 HF1 HCF1
        clear hS1 HF0 HCF0 HC0
        have hsl : S1.c.slots = (S1.H.length : Int) := by have h1 := HF1.out.slots; have h2 := HF1.out.c.2.1.1; omega
        have hs0 : 0 < S1.c.slots := by have h2 := HF1.out.c.2.1.1; omega
        have HSL := Lib.hid (And.intro hsl hs0)
        clear hsl hs0
        by_cases e20 : kd = 20
        · subst e20
          by_cases hv : (1 ≤ pi ∧ pi ≤ 8) ∧ 1 ≤ pn
          · obtain ⟨⟨v1, v2⟩, v3⟩ := hv
            obtain ⟨F3, hsp⟩ := HR3.out.sp
            have QN := Lib.hid (st_new hsp pi pn v1 v2 v3)
            clear hsp
            go_wp2_with fail
            refine QN.out.mono ?_
            rintro e w3 ⟨a, rfl, ha, hla, hk3⟩
            have HA := Lib.hid (And.intro ha (And.intro hla hk3))
            replace d0 := keeps_cell0 hk3 d0
            replace d2 := keeps_cell0 hk3 d2
            replace d3 := keeps_cell0 hk3 d3
            clear ha hla hk3 QN d4
            go_wp2_with fail
            refine (rst_new y pi pn v1 v2 v3).mono ?_
            rintro e w4 ⟨b, rfl, hb, hlb, hk4⟩
            have hk24 := HA.out.2.2.trans hk4 (by simp)
            have hle := HA.out.2.2.size
            have HR4 := Lib.hid (HR3.out.renew hj4 (p := some (a, St.new pi pn)) (q := some (b, St.new pi pn)) hk24 ⟨Blk.keeps HA.out.1 hk4 (by simp), HA.out.2.1⟩ ⟨hb, by omega⟩)
            have bxx := HR3.out.xs.keeps hk24 (by simp)
            have byy := HR3.out.ys.keeps hk24 (by simp)
            have hxy : xb ≠ yb := bxx.ne_ byy (by decide)
            have hyx : yb ≠ xb := hxy.symm
            have cx : w4.cell? ⟨xb, j, none⟩ = some (pv (M j)) := (bxx.cell j).trans (arr_get M hj4)
            have cy : w4.cell? ⟨yb, j, none⟩ = some (pv (N j)) := (byy.cell j).trans (arr_get N hj4)
            have fx := bxx.frozen j
            have fy := byy.frozen j
            clear hb hlb hk4 hk24 hle bxx byy HA d0 d2 d3
            go_wp2_with fail
            have e9 : ((w4.setCell ⟨xb, j, none⟩ (pv (some (a, St.new pi pn)))).setCell ⟨yb, j, none⟩ (pv (some (b, St.new pi pn)))) = ((w4.setCell ⟨xb, j, none⟩ (PT a)).setCell ⟨yb, j, none⟩ (PT b)) := rfl
            rw [e9] at HR4
            clear e9 cx cy fx fy hxy hyx
            generalize ((w4.setCell ⟨xb, j, none⟩ (PT a)).setCell ⟨yb, j, none⟩ (PT b)) = w5 at *
            have HQ := HR4
            have HJ : Hid (St.J cf.slots (St.new pi pn)) := HCF1.out ▸ St.new_J pi pn HSL.out.2
            replace HP := Lib.hid (HP.out.set j (a := a) (b := b) HJ.out)
            have HF := Lib.hid HF1.out.succ
            have HCF := HCF1
            clear HR4 HR3 HF1 HCF1 HSL HJ
            obtain ⟨S9, hS9⟩ : ∃ v, S1 = v := ⟨_, rfl⟩
            rw [hS9] at HQ HF HCF
            clear hS9
            rcases HP.out j with ⟨e1, e2⟩ | ⟨a9, b9, x9, e1, e2, hJ9⟩
            · as_aux_lemma =>
                have cx := cx_none HQ.out hj4 e1
                have cy := cy_none HQ.out hj4 e2
                go_wp2_with fail
                go_quiet (fail)
                go_wp2_with fail
                exact ⟨⟨k + 1, S9, _, _, by omega, by simp, (HQ.out.left).calm ((Keeps.refl [] w5).drewN _), HF.out, HCF.out, HP.out⟩, by simp [intOf]; omega⟩
            · as_aux_lemma =>
                have QT := Lib.hid (fun w' (hk : Keeps [] w5 w') => told_rig HQ.out e1 e2 hJ9 hk)
                have HC := Lib.hid (show ∀ w', Keeps [] w5 w' → w'.cell? ⟨xb, j, none⟩ = some (PT a9) ∧ w'.cell? ⟨yb, j, none⟩ = some (PT b9) from fun w' hk => ⟨cx_some (HQ.out.calm hk) hj4 e1, cy_some (HQ.out.calm hk) hj4 e2⟩)
                have hkB : Keeps [] w5 w5 := Keeps.refl _ _
                clear e1 e2 hJ9
                go_wp2_with fail
                go_region_held3 (fun w' => w'.cell? ⟨xb, j, none⟩ = some (PT a9) ∧ w'.cell? ⟨yb, j, none⟩ = some (PT b9)) (first | with_reducible exact HC.out _ (by first | with_reducible assumption | with_reducible exact Keeps.drew (by with_reducible assumption)) | go_keep) ((go_at_call 67; (with_reducible refine (QT.out _ (by first | with_reducible assumption | with_reducible exact Keeps.drew (by with_reducible assumption))).mono ?_); rintro e wt ⟨rfl, hkt⟩))
                all_goals
                  go_wp2_with fail
                  exact ⟨⟨k + 1, S9, _, _, by omega, by simp, (HQ.out.left).calm (by first | with_reducible assumption | with_reducible exact Keeps.drew (by with_reducible assumption)), HF.out, HCF.out, HP.out⟩, by simp [intOf]; omega⟩
          · have hvb : pi < 1 ∨ 8 < pi ∨ pn < 1 := by omega
            clear hv
            go_wp2_with fail
            refine (st_new_bad z pi pn hvb).mono ?_
            rintro e w3 ⟨rfl, rfl⟩
            go_wp2_with fail
            refine (rst_new_bad y pi pn hvb).mono ?_
            rintro e w4 ⟨rfl, rfl⟩
            have HR4 := Lib.hid (HR3.out.renew hj4 (p := none) (q := none) (Keeps.refl [] _) trivial trivial)
            have bxx := HR3.out.xs
            have byy := HR3.out.ys
            have hxy : xb ≠ yb := bxx.ne_ byy (by decide)
            have hyx : yb ≠ xb := hxy.symm
            have cx : w2.cell? ⟨xb, j, none⟩ = some (pv (M j)) := (bxx.cell j).trans (arr_get M hj4)
            have cy : w2.cell? ⟨yb, j, none⟩ = some (pv (N j)) := (byy.cell j).trans (arr_get N hj4)
            have fx := bxx.frozen j
            have fy := byy.frozen j
            clear bxx byy d0 d2 d3 d4
            go_wp2_with fail
            have e9 : ((w2.setCell ⟨xb, j, none⟩ (pv none)).setCell ⟨yb, j, none⟩ (pv none)) = ((w2.setCell ⟨xb, j, none⟩ (.pointer none)).setCell ⟨yb, j, none⟩ (.pointer none)) := rfl
            rw [e9] at HR4
            clear e9 cx cy fx fy hxy hyx
            generalize ((w2.setCell ⟨xb, j, none⟩ (.pointer none)).setCell ⟨yb, j, none⟩ (.pointer none)) = w5 at *
            have HQ := HR4
            replace HP := Lib.hid (HP.out.unset j)
            have HF := Lib.hid HF1.out.succ
            have HCF := HCF1
            clear HR4 HR3 HF1 HCF1 HSL hvb
            obtain ⟨S9, hS9⟩ : ∃ v, S1 = v := ⟨_, rfl⟩
            rw [hS9] at HQ HF HCF
            clear hS9
            rcases HP.out j with ⟨e1, e2⟩ | ⟨a9, b9, x9, e1, e2, hJ9⟩
            · as_aux_lemma =>
                have cx := cx_none HQ.out hj4 e1
                have cy := cy_none HQ.out hj4 e2
                go_wp2_with fail
                go_quiet (fail)
                go_wp2_with fail
                exact ⟨⟨k + 1, S9, _, _, by omega, by simp, (HQ.out.left).calm ((Keeps.refl [] w5).drewN _), HF.out, HCF.out, HP.out⟩, by simp [intOf]; omega⟩
            · as_aux_lemma =>
                have QT := Lib.hid (fun w' (hk : Keeps [] w5 w') => told_rig HQ.out e1 e2 hJ9 hk)
                have HC := Lib.hid (show ∀ w', Keeps [] w5 w' → w'.cell? ⟨xb, j, none⟩ = some (PT a9) ∧ w'.cell? ⟨yb, j, none⟩ = some (PT b9) from fun w' hk => ⟨cx_some (HQ.out.calm hk) hj4 e1, cy_some (HQ.out.calm hk) hj4 e2⟩)
                have hkB : Keeps [] w5 w5 := Keeps.refl _ _
                clear e1 e2 hJ9
                go_wp2_with fail
                go_region_held3 (fun w' => w'.cell? ⟨xb, j, none⟩ = some (PT a9) ∧ w'.cell? ⟨yb, j, none⟩ = some (PT b9)) (first | with_reducible exact HC.out _ (by first | with_reducible assumption | with_reducible exact Keeps.drew (by with_reducible assumption)) | go_keep) ((go_at_call 67; (with_reducible refine (QT.out _ (by first | with_reducible assumption | with_reducible exact Keeps.drew (by with_reducible assumption))).mono ?_); rintro e wt ⟨rfl, hkt⟩))
                all_goals
                  go_wp2_with fail
                  exact ⟨⟨k + 1, S9, _, _, by omega, by simp, (HQ.out.left).calm (by first | with_reducible assumption | with_reducible exact Keeps.drew (by with_reducible assumption)), HF.out, HCF.out, HP.out⟩, by simp [intOf]; omega⟩
        have n20 : (kd == 20) = false := by simpa using e20
        by_cases e21 : kd = 21
        · subst e21
          rcases HP.out j with ⟨e1, e2⟩ | ⟨a, b, x, e1, e2, hJ⟩
          · have cx := cx_none HR3.out hj4 e1
            clear d2 d3 d4
            go_wp2_with fail
            exact ⟨⟨k + 1, S1, M, N, by omega, by simp, HR3.out.left, HF1.out.succ, HCF1.out, HP.out⟩, by simp [intOf]; omega⟩
          · have cx := cx_some HR3.out hj4 e1
            have cy := cy_some HR3.out hj4 e2
            have HE := Lib.hid (And.intro e1 (And.intro e2 hJ))
            have QP := Lib.hid (HR3.out.step e1 HF1.out (by omega) hJ.ok)
            clear e1 e2 hJ d2 d3 d4
            go_wp2_with fail
            refine QP.out.mono ?_
            rintro e w3 ⟨rfl, hr4⟩
            have HR4 := Lib.hid hr4
            have HJx : Hid (x.J S1.c.slots) := by rw [HCF1.out]; exact HE.out.2.2
            have hst := HJx.out.step HF1.out HSL.out.1
            obtain ⟨ans, hans⟩ : ∃ v, (x.step S1).1 = v := ⟨_, rfl⟩
            rw [hans]
            have QD : Hid (∀ w', Keeps [] w3 w' → Calls Tryz.prog 65 #[PT b] w' fun e w'' => e = .returned (.int .i64 ans) ∧ Rig w w'' z y xb yb (some (bo, #[.int .i64 21, .int .i64 mm, .int .i64 pi, .int .i64 pn, .int .i64 px])) (x.step S1).2.2 (x.step S1).2.2 (upd' M j (some (a, (x.step S1).2.1))) (upd' N j (some (b, (x.step S1).2.1)))) := fun w' hk => by
              have := (hr4.calm hk).dstep HE.out.2.1 HF1.out (by omega) HJx.out
              rw [hans] at this
              exact this
            have HC := Lib.hid (show ∀ w', Keeps [] w3 w' → w'.cell? ⟨yb, j, none⟩ = some (PT b) ∧ w'.cell? ⟨z.p, 0, none⟩ = some (PT z.m) ∧ w'.cell? ⟨y.p, 6, none⟩ = some (PT y.m) from fun w' hk => ⟨cy_some (hr4.calm hk) hj4 HE.out.2.1, rig_zc (hr4.calm hk), rig_yc (hr4.calm hk)⟩)
            have hkB : Keeps [] w3 w3 := Keeps.refl _ _
            have HF := Lib.hid (HF1.out.step x)
            have HCF : Hid ((x.step S1).2.2.c = cf) := (step_c x S1).trans HCF1.out
            have HPn : Hid (Pair (upd' M j (some (a, (x.step S1).2.1))) (upd' N j (some (b, (x.step S1).2.1))) cf.slots) := HP.out.set j (by rw [← HCF1.out]; exact hst)
            replace HP := HPn
            clear HPn hst hr4 hans QP HR3 HF1 HCF1 HSL HJx HE cx cy d0
            generalize (x.step S1).2.1 = x' at *
            generalize (x.step S1).2.2 = S' at *
            go_wp2_with fail
            refine wp_region_noPanic ?_
            refine wp_region_L 99 (fun w' => w'.cell? ⟨yb, j, none⟩ = some (PT b) ∧ w'.cell? ⟨z.p, 0, none⟩ = some (PT z.m) ∧ w'.cell? ⟨y.p, 6, none⟩ = some (PT y.m)) (by kernel_rfl) ?_
            have hHeld := HC.out _ hkB.drew
            refine wpAnyL_takeT (i := 0) (v := ?rv0) rfl (by kernel_rfl) (by kernel_rfl) (by kernel_rfl) (by kernel_rfl) (fun _ _ _ h => h) (Or.inl ⟨by rfl, ?ry0⟩) hHeld ?rr0
            case ry0 => (intro w' hSw; (try dsimp only at hSw); go_simp; first | done | with_reducible rfl)
            case' rr0 => (try simp only [Act.put, List.setIfInBounds_toArray, List.set_cons_zero, List.set_cons_succ])
            refine wpAnyL_takeT (i := 1) (v := ?rv1) rfl (by kernel_rfl) (by kernel_rfl) (by kernel_rfl) (by kernel_rfl) (fun _ _ _ h => h) (Or.inl ⟨by rfl, ?ry1⟩) hHeld ?rr1
            case ry1 => (intro w' hSw; (try dsimp only at hSw); go_simp; first | done | with_reducible rfl)
            case' rr1 => (try simp only [Act.put, List.setIfInBounds_toArray, List.set_cons_zero, List.set_cons_succ])
            refine wpAnyL_takeT (i := 2) (v := ?rv2) rfl (by kernel_rfl) (by kernel_rfl) (by kernel_rfl) (by kernel_rfl) (fun _ _ _ h => h) (Or.inl ⟨by rfl, ?ry2⟩) hHeld ?rr2
            case ry2 => (intro w' hSw; (try dsimp only at hSw); go_simp; first | done | with_reducible rfl)
            case' rr2 => (try simp only [Act.put, List.setIfInBounds_toArray, List.set_cons_zero, List.set_cons_succ])
            refine wpAnyL_takeT (i := 3) (v := ?rv3) rfl (by kernel_rfl) (by kernel_rfl) (by kernel_rfl) (by kernel_rfl) (fun _ _ _ h => h) (Or.inl ⟨by rfl, ?ry3⟩) hHeld ?rr3
            case ry3 => (intro w' hSw; (try dsimp only at hSw); go_simp; first | done | with_reducible rfl)
            case' rr3 => (try simp only [Act.put, List.setIfInBounds_toArray, List.set_cons_zero, List.set_cons_succ])
            refine wpAnyL_oneT (i := 4) (by kernel_rfl) rfl (fun K hK => ?_)
            go_simp
            go_at_call 65
            refine (QD.out _ hkB.drew).mono ?_
            rintro e w5 ⟨rfl, hr5⟩
            have hS5 : w5.cell? ⟨yb, j, none⟩ = some (PT b) ∧ w5.cell? ⟨z.p, 0, none⟩ = some (PT z.m) ∧ w5.cell? ⟨y.p, 6, none⟩ = some (PT y.m) := ⟨cy_some hr5 hj4 (upd_at _ _ _), rig_zc hr5, rig_yc hr5⟩
            go_simp
            refine hK.out _ _ (fun _ => hS5) ?_
            clear hK K
            try simp only [Act.put, List.setIfInBounds_toArray, List.set_cons_zero, List.set_cons_succ]
            replace hHeld := hS5
            clear hS5
            have HQ := Lib.hid hr5
            have cm2 := rig_done_cell hr5
            have QM := Lib.hid (rig_done_call hr5)
            clear hr5
            refine wpAnyL_takeT (i := 5) (v := ?rv5) rfl (by kernel_rfl) (by kernel_rfl) (by kernel_rfl) (by kernel_rfl) (fun _ _ _ h => h) (Or.inl ⟨by rfl, ?ry5⟩) hHeld ?rr5
            case ry5 => (intro w' hSw; (try dsimp only at hSw); go_simp; first | done | with_reducible rfl)
            case' rr5 => (try simp only [Act.put, List.setIfInBounds_toArray, List.set_cons_zero, List.set_cons_succ])
            refine wpAnyL_takeT (i := 6) (v := ?rv6) rfl (by kernel_rfl) (by kernel_rfl) (by kernel_rfl) (by kernel_rfl) (fun _ _ _ h => h) (Or.inl ⟨by rfl, ?ry6⟩) hHeld ?rr6
            case ry6 => (intro w' hSw; (try dsimp only at hSw); go_simp; first | done | with_reducible rfl)
            case' rr6 => (try simp only [Act.put, List.setIfInBounds_toArray, List.set_cons_zero, List.set_cons_succ])
            refine wpAnyL_takeT (i := 7) (v := ?rv7) rfl (by kernel_rfl) (by kernel_rfl) (by kernel_rfl) (by kernel_rfl) (fun _ _ _ h => h) (Or.inl ⟨by rfl, ?ry7⟩) hHeld ?rr7
            case ry7 => (intro w' hSw; (try dsimp only at hSw); go_simp; first | done | with_reducible rfl)
            case' rr7 => (try simp only [Act.put, List.setIfInBounds_toArray, List.set_cons_zero, List.set_cons_succ])
            refine wpAnyL_takeT (i := 8) (v := ?rv8) rfl (by kernel_rfl) (by kernel_rfl) (by kernel_rfl) (by kernel_rfl) (fun _ _ _ h => h) (Or.inl ⟨by rfl, ?ry8⟩) hHeld ?rr8
            case ry8 => (intro w' hSw; (try dsimp only at hSw); go_simp; first | done | with_reducible rfl)
            case' rr8 => (try simp only [Act.put, List.setIfInBounds_toArray, List.set_cons_zero, List.set_cons_succ])
            refine wpAnyL_takeT (i := 9) (v := ?rv9) rfl (by kernel_rfl) (by kernel_rfl) (by kernel_rfl) (by kernel_rfl) (fun _ _ _ h => h) (Or.inl ⟨by rfl, ?ry9⟩) hHeld ?rr9
            case ry9 => (intro w' hSw; (try dsimp only at hSw); go_simp; first | done | with_reducible rfl)
            case' rr9 => (try simp only [Act.put, List.setIfInBounds_toArray, List.set_cons_zero, List.set_cons_succ])
            refine wpAnyL_takeT (i := 10) (v := ?rv10) rfl (by kernel_rfl) (by kernel_rfl) (by kernel_rfl) (by kernel_rfl) (fun _ _ _ h => h) (Or.inl ⟨by rfl, ?ry10⟩) hHeld ?rr10
            case ry10 => (intro w' hSw; (try dsimp only at hSw); go_simp; first | done | with_reducible rfl)
            case' rr10 => (try simp only [Act.put, List.setIfInBounds_toArray, List.set_cons_zero, List.set_cons_succ])
            refine wpAnyL_takeT (i := 12) (v := ?rv12) rfl (by kernel_rfl) (by kernel_rfl) (by kernel_rfl) (by kernel_rfl) (fun _ _ _ h => h) (Or.inl ⟨by rfl, ?ry12⟩) hHeld ?rr12
            case ry12 => (intro w' hSw; (try dsimp only at hSw); go_simp; first | done | with_reducible rfl)
            case' rr12 => (try simp only [Act.put, List.setIfInBounds_toArray, List.set_cons_zero, List.set_cons_succ])
            refine wpAnyL_takeT (i := 13) (v := ?rv13) rfl (by kernel_rfl) (by kernel_rfl) (by kernel_rfl) (by kernel_rfl) (fun _ _ _ h => h) (Or.inl ⟨by rfl, ?ry13⟩) hHeld ?rr13
            case ry13 => (intro w' hSw; (try dsimp only at hSw); go_simp; first | done | with_reducible rfl)
            case' rr13 => (try simp only [Act.put, List.setIfInBounds_toArray, List.set_cons_zero, List.set_cons_succ])
            refine wpAnyL_takeT (i := 14) (v := ?rv14) rfl (by kernel_rfl) (by kernel_rfl) (by kernel_rfl) (by kernel_rfl) (fun _ _ _ h => h) (Or.inl ⟨by rfl, ?ry14⟩) hHeld ?rr14
            case ry14 => (intro w' hSw; (try dsimp only at hSw); go_simp; first | done | with_reducible rfl)
            case' rr14 => (try simp only [Act.put, List.setIfInBounds_toArray, List.set_cons_zero, List.set_cons_succ])
            refine wpAnyL_takeT (i := 15) (v := ?rv15) rfl (by kernel_rfl) (by kernel_rfl) (by kernel_rfl) (by kernel_rfl) (fun _ _ _ h => h) (Or.inl ⟨by rfl, ?ry15⟩) hHeld ?rr15
            case ry15 => (intro w' hSw; (try dsimp only at hSw); go_simp; first | done | with_reducible rfl)
            case' rr15 => (try simp only [Act.put, List.setIfInBounds_toArray, List.set_cons_zero, List.set_cons_succ])
            refine wpAnyL_takeT (i := 16) (v := ?rv16) rfl (by kernel_rfl) (by kernel_rfl) (by kernel_rfl) (by kernel_rfl) (fun _ _ _ h => h) (Or.inl ⟨by rfl, ?ry16⟩) hHeld ?rr16
            case ry16 => (intro w' hSw; (try dsimp only at hSw); go_simp; first | done | with_reducible rfl)
            case' rr16 => (try simp only [Act.put, List.setIfInBounds_toArray, List.set_cons_zero, List.set_cons_succ])
            refine wpAnyL_takeT (i := 17) (v := ?rv17) rfl (by kernel_rfl) (by kernel_rfl) (by kernel_rfl) (by kernel_rfl) (fun _ _ _ h => h) (Or.inl ⟨by rfl, ?ry17⟩) hHeld ?rr17
            case ry17 => (intro w' hSw; (try dsimp only at hSw); go_simp; first | done | with_reducible rfl)
            case' rr17 => (try simp only [Act.put, List.setIfInBounds_toArray, List.set_cons_zero, List.set_cons_succ])
            refine wpAnyL_twoT (i := 11) (j := 18) (by kernel_rfl) rfl rfl (fun K hK => ?_) (fun K hK => ?_)
            · go_simp
              go_at_call 48
              refine (QM.out).mono ?_
              rintro e w6 ⟨rfl, rfl⟩
              go_simp
              refine hK.out _ _ (fun _ => hHeld) ?_
              clear hK K
              try simp only [Act.put, List.setIfInBounds_toArray, List.set_cons_zero, List.set_cons_succ]
              refine wpAnyL_oneT (i := 18) (by kernel_rfl) rfl (fun K hK => ?_)
              go_simp
              refine hK.out _ _ (fun _ => hHeld) ?_
              clear hK K
              try simp only [Act.put, List.setIfInBounds_toArray, List.set_cons_zero, List.set_cons_succ]
              refine wpAnyL_takeT (i := 19) (v := ?rv19) rfl (by kernel_rfl) (by kernel_rfl) (by kernel_rfl) (by kernel_rfl) (fun _ _ _ h => h) (Or.inl ⟨by rfl, ?ry19⟩) hHeld ?rr19
              case ry19 => (intro w' hSw; (try dsimp only at hSw); go_simp; first | done | with_reducible rfl)
              case' rr19 => (try simp only [Act.put, List.setIfInBounds_toArray, List.set_cons_zero, List.set_cons_succ])
              refine wpAnyL_takeT (i := 20) (v := ?rv20) rfl (by kernel_rfl) (by kernel_rfl) (by kernel_rfl) (by kernel_rfl) (fun _ _ _ h => h) (Or.inl ⟨by rfl, ?ry20⟩) hHeld ?rr20
              case ry20 => (intro w' hSw; (try dsimp only at hSw); go_simp; first | done | with_reducible rfl)
              case' rr20 => (try simp only [Act.put, List.setIfInBounds_toArray, List.set_cons_zero, List.set_cons_succ])
              refine wpAnyL_done (by kernel_rfl) ?_ _
              refine NoPanic.normal ?_
              obtain ⟨S9, hS9⟩ : ∃ v, S' = v := ⟨_, rfl⟩
              rw [hS9] at HQ HF HCF
              clear hS9
              rcases HP.out j with ⟨e1, e2⟩ | ⟨a9, b9, x9, e1, e2, hJ9⟩
              · as_aux_lemma =>
                  have cx := cx_none HQ.out hj4 e1
                  have cy := cy_none HQ.out hj4 e2
                  go_wp2_with fail
                  go_quiet (fail)
                  go_wp2_with fail
                  exact ⟨⟨k + 1, S9, _, _, by omega, by simp, (HQ.out.left).calm ((Keeps.refl [] w5).drewN _), HF.out, HCF.out, HP.out⟩, by simp [intOf]; omega⟩
              · as_aux_lemma =>
                  have QT := Lib.hid (fun w' (hk : Keeps [] w5 w') => told_rig HQ.out e1 e2 hJ9 hk)
                  have HC := Lib.hid (show ∀ w', Keeps [] w5 w' → w'.cell? ⟨xb, j, none⟩ = some (PT a9) ∧ w'.cell? ⟨yb, j, none⟩ = some (PT b9) from fun w' hk => ⟨cx_some (HQ.out.calm hk) hj4 e1, cy_some (HQ.out.calm hk) hj4 e2⟩)
                  have hkB : Keeps [] w5 w5 := Keeps.refl _ _
                  clear e1 e2 hJ9
                  go_wp2_with fail
                  go_region_held3 (fun w' => w'.cell? ⟨xb, j, none⟩ = some (PT a9) ∧ w'.cell? ⟨yb, j, none⟩ = some (PT b9)) (first | with_reducible exact HC.out _ (by first | with_reducible assumption | with_reducible exact Keeps.drew (by with_reducible assumption)) | go_keep) ((go_at_call 67; (with_reducible refine (QT.out _ (by first | with_reducible assumption | with_reducible exact Keeps.drew (by with_reducible assumption))).mono ?_); rintro e wt ⟨rfl, hkt⟩))
                  all_goals
                    go_wp2_with fail
                    exact ⟨⟨k + 1, S9, _, _, by omega, by simp, (HQ.out.left).calm (by first | with_reducible assumption | with_reducible exact Keeps.drew (by with_reducible assumption)), HF.out, HCF.out, HP.out⟩, by simp [intOf]; omega⟩
            · go_simp
              refine hK.out _ _ (fun _ => hHeld) ?_
              clear hK K
              try simp only [Act.put, List.setIfInBounds_toArray, List.set_cons_zero, List.set_cons_succ]
              refine wpAnyL_oneT (i := 11) (by kernel_rfl) rfl (fun K hK => ?_)
              go_simp
              go_at_call 48
              refine (QM.out).mono ?_
              rintro e w6 ⟨rfl, rfl⟩
              go_simp
              refine hK.out _ _ (fun _ => hHeld) ?_
              clear hK K
              try simp only [Act.put, List.setIfInBounds_toArray, List.set_cons_zero, List.set_cons_succ]
              refine wpAnyL_takeT (i := 19) (v := ?rvb19) rfl (by kernel_rfl) (by kernel_rfl) (by kernel_rfl) (by kernel_rfl) (fun _ _ _ h => h) (Or.inl ⟨by rfl, ?ryb19⟩) hHeld ?rrb19
              case ryb19 => (intro w' hSw; (try dsimp only at hSw); go_simp; first | done | with_reducible rfl)
              case' rrb19 => (try simp only [Act.put, List.setIfInBounds_toArray, List.set_cons_zero, List.set_cons_succ])
              refine wpAnyL_takeT (i := 20) (v := ?rvb20) rfl (by kernel_rfl) (by kernel_rfl) (by kernel_rfl) (by kernel_rfl) (fun _ _ _ h => h) (Or.inl ⟨by rfl, ?ryb20⟩) hHeld ?rrb20
              case ryb20 => (intro w' hSw; (try dsimp only at hSw); go_simp; first | done | with_reducible rfl)
              case' rrb20 => (try simp only [Act.put, List.setIfInBounds_toArray, List.set_cons_zero, List.set_cons_succ])
              refine wpAnyL_done (by kernel_rfl) ?_ _
              refine NoPanic.normal ?_
              obtain ⟨S9, hS9⟩ : ∃ v, S' = v := ⟨_, rfl⟩
              rw [hS9] at HQ HF HCF
              clear hS9
              rcases HP.out j with ⟨e1, e2⟩ | ⟨a9, b9, x9, e1, e2, hJ9⟩
              · as_aux_lemma =>
                  have cx := cx_none HQ.out hj4 e1
                  have cy := cy_none HQ.out hj4 e2
                  go_wp2_with fail
                  go_quiet (fail)
                  go_wp2_with fail
                  exact ⟨⟨k + 1, S9, _, _, by omega, by simp, (HQ.out.left).calm ((Keeps.refl [] w5).drewN _), HF.out, HCF.out, HP.out⟩, by simp [intOf]; omega⟩
              · as_aux_lemma =>
                  have QT := Lib.hid (fun w' (hk : Keeps [] w5 w') => told_rig HQ.out e1 e2 hJ9 hk)
                  have HC := Lib.hid (show ∀ w', Keeps [] w5 w' → w'.cell? ⟨xb, j, none⟩ = some (PT a9) ∧ w'.cell? ⟨yb, j, none⟩ = some (PT b9) from fun w' hk => ⟨cx_some (HQ.out.calm hk) hj4 e1, cy_some (HQ.out.calm hk) hj4 e2⟩)
                  have hkB : Keeps [] w5 w5 := Keeps.refl _ _
                  clear e1 e2 hJ9
                  go_wp2_with fail
                  go_region_held3 (fun w' => w'.cell? ⟨xb, j, none⟩ = some (PT a9) ∧ w'.cell? ⟨yb, j, none⟩ = some (PT b9)) (first | with_reducible exact HC.out _ (by first | with_reducible assumption | with_reducible exact Keeps.drew (by with_reducible assumption)) | go_keep) ((go_at_call 67; (with_reducible refine (QT.out _ (by first | with_reducible assumption | with_reducible exact Keeps.drew (by with_reducible assumption))).mono ?_); rintro e wt ⟨rfl, hkt⟩))
                  all_goals
                    go_wp2_with fail
                    exact ⟨⟨k + 1, S9, _, _, by omega, by simp, (HQ.out.left).calm (by first | with_reducible assumption | with_reducible exact Keeps.drew (by with_reducible assumption)), HF.out, HCF.out, HP.out⟩, by simp [intOf]; omega⟩
        · have n21 : (kd == 21) = false := by simpa using e21
          have QR := Lib.hid (HR3.out.raw HF1.out (by omega) kd mm pi pn px)
          have bx := HR3.out.box
          have d1 : w2.cell? ⟨bo, 1, none⟩ = some (.int .i64 mm) := (bx.cell 1).trans rfl
          clear bx
          go_wp2_with fail
          refine QR.out.mono ?_
          rintro e w3 ⟨rfl, hr4⟩
          have HQ := Lib.hid hr4
          have HF := Lib.hid (HF1.out.raw kd pi pn px)
          have HCF : Hid ((S1.raw kd pi pn px).c = cf) := (raw_c S1 kd pi pn px).trans HCF1.out
          clear hr4 QR HR3 HF1 HCF1 HSL d0 d1 d2 d3 d4 n20 n21 e20 e21
          obtain ⟨S9, hS9⟩ : ∃ v, (S1.raw kd pi pn px) = v := ⟨_, rfl⟩
          rw [hS9] at HQ HF HCF
          clear hS9
          rcases HP.out j with ⟨e1, e2⟩ | ⟨a9, b9, x9, e1, e2, hJ9⟩
          · as_aux_lemma =>
              have cx := cx_none HQ.out hj4 e1
              have cy := cy_none HQ.out hj4 e2
              go_wp2_with fail
              go_quiet (fail)
              go_wp2_with fail
              exact ⟨⟨k + 1, S9, _, _, by omega, by simp, (HQ.out.left).calm ((Keeps.refl [] w3).drewN _), HF.out, HCF.out, HP.out⟩, by simp [intOf]; omega⟩
          · as_aux_lemma =>
              have QT := Lib.hid (fun w' (hk : Keeps [] w3 w') => told_rig HQ.out e1 e2 hJ9 hk)
              have HC := Lib.hid (show ∀ w', Keeps [] w3 w' → w'.cell? ⟨xb, j, none⟩ = some (PT a9) ∧ w'.cell? ⟨yb, j, none⟩ = some (PT b9) from fun w' hk => ⟨cx_some (HQ.out.calm hk) hj4 e1, cy_some (HQ.out.calm hk) hj4 e2⟩)
              have hkB : Keeps [] w3 w3 := Keeps.refl _ _
              clear e1 e2 hJ9
              go_wp2_with fail
              go_region_held3 (fun w' => w'.cell? ⟨xb, j, none⟩ = some (PT a9) ∧ w'.cell? ⟨yb, j, none⟩ = some (PT b9)) (first | with_reducible exact HC.out _ (by first | with_reducible assumption | with_reducible exact Keeps.drew (by with_reducible assumption)) | go_keep) ((go_at_call 67; (with_reducible refine (QT.out _ (by first | with_reducible assumption | with_reducible exact Keeps.drew (by with_reducible assumption))).mono ?_); rintro e wt ⟨rfl, hkt⟩))
              all_goals
                go_wp2_with fail
                exact ⟨⟨k + 1, S9, _, _, by omega, by simp, (HQ.out.left).calm (by first | with_reducible assumption | with_reducible exact Keeps.drew (by with_reducible assumption)), HF.out, HCF.out, HP.out⟩, by simp [intOf]; omega⟩
      · skip
        have hge : ¬ ((k : Int) < (n : Int)) := by omega
        have QS := Lib.hid (HC0.out.same HF0.out (by omega))
        have HKP := Lib.hid HC0.out.keep
        clear HC0 HF0 HCF0 HP
        go_wp2_with fail
        refine QS.out.mono ?_
        rintro e wf ⟨rfl, hkf⟩
        go_wp2_with fail
        go_ret
        exact ⟨rfl, (HKP.out.trans hkf (by simp)).below (by simp) (Nat.le_refl _)⟩
  · refine (sp_new_bad w1 cf hok).mono ?_
    rintro e w2 ⟨rfl, hk2⟩
    have HK2 : Hid (Keeps [] w w2) := HK1.out.trans hk2 (by simp)
    have HB2 : Hid (Blk w2 w.heap.size 23 cf.vals) := HB1.out.keeps hk2 (by simp)
    clear hk2 d0 d1 d2 d3 d4 d5 HB1 HK1
    obtain ⟨d0, d1, d2, d3, d4, d5⟩ := cf_cells HB2.out
    go_wp2_with fail
    refine (rp_new_bad w2 cf hok).mono ?_
    rintro e w3 ⟨rfl, hk3⟩
    have HK3 : Hid (Keeps [] w w3) := HK2.out.trans hk3 (by simp)
    clear hk3
    go_wp2_with fail
    go_ret
    exact ⟨rfl, HK3.out.below (by simp) (Nat.le_refl _)⟩

theorem own : ownKnob Tryz.prog.godebug = none := by kernel_rfl
theorem laidOut : laidOutB Tryz.prog = true := by kernel_rfl
set_option maxRecDepth 100000 in
theorem lifted (os : Os) (started : os.Started) (H : Type) (enc : TypeId × Value → H) (F : Stop.Interp) :
    ReturnsInHanded {} Tryz.checked os 10 .any ((Rows.OpenSpec.upto Rows.startPlaysSpec).pre6 enc Tryz.prog Tryz.f10 Rows.startPlaysUptoRow.domain false) (((Rows.OpenSpec.upto Rows.startPlaysSpec).at F).post enc Tryz.prog Tryz.f10 false true false false) := by
  refine returnsInHanded_of_cond (C := Tryz.checked) (s := Rows.OpenSpec.upto Rows.startPlaysSpec) (k := Rows.uptoSmall) rfl own started (by kernel_rfl) Tryz.func10
    (OpenSpec.witness (enc := enc) (C := Tryz.checked) (s := Rows.OpenSpec.upto Rows.startPlaysSpec) (k := Rows.uptoSmall) rfl false ⟨#[], #[.agg #[.int .i64 0, .int .i64 0, .int .i64 0, .int .i64 0, .int .i64 0, .int .i64 0], .slice none 0 0], []⟩ 8 (by kernel_rfl) (by kernel_rfl) (by kernel_rfl)
      (x := ([.agg [.lit (.int .i64 0), .lit (.int .i64 0), .lit (.int .i64 0), .lit (.int .i64 0), .lit (.int .i64 0), .lit (.int .i64 0)], .nil], [], [])) (by kernel_rfl) rfl (by kernel_rfl)) ?_
  intro W base args ds gs before hval0 hW _ hk _
  have hval : ∀ (j : Nat) t v, Tryz.f10.params[j]? = some t → args[j]? = some v → Value.okWide Tryz.prog W .any base t v := hval0
  have hW' := hW
  obtain ⟨p, q, hA0, hV, rfl, hfz, hnd⟩ := hW
  have hA : DataW.TrodAll enc Tryz.prog W 0 (fun _ => true) true Tryz.f10.params.toList args.toList ds p := hA0
  rw [Tryz.params10] at hA hval
  obtain ⟨v0, vs0, d0, ds0, p0, q0, hargs, rfl, rfl, h0, r0⟩ := trodAll_cons hA
  obtain ⟨v1, vs1, d1, ds1, p1, q1, rfl, rfl, rfl, h1, r1⟩ := trodAll_cons r0
  obtain ⟨rfl, rfl, rfl⟩ := trodAll_nil r1
  obtain rfl : args = #[v0, v1] := by cases args; simp_all
  obtain ⟨rfl, rfl⟩ := trodVars_none hV
  have k0 := h0
  have lt0 : ∀ x ∈ p0, x.block < W.heap.size := by obtain ⟨m, hm⟩ := k0; exact DataW.trod_lt m _ _ _ hm
  obtain ⟨cf0, rfl⟩ := cfg_open (hval 0 23 v0 rfl rfl) h0
  have k1 := h1
  have lt1 : ∀ x ∈ p1, x.block < W.heap.size := by obtain ⟨m, hm⟩ := k1; exact DataW.trod_lt m _ _ _ hm
  obtain ⟨A1, n1, c1, rfl⟩ := okWide_slice Tryz.underlying132 (hval 1 132 v1 rfl rfl)
  obtain ⟨ops1, s1⟩ : ∃ ops, Script10 W A1 n1 c1 ops := by
    obtain ⟨fuel, hf⟩ := h1
    exact script10_open hf (bulks.small hk (by simp))
  clear hA0 hval0
  refine (walk cf0 A1 n1 c1 ops1 W  s1).mono fun e W' ⟨he, bel⟩ => ?_
  subst he
  exact ⟨_, rfl, _, _, _, [], _, [], hW', trodAll_mk1 (shut_bool Tryz.underlying4 _), (trodAll_cons_mk (Below.trod laidOut (by kernel_rfl) (of_decide_eq_true (by kernel_rfl)) k0 bel lt0) (trodAll_cons_mk (Below.trod laidOut (by kernel_rfl) (of_decide_eq_true (by kernel_rfl)) k1 bel lt1) trodAll_mk0)), rfl, bel.frame _, fun h => by cases h⟩

/-- The statement: the second form. -/
theorem proved : Rows.StartPlaysUptoSaid :=
  OpenClaim.holds_of_cond 10 Tryz.f10 rfl rfl rfl rfl rfl rfl rfl ⟨rfl, rfl, rfl, rfl, rfl⟩ rfl rfl rfl rfl rfl (by kernel_rfl) Tryz.func10 (by kernel_rfl)
    (of_decide_eq_true (by kernel_rfl)) (by unfold Func.isWrapper; first | (rw [if_pos (by decide +kernel)]; kernel_rfl) | (rw [if_neg (by decide +kernel)]; exact ⟨rfl, rfl⟩))
    (fun os started H enc _ F => lifted os started H enc F)
#print axioms proved
end Go.Proofs.YtdhgiohjdhcedaaGreat.startPlays
