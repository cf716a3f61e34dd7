/- quashlaw05.does: a step over a gate and the document's: both say the same and stay the same. -/
import Derived.Test.YtdkbdlhfhmgenaaRefGate
import Derived.Deep.RegionHeld3
namespace Go.Proofs.Ytdkbdlhfhmgenaa
open Go.RowKit
set_option linter.unusedVariables false
/-- A gate and the document's, of a meter and the document's. -/
structure GPair (w : World) (m lb n lbx q r b z : Nat) (g : Gt) (s : MS) : Prop where
  gate : GateAt w q r b (some m) g
  ref : RG w z n g
  met : MetAt MT w (some m) lb s
  mex : MetAt XT w (some n) lbx s
  ne : lb ≠ lbx
theorem feet {w : World} {m lb n lbx : Nat} {s s' : MS} (hm : MetAt MT w (some m) lb s) (hx : MetAt XT w (some n) lbx s') (ne : lb ≠ lbx) : ∀ x, x ∈ foot (some n) lbx → x ∉ foot (some m) lb := by
  obtain ⟨vx, hx⟩ := hx
  obtain ⟨vm, hm⟩ := hm
  have e1 : n ≠ m := hx.blk.ne_ hm.blk (by decide)
  have e3 : n ≠ lb := by
    rcases hm.loc with ⟨_, hc⟩ | hc
    · rw [hc]; exact e1
    · intro e; exact own_blk_ne hm.own hx.blk (by decide) (by rw [hc, e])
  have e4 : lbx ≠ m := by
    rcases hx.loc with ⟨_, hc⟩ | hc
    · rw [hc]; exact e1
    · intro e; exact own_blk_ne hx.own hm.blk (by decide) (by rw [hc, e])
  intro x hx' hm'
  simp only [foot, List.mem_cons, List.not_mem_nil, or_false] at hx' hm'
  omega
theorem GPair.lt {w : World} {m lb n lbx q r b z : Nat} {g : Gt} {s : MS} (h : GPair w m lb n lbx q r b z g s) : m < w.heap.size ∧ lb < w.heap.size ∧ n < w.heap.size ∧ lbx < w.heap.size ∧ b < w.heap.size ∧ z < w.heap.size ∧ q < w.heap.size ∧ r < w.heap.size :=
  ⟨foot_lt h.met (by simp [foot]), foot_lt h.met (by simp [foot]), foot_lt h.mex (by simp [foot]), foot_lt h.mex (by simp [foot]), h.gate.2.row.lt, Blk.lt h.ref, h.gate.1.lt, h.gate.2.blk.lt⟩
/-- The program's part of a step leaves the document's side alone. -/
theorem GPair.first {w w1 : World} {m lb n lbx q r b z : Nat} {g g1 : Gt} {s s1 : MS} (h : GPair w m lb n lbx q r b z g s) (hL : GLeft q r b (some m) g1 lb s1 w w1) : RG w1 z n g ∧ MetAt XT w1 (some n) lbx s := by
  obtain ⟨h1, lb1, h2, h3, h4⟩ := hL
  have hz := Go.Proofs.Ytdkbdlhfhmgenaa.apart h.met h.ref (by decide) (by decide)
  have hzb : z ≠ b := Blk.ne_ h.ref h.gate.2.row (by decide)
  have hb := Go.Proofs.Ytdkbdlhfhmgenaa.apart h.mex h.gate.2.row (by decide) (by decide)
  refine ⟨Blk.keeps h.ref h3 (by simp only [List.mem_cons, not_or]; exact ⟨hzb, hz⟩), h.mex.keeps h3 (fun x hx hx2 => ?_)⟩
  rw [List.mem_cons] at hx2
  rcases hx2 with rfl | hx2
  · exact hb hx
  · exact feet h.met h.mex h.ne x hx hx2
/-- What a step leaves. -/
def GStep (m lb n lbx q r b z : Nat) (g : Gt) (s : MS) (g' : Gt) (w w' : World) : Prop :=
  ∃ lb' lbx' s', GPair w' m lb' n lbx' q r b z g' s' ∧ Keeps [b, z, m, lb, n, lbx] w w' ∧ (lb' = lb ∨ w.heap.size ≤ lb') ∧ (lbx' = lbx ∨ w.heap.size ≤ lbx') ∧ s'.log.length ≤ s.log.length + 1
theorem GPair.second {w w1 w2 : World} {m lb n lbx q r b z : Nat} {g g1 : Gt} {s s1 : MS} (h : GPair w m lb n lbx q r b z g s) (hL : GLeft q r b (some m) g1 lb s1 w w1) (hM : RLeft z n g1 lbx s1 w1 w2) (hs : s1.log.length ≤ s.log.length + 1) :
    GStep m lb n lbx q r b z g s g1 w w2 := by
  have hF := h.first hL
  have hlt := h.lt
  obtain ⟨h1, lb1, h2, h3, h4⟩ := hL
  obtain ⟨k1, lbx1, k2, k3, k4⟩ := hM
  have hsz := h3.size
  have hlb1 : lb1 < w1.heap.size := foot_lt h2 (by simp [foot])
  have hne : lb1 ≠ lbx := by
    rcases h4 with h4 | h4
    · exact h4 ▸ h.ne
    · omega
  have hq := Go.Proofs.Ytdkbdlhfhmgenaa.apart hF.2 h1.1 (by decide) (by decide)
  have hr := h1.2.foot (T := XT) (R := RowG.R) ⟨by decide, by decide, by decide, by decide, by decide⟩ hF.2
  have hqz : q ≠ z := Blk.ne_ h1.1 hF.1 (by decide)
  have hrz : r ≠ z := Blk.ne_ h1.2.blk hF.1 (by decide)
  have hbz : b ≠ z := Blk.ne_ h1.2.row hF.1 (by decide)
  have hzm := Go.Proofs.Ytdkbdlhfhmgenaa.apart h2 hF.1 (by decide) (by decide)
  refine ⟨lb1, lbx1, s1, ⟨h1.keeps k3 (by simp only [List.mem_cons, not_or]; exact ⟨hqz, hq⟩) (by simp only [List.mem_cons, not_or]; exact ⟨hrz, hr.1⟩) (by simp only [List.mem_cons, not_or]; exact ⟨hbz, hr.2⟩), k1, h2.keeps k3 (fun x hx hx2 => ?_), k2, ?_⟩, ?_, h4, ?_, hs⟩
  · rw [List.mem_cons] at hx2
    rcases hx2 with rfl | hx2
    · exact hzm hx
    · exact feet h2 hF.2 hne x hx2 hx
  · rcases k4 with k4 | k4
    · rw [k4]; exact hne
    · omega
  · refine (h3.mono (T := [b, z, m, lb, n, lbx]) ?_).trans k3 ?_
    · intro x hx; simp [foot] at hx; rcases hx with rfl | rfl | rfl <;> simp
    · intro x hx; simp [foot] at hx; rcases hx with rfl | rfl | rfl <;> simp
  · rcases k4 with k4 | k4
    · exact .inl k4
    · exact .inr (by omega)
theorem GPair.keeps {w w' : World} {m lb n lbx q r b z : Nat} {g : Gt} {s : MS} (h : GPair w m lb n lbx q r b z g s) (hk : Keeps [] w w') : GPair w' m lb n lbx q r b z g s :=
  ⟨h.gate.keeps hk (by simp) (by simp) (by simp), Blk.keeps h.ref hk (by simp), h.met.keeps hk (by simp), h.mex.keeps hk (by simp), h.ne⟩
theorem GStep.rest {w w' : World} {m lb n lbx q r b z : Nat} {g : Gt} {s : MS} (h : GPair w m lb n lbx q r b z g s) (hk : Keeps [] w w') : GStep m lb n lbx q r b z g s g w w' :=
  ⟨lb, lbx, s, h.keeps hk, hk.mono (by simp), .inl rfl, .inl rfl, by omega⟩
theorem GStep.pre {w w0 w' : World} {m lb n lbx q r b z : Nat} {g g' : Gt} {s : MS} (h : GStep m lb n lbx q r b z g s g' w0 w') (hk : Keeps [] w w0) : GStep m lb n lbx q r b z g s g' w w' := by
  obtain ⟨lb', lbx', s', h1, h2, h3, h4, h5⟩ := h
  have := hk.size
  exact ⟨lb', lbx', s', h1, (hk.mono (T := [b, z, m, lb, n, lbx]) (by simp)).trans h2 (fun x hx => .inl hx), by omega, by omega, h5⟩
/-- A gate's numbers in k steps. -/
def GOk (g : Gt) (k : Nat) : Prop := 0 ≤ g.number ∧ g.number ≤ k ∧ ((g.number % 2 = 1 ∧ 1 ≤ g.owner ∧ g.owner ≤ 8) ∨ (g.number % 2 = 0 ∧ g.owner = 0))
/-- The step's arguments. -/
def opArgs (q z : Nat) (o : Bool) (kd t : Int) : Array Value := #[.pointer (some ⟨q, 0, none⟩), .pointer (some ⟨z, 0, none⟩), .agg #[.bool o, .int .i64 kd, .int .i64 t]]
/-- The world behind the step's own box. -/
def BX (w : World) (o : Bool) (kd t : Int) : World := w.alloc (.cells #[.bool o, .int .i64 kd, .int .i64 t] 29)
theorem note_one5 (s : MS) (a p o : Int) (y : Bool) : (s.note a p o y).log.length = s.log.length + 1 := by
  show (s.log ++ [_]).length = _
  simp
theorem box5 {w w1 : World} {m lb n lbx q r b z : Nat} {g g1 : Gt} {s s1 : MS} {o : Bool} {kd t : Int} (h : GPair w m lb n lbx q r b z g s) (hL : GLeft q r b (some m) g1 lb s1 (BX w o kd t) w1) : w1.cell? ⟨w.heap.size, 2, none⟩ = some (.int .i64 t) := by
  obtain ⟨_, _, _, hk, _⟩ := hL
  have hlt := h.lt
  have hb : Blk (BX w o kd t) w.heap.size 29 #[.bool o, .int .i64 kd, .int .i64 t] := Blk.new _ _ _
  exact ((hb.keeps hk (by simp [foot]; omega)).cell 2).trans rfl
theorem kept_r {w1 w2 : World} {z n lbx : Nat} {g : Gt} {s s' : MS} {o : Obj} {t : TypeId} {cs : Array Value} (hm : MetAt XT w1 (some n) lbx s) (hr : RG w1 z n g) (hM : RLeft z n g lbx s' (w1.alloc o).drew w2) (hb : Blk (w1.alloc o) w1.heap.size t cs) : Blk w2 w1.heap.size t cs := by
  obtain ⟨_, _, _, hk, _⟩ := hM
  refine Blk.keeps (w := (w1.alloc o).drew) hb hk (fun hx => ?_)
  rw [List.mem_cons] at hx
  rcases hx with hx | hx
  · have := Blk.lt hr; omega
  · have := foot_lt hm hx; omega
section
variable {w : World} {m lb n lbx q r b z : Nat} {g : Gt} {s : MS} (h : GPair w m lb n lbx q r b z g s) (hl : s.log.length < 2199023255552) (k : Nat) (hk : k < 1048576) (hg : GOk g k)
include h hl hk hg

set_option maxHeartbeats 2000000 in
theorem does5_take_ok (o : Bool) (t : Int) (t1 : 1 ≤ t) (t2 : t ≤ 8) (ho : g.owner = 0) :
    Calls Try.prog 19 (opArgs q z o 2 t) w fun e w' => e = .returned (.bool true) ∧ GStep m lb n lbx q r b z g s ⟨g.number + 1, t⟩ w w' := by
  obtain ⟨g0, g1, gp⟩ := hg
  have kB : Keeps [] w (BX w o 2 t) := (Keeps.refl _ _).alloc _
  have HB := Lib.hid (h.keeps kB)
  have KB := Lib.hid kB
  have H := Lib.hid h
  have HG := Lib.hid (take_ok (BX w o 2 t) q r b (some m) g HB.out.gate lb s HB.out.met (fun _ => hl) t t1 t2 g0 (by omega) (by omega))
  have HRW := Lib.hid (fun w1 (hr : RG w1 z n g) (hm : MetAt XT w1 (some n) lbx s) => rtake_ok w1 z n g hr lbx s hm hl t t1 t2 g0 (by omega) (by omega))
  clear h hl kB
  unfold opArgs
  go_enter Try.func19, Try.ntmps19
  go_wp2_with fail
  refine HG.out.mono ?_
  rintro e w1 ⟨rfl, hL⟩
  have x2 := box5 H.out hL
  have hF := HB.out.first hL
  have HL := Lib.hid hL
  have HF := Lib.hid hF
  clear hL hF HG
  go_wp2_with fail
  refine (HRW.out _ HF.out.1 HF.out.2).mono ?_
  rintro e w2 ⟨rfl, hM⟩
  have HM := Lib.hid hM
  clear hM
  go_wp2_with fail
  go_ret
  exact ⟨rfl, (HB.out.second HL.out HM.out (by rw [note_one5]; omega)).pre KB.out⟩

set_option maxHeartbeats 2000000 in
theorem does5_take_held (o : Bool) (t : Int) (t1 : 1 ≤ t) (t2 : t ≤ 8) (ho : g.owner ≠ 0) :
    Calls Try.prog 19 (opArgs q z o 2 t) w fun e w' => e = .returned (.bool true) ∧ GStep m lb n lbx q r b z g s g w w' := by
  obtain ⟨g0, g1, gp⟩ := hg
  have kB : Keeps [] w (BX w o 2 t) := (Keeps.refl _ _).alloc _
  have HB := Lib.hid (h.keeps kB)
  have KB := Lib.hid kB
  have H := Lib.hid h
  have HG := Lib.hid (take_held (BX w o 2 t) q r b (some m) g HB.out.gate lb s HB.out.met (fun _ => hl) t t1 t2 g0 (by omega) (by omega))
  have HRW := Lib.hid (fun w1 (hr : RG w1 z n g) (hm : MetAt XT w1 (some n) lbx s) => rtake_held w1 z n g hr lbx s hm hl t t1 t2 g0 (by omega) (by omega))
  clear h hl kB
  unfold opArgs
  go_enter Try.func19, Try.ntmps19
  go_wp2_with fail
  refine HG.out.mono ?_
  rintro e w1 ⟨rfl, hL⟩
  have x2 := box5 H.out hL
  have hF := HB.out.first hL
  have HL := Lib.hid hL
  have HF := Lib.hid hF
  clear hL hF HG
  go_wp2_with fail
  refine (HRW.out _ HF.out.1 HF.out.2).mono ?_
  rintro e w2 ⟨rfl, hM⟩
  have HM := Lib.hid hM
  clear hM
  go_wp2_with fail
  go_ret
  exact ⟨rfl, (HB.out.second HL.out HM.out (by rw [note_one5]; omega)).pre KB.out⟩

set_option maxHeartbeats 2000000 in
theorem does5_take_bad (o : Bool) (t : Int) (ht : t < 1 ∨ 8 < t) :
    Calls Try.prog 19 (opArgs q z o 2 t) w fun e w' => e = .returned (.bool true) ∧ GStep m lb n lbx q r b z g s g w w' := by
  have kB : Keeps [] w (BX w o 2 t) := (Keeps.refl _ _).alloc _
  have KB := Lib.hid kB
  have H := Lib.hid h
  have x2 : (BX w o 2 t).cell? ⟨w.heap.size, 2, none⟩ = some (.int .i64 t) := ((Blk.new w 29 #[.bool o, .int .i64 2, .int .i64 t]).cell 2).trans rfl
  have HG := Lib.hid (take_bad (BX w o 2 t) q t ht)
  have HRW := Lib.hid (rtake_bad (BX w o 2 t) z t ht)
  have hk0 := hk
  have hl0 := hl
  have hg0 := hg
  clear h hl kB hg hk0 hl0 hg0
  unfold opArgs
  go_enter Try.func19, Try.ntmps19
  go_wp2_with fail
  refine HG.out.mono ?_
  rintro e w1 ⟨rfl, rfl⟩
  go_wp2_with fail
  refine HRW.out.mono ?_
  rintro e w2 ⟨rfl, rfl⟩
  go_wp2_with fail
  go_ret
  exact ⟨rfl, GStep.rest H.out KB.out⟩

set_option maxHeartbeats 2000000 in
theorem does5_give_ok (o : Bool) (t : Int) (t1 : 1 ≤ t) (t2 : t ≤ 8) (ho : g.owner = t) :
    Calls Try.prog 19 (opArgs q z o 3 t) w fun e w' => e = .returned (.bool true) ∧ GStep m lb n lbx q r b z g s ⟨g.number + 1, 0⟩ w w' := by
  obtain ⟨g0, g1, gp⟩ := hg
  have kB : Keeps [] w (BX w o 3 t) := (Keeps.refl _ _).alloc _
  have HB := Lib.hid (h.keeps kB)
  have KB := Lib.hid kB
  have H := Lib.hid h
  have HG := Lib.hid (give_ok (BX w o 3 t) q r b (some m) g HB.out.gate lb s HB.out.met (fun _ => hl) t t1 t2 g0 (by omega) ho)
  have HRW := Lib.hid (fun w1 (hr : RG w1 z n g) (hm : MetAt XT w1 (some n) lbx s) => rgive_ok w1 z n g hr lbx s hm hl t t1 t2 g0 (by omega) (by omega) ho)
  clear h hl kB
  unfold opArgs
  go_enter Try.func19, Try.ntmps19
  go_wp2_with fail
  refine HG.out.mono ?_
  rintro e w1 ⟨rfl, hL⟩
  have x2 := box5 H.out hL
  have hF := HB.out.first hL
  have HL := Lib.hid hL
  have HF := Lib.hid hF
  clear hL hF HG
  go_wp2_with fail
  refine (HRW.out _ HF.out.1 HF.out.2).mono ?_
  rintro e w2 ⟨rfl, hM⟩
  have HM := Lib.hid hM
  clear hM
  go_wp2_with fail
  go_ret
  exact ⟨rfl, (HB.out.second HL.out HM.out (by rw [note_one5]; omega)).pre KB.out⟩

set_option maxHeartbeats 2000000 in
theorem does5_give_other (o : Bool) (t : Int) (t1 : 1 ≤ t) (t2 : t ≤ 8) (hz : g.owner ≠ 0) (ho : g.owner ≠ t) :
    Calls Try.prog 19 (opArgs q z o 3 t) w fun e w' => e = .returned (.bool true) ∧ GStep m lb n lbx q r b z g s g w w' := by
  obtain ⟨g0, g1, gp⟩ := hg
  have kB : Keeps [] w (BX w o 3 t) := (Keeps.refl _ _).alloc _
  have HB := Lib.hid (h.keeps kB)
  have KB := Lib.hid kB
  have H := Lib.hid h
  have HG := Lib.hid (give_not (BX w o 3 t) q r b (some m) g HB.out.gate lb s HB.out.met (fun _ => hl) t t1 t2 g0 (by omega) ho)
  have HRW := Lib.hid (fun w1 (hr : RG w1 z n g) (hm : MetAt XT w1 (some n) lbx s) => rgive_other w1 z n g hr lbx s hm hl t t1 t2 g0 (by omega) (by omega) ho)
  clear h hl kB
  unfold opArgs
  go_enter Try.func19, Try.ntmps19
  go_wp2_with fail
  refine HG.out.mono ?_
  rintro e w1 ⟨rfl, hL⟩
  have x2 := box5 H.out hL
  have hF := HB.out.first hL
  have HL := Lib.hid hL
  have HF := Lib.hid hF
  clear hL hF HG
  go_wp2_with fail
  refine (HRW.out _ HF.out.1 HF.out.2).mono ?_
  rintro e w2 ⟨rfl, hM⟩
  have HM := Lib.hid hM
  clear hM
  go_wp2_with fail
  go_ret
  exact ⟨rfl, (HB.out.second HL.out HM.out (by rw [note_one5]; omega)).pre KB.out⟩

set_option maxHeartbeats 2000000 in
theorem does5_give_free (o : Bool) (t : Int) (t1 : 1 ≤ t) (t2 : t ≤ 8) (hz : g.owner = 0) :
    Calls Try.prog 19 (opArgs q z o 3 t) w fun e w' => e = .returned (.bool true) ∧ GStep m lb n lbx q r b z g s g w w' := by
  obtain ⟨g0, g1, gp⟩ := hg
  have kB : Keeps [] w (BX w o 3 t) := (Keeps.refl _ _).alloc _
  have HB := Lib.hid (h.keeps kB)
  have KB := Lib.hid kB
  have H := Lib.hid h
  have HG := Lib.hid (give_not (BX w o 3 t) q r b (some m) g HB.out.gate lb s HB.out.met (fun _ => hl) t t1 t2 g0 (by omega) (by omega))
  have HRW := Lib.hid (fun w1 (hr : RG w1 z n g) (hm : MetAt XT w1 (some n) lbx s) => rgive_free w1 z n g hr lbx s hm hl t t1 t2 g0 (by omega) (by omega))
  clear h hl kB
  unfold opArgs
  go_enter Try.func19, Try.ntmps19
  go_wp2_with fail
  refine HG.out.mono ?_
  rintro e w1 ⟨rfl, hL⟩
  have x2 := box5 H.out hL
  have hF := HB.out.first hL
  have HL := Lib.hid hL
  have HF := Lib.hid hF
  clear hL hF HG
  go_wp2_with fail
  refine (HRW.out _ HF.out.1 HF.out.2).mono ?_
  rintro e w2 ⟨rfl, hM⟩
  have HM := Lib.hid hM
  clear hM
  go_wp2_with fail
  go_ret
  exact ⟨rfl, (HB.out.second HL.out HM.out (by rw [note_one5]; omega)).pre KB.out⟩

set_option maxHeartbeats 2000000 in
theorem does5_give_bad (o : Bool) (t : Int) (ht : t < 1 ∨ 8 < t) :
    Calls Try.prog 19 (opArgs q z o 3 t) w fun e w' => e = .returned (.bool true) ∧ GStep m lb n lbx q r b z g s g w w' := by
  have kB : Keeps [] w (BX w o 3 t) := (Keeps.refl _ _).alloc _
  have KB := Lib.hid kB
  have H := Lib.hid h
  have x2 : (BX w o 3 t).cell? ⟨w.heap.size, 2, none⟩ = some (.int .i64 t) := ((Blk.new w 29 #[.bool o, .int .i64 3, .int .i64 t]).cell 2).trans rfl
  have HG := Lib.hid (give_bad (BX w o 3 t) q t ht)
  have HRW := Lib.hid (rgive_bad (BX w o 3 t) z t ht)
  have hk0 := hk
  have hl0 := hl
  have hg0 := hg
  clear h hl kB hg hk0 hl0 hg0
  unfold opArgs
  go_enter Try.func19, Try.ntmps19
  go_wp2_with fail
  refine HG.out.mono ?_
  rintro e w1 ⟨rfl, rfl⟩
  go_wp2_with fail
  refine HRW.out.mono ?_
  rintro e w2 ⟨rfl, rfl⟩
  go_wp2_with fail
  go_ret
  exact ⟨rfl, GStep.rest H.out KB.out⟩

set_option maxHeartbeats 2000000 in
theorem does5_look (o : Bool) (t : Int) :
    Calls Try.prog 19 (opArgs q z o 4 t) w fun e w' => e = .returned (.bool true) ∧ GStep m lb n lbx q r b z g s g w w' := by
  have kB : Keeps [] w (BX w o 4 t) := (Keeps.refl _ _).alloc _
  have HB := Lib.hid (h.keeps kB)
  have KB := Lib.hid kB
  have H := Lib.hid h
  have HG := Lib.hid (look_ok (BX w o 4 t) q r b (some m) g HB.out.gate lb s HB.out.met (fun _ => hl))
  have HRW := Lib.hid (fun w1 (hr : RG w1 z n g) (hm : MetAt XT w1 (some n) lbx s) => rlook w1 z n g hr lbx s hm hl)
  have he : ∀ w, (Op.equalIn 10000 35 (.agg #[.int .i64 g.number, .int .i64 g.owner]) (.agg #[.int .i64 g.number, .int .i64 g.owner])).run Try.prog w = .ok true w := fun w => same_run w g.number g.owner
  have hk0 := hk
  have hg0 := hg
  clear h hl kB hg hk0 hg0
  unfold opArgs
  go_enter Try.func19, Try.ntmps19
  go_wp2_with fail
  refine HG.out.mono ?_
  rintro e w1 ⟨rfl, hL⟩
  have hF := HB.out.first hL
  have HL := Lib.hid hL
  have ka : Keeps [] w1 (w1.alloc (.cells #[.int .i64 g.number, .int .i64 g.owner] 35)) := (Keeps.refl _ _).alloc _
  have HF1 : Hid (RG (w1.alloc (.cells #[.int .i64 g.number, .int .i64 g.owner] 35)).drew z n g) := Lib.hid (Blk.keeps hF.1 ka.drew (by simp))
  have HF2 := Lib.hid (hF.2.keeps ka.drew (by simp))
  have b1 := Blk.new w1 35 #[.int .i64 g.number, .int .i64 g.owner]
  have x0 := (two_of b1).1
  have x1 := (two_of b1).2
  have B1 := Lib.hid b1
  have HFM := Lib.hid hF.2
  have HFR := Lib.hid hF.1
  have QL := Lib.hid (show Calls Try.prog 44 #[.pointer (some ⟨z, 0, none⟩)] ((w1.alloc (.cells #[.int .i64 g.number, .int .i64 g.owner] 35)).drew) fun e w' => e = .returned (.agg #[.int .i64 g.number, .int .i64 g.owner]) ∧ RLeft z n g lbx (s.note 2 0 1 true) ((w1.alloc (.cells #[.int .i64 g.number, .int .i64 g.owner] 35)).drew) w' ∧ (w'.cell? ⟨w1.heap.size, 0, none⟩ = some (.int .i64 g.number) ∧ w'.cell? ⟨w1.heap.size, 1, none⟩ = some (.int .i64 g.owner)) from
    (HRW.out _ HF1.out HF2.out).mono fun e w' ⟨he, hM⟩ => ⟨he, hM, two_of (kept_r HFM.out HFR.out hM B1.out)⟩)
  clear hL hF HG ka b1
  go_wp2_with fail
  go_region_held3 (fun w' => w'.cell? ⟨w1.heap.size, 0, none⟩ = some (.int .i64 g.number) ∧ w'.cell? ⟨w1.heap.size, 1, none⟩ = some (.int .i64 g.owner)) (first | exact ⟨x0, x1⟩ | exact ⟨u0, u1⟩ | go_keep) ((go_at_call 44; refine QL.out.mono ?_; rintro e w2 ⟨rfl, hM, u0, u1⟩; have HM := Lib.hid hM; clear hM))
  go_wp2_with fail
  go_ret
  refine ⟨rfl, (HB.out.second (w1 := w1) HL.out (s1 := s.note 2 0 1 true) ?_ (by rw [note_one5]; omega)).pre KB.out⟩
  obtain ⟨k1, lbx1, k2, k3, k4⟩ := HM.out
  have kd : Keeps [] w1 (w1.alloc (.cells #[.int .i64 g.number, .int .i64 g.owner] 35)).drew := ((Keeps.refl _ _).alloc _).drew
  have := kd.size
  exact ⟨k1, lbx1, k2, (kd.mono (T := z :: foot (some n) lbx) (by simp)).trans k3 (fun x hx => .inl hx), by omega⟩
set_option maxHeartbeats 2000000 in
theorem does5_none (o : Bool) (kd t : Int) (hkd : kd ≠ 2 ∧ kd ≠ 3 ∧ kd ≠ 4) :
    Calls Try.prog 19 (opArgs q z o kd t) w fun e w' => e = .returned (.bool true) ∧ GStep m lb n lbx q r b z g s g w w' := by
  have n2 : (kd == 2) = false := by simp; omega
  have n3 : (kd == 3) = false := by simp; omega
  have n4 : (kd == 4) = false := by simp; omega
  have H := Lib.hid h
  have hk0 := hk
  have hl0 := hl
  have hg0 := hg
  clear h hl hg hk0 hl0 hg0
  unfold opArgs
  go_enter Try.func19, Try.ntmps19
  go_wp2_with fail
  go_ret
  exact ⟨rfl, GStep.rest H.out ((Keeps.refl _ _).alloc _)⟩
/-- A step, whatever it is. -/
theorem does5_any (o : Bool) (kd t : Int) :
    Calls Try.prog 19 (opArgs q z o kd t) w fun e w' => e = .returned (.bool true) ∧ ∃ g', GOk g' (k + 1) ∧ GStep m lb n lbx q r b z g s g' w w' := by
  have hg0 := hg
  obtain ⟨g0, g1, gp⟩ := hg
  have same : GOk g (k + 1) := ⟨g0, by omega, gp⟩
  by_cases k2 : kd = 2
  · subst k2
    by_cases ht : t < 1 ∨ 8 < t
    · exact (does5_take_bad h hl k hk hg0 o t ht).mono fun e w' ⟨he, hs⟩ => ⟨he, g, same, hs⟩
    · by_cases ho : g.owner = 0
      · exact (does5_take_ok h hl k hk hg0 o t (by omega) (by omega) ho).mono fun e w' ⟨he, hs⟩ => ⟨he, _, ⟨by simp only; omega, by simp only; omega, .inl (by simp only; omega)⟩, hs⟩
      · exact (does5_take_held h hl k hk hg0 o t (by omega) (by omega) ho).mono fun e w' ⟨he, hs⟩ => ⟨he, g, same, hs⟩
  by_cases k3 : kd = 3
  · subst k3
    by_cases ht : t < 1 ∨ 8 < t
    · exact (does5_give_bad h hl k hk hg0 o t ht).mono fun e w' ⟨he, hs⟩ => ⟨he, g, same, hs⟩
    · by_cases ho : g.owner = t
      · exact (does5_give_ok h hl k hk hg0 o t (by omega) (by omega) ho).mono fun e w' ⟨he, hs⟩ => ⟨he, _, ⟨by simp only; omega, by simp only; omega, .inr ⟨by simp only; omega, rfl⟩⟩, hs⟩
      · by_cases hz : g.owner = 0
        · exact (does5_give_free h hl k hk hg0 o t (by omega) (by omega) hz).mono fun e w' ⟨he, hs⟩ => ⟨he, g, same, hs⟩
        · exact (does5_give_other h hl k hk hg0 o t (by omega) (by omega) hz ho).mono fun e w' ⟨he, hs⟩ => ⟨he, g, same, hs⟩
  by_cases k4 : kd = 4
  · subst k4
    exact (does5_look h hl k hk hg0 o t).mono fun e w' ⟨he, hs⟩ => ⟨he, g, same, hs⟩
  exact (does5_none h hl k hk hg0 o kd t ⟨k2, k3, k4⟩).mono fun e w' ⟨he, hs⟩ => ⟨he, g, same, hs⟩
end
end Go.Proofs.Ytdkbdlhfhmgenaa
