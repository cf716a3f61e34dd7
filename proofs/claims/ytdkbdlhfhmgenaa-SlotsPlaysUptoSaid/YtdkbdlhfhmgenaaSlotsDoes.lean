/- quashlaw06.does: a step over a table and the document's: both say the same and stay the same. -/
import Derived.Test.YtdkbdlhfhmgenaaSlotsBoth
import Derived.Deep.RegionHeld3
namespace Go.Proofs.Ytdkbdlhfhmgenaa
open Go.RowKit
set_option linter.unusedVariables false
/-- A table and the document's, of a meter and the document's. -/
structure SPair (w : World) (m lb n lbx : Nat) (t : Tb) (z d : Nat) (H : List Hd) (W : List Int) (s : MS) : Prop where
  tab : TabAt w t (some m) H W
  ref : RT w z n d H W
  met : MetAt MT w (some m) lb s
  mex : MetAt XT w (some n) lbx s
  ne : lb ≠ lbx
theorem feet6 {w : World} {m lb n lbx : Nat} {s s' : MS} (hm : MetAt MT w (some m) lb s) (hx : MetAt XT w (some n) lbx s') (ne : lb ≠ lbx) : ∀ x, x ∈ foot (some n) lbx → x ∉ foot (some m) lb := by
  obtain ⟨vx, hx⟩ := hx
  obtain ⟨vm, hm⟩ := hm
  have e1 : n ≠ m := hx.blk.ne_ hm.blk (by decide)
  have e3 : n ≠ lb := by
    rcases hm.loc with ⟨_, hc⟩ | hc
    · rw [hc]; exact e1
    · intro e; exact own_blk_ne hm.own hx.blk (by decide) (by rw [hc, e])
  have e4 : lbx ≠ m := by
    rcases hx.loc with ⟨_, hc⟩ | hc
    · rw [hc]; exact e1
    · intro e; exact own_blk_ne hx.own hm.blk (by decide) (by rw [hc, e])
  intro x hx' hm'
  simp only [foot, List.mem_cons, List.not_mem_nil, or_false] at hx' hm'
  omega
section
variable {w w1 w2 w' : World} {m lb n lbx : Nat} {t : Tb} {z d : Nat} {H H' : List Hd} {W W' : List Int} {s s' : MS}
theorem SPair.keeps (h : SPair w m lb n lbx t z d H W s) (hk : Keeps [] w w') : SPair w' m lb n lbx t z d H W s :=
  ⟨h.tab.calm hk, h.ref.keeps hk (by simp) (by simp), h.met.keeps hk (by simp), h.mex.keeps hk (by simp), h.ne⟩
theorem SPair.lt (h : SPair w m lb n lbx t z d H W s) : m < w.heap.size ∧ lb < w.heap.size ∧ n < w.heap.size ∧ lbx < w.heap.size ∧ z < w.heap.size ∧ d < w.heap.size :=
  ⟨foot_lt h.met (by simp [foot]), foot_lt h.met (by simp [foot]), foot_lt h.mex (by simp [foot]), foot_lt h.mex (by simp [foot]), h.ref.blk.lt, h.ref.row.lt⟩
theorem RT.tab_ne {mp : Option Nat} (hr : RT w z n d H W) (ht : TabAt w t mp H' W') : z ≠ t.b ∧ z ≠ t.c ∧ d ≠ t.b ∧ d ≠ t.c ∧ d ≠ t.q ∧ d ≠ t.r ∧ d ≠ t.s :=
  ⟨hr.blk.ne_ ht.heads.row (by decide), hr.blk.ne_ ht.words.row (by decide), hr.row.ne_ ht.heads.row (by decide), hr.row.ne_ ht.words.row (by decide), hr.row.ne_ ht.blk (by decide), hr.row.ne_ ht.heads.blk (by decide), hr.row.ne_ ht.words.blk (by decide)⟩
theorem TabAt.xfoot {mp : Option Nat} (h : TabAt w t mp H W) {mp' : Option Nat} (hm : MetAt XT w mp' lb s) : t.q ∉ foot mp' lb ∧ t.r ∉ foot mp' lb ∧ t.b ∉ foot mp' lb ∧ t.s ∉ foot mp' lb ∧ t.c ∉ foot mp' lb :=
  ⟨Go.Proofs.Ytdkbdlhfhmgenaa.apart hm h.blk (by decide) (by decide), Go.Proofs.Ytdkbdlhfhmgenaa.apart hm h.heads.blk (by decide) (by decide), Go.Proofs.Ytdkbdlhfhmgenaa.apart hm h.heads.row (by decide) (by decide), Go.Proofs.Ytdkbdlhfhmgenaa.apart hm h.words.blk (by decide) (by decide), Go.Proofs.Ytdkbdlhfhmgenaa.apart hm h.words.row (by decide) (by decide)⟩
/-- The program's part of a step leaves the document's side alone. -/
theorem SPair.first (h : SPair w m lb n lbx t z d H W s) (hL : TLeft t (some m) H' W' lb s' w w1) : RT w1 z n d H W ∧ MetAt XT w1 (some n) lbx s := by
  obtain ⟨h1, lb1, h2, h3, h4⟩ := hL
  have hz := Go.Proofs.Ytdkbdlhfhmgenaa.apart h.met h.ref.blk (by decide) (by decide)
  have hd := Go.Proofs.Ytdkbdlhfhmgenaa.apart h.met h.ref.row (by decide) (by decide)
  have hn := h.ref.tab_ne h.tab
  have hx := h.tab.xfoot h.mex
  refine ⟨h.ref.keeps h3 (by simp only [List.mem_cons, not_or]; exact ⟨hn.1, hn.2.1, hz⟩) (by simp only [List.mem_cons, not_or]; exact ⟨hn.2.2.1, hn.2.2.2.1, hd⟩), h.mex.keeps h3 (fun x hx1 hx2 => ?_)⟩
  rw [List.mem_cons, List.mem_cons] at hx2
  rcases hx2 with rfl | rfl | hx2
  · exact hx.2.2.1 hx1
  · exact hx.2.2.2.2 hx1
  · exact feet6 h.met h.mex h.ne x hx1 hx2
/-- What a step leaves. -/
def SStep (m lb n lbx : Nat) (t : Tb) (z d : Nat) (s : MS) (H' : List Hd) (W' : List Int) (w w' : World) : Prop :=
  ∃ lb' lbx' s', SPair w' m lb' n lbx' t z d H' W' s' ∧ Keeps [t.b, t.c, d, m, lb, n, lbx] w w' ∧ (lb' = lb ∨ w.heap.size ≤ lb') ∧ (lbx' = lbx ∨ w.heap.size ≤ lbx') ∧ s'.log.length ≤ s.log.length + 1
theorem SPair.second (h : SPair w m lb n lbx t z d H W s) (hL : TLeft t (some m) H' W' lb s' w w1) (hM : RTLeft z n d H' W' lbx s' w1 w2) (hs : s'.log.length ≤ s.log.length + 1) : SStep m lb n lbx t z d s H' W' w w2 := by
  have hF := h.first hL
  have hlt := h.lt
  obtain ⟨h1, lb1, h2, h3, h4⟩ := hL
  obtain ⟨k1, lbx1, k2, k3, k4⟩ := hM
  have hsz := h3.size
  have hlb1 : lb1 < w1.heap.size := foot_lt h2 (by simp [foot])
  have hne : lb1 ≠ lbx := by
    rcases h4 with h4 | h4
    · exact h4 ▸ h.ne
    · omega
  have hx := h1.xfoot hF.2
  have hn := hF.1.tab_ne h1
  have hdm := Go.Proofs.Ytdkbdlhfhmgenaa.apart h2 hF.1.row (by decide) (by decide)
  refine ⟨lb1, lbx1, s', ⟨h1.keeps k3 (by simp only [List.mem_cons, not_or]; exact ⟨hn.2.2.2.2.1.symm, hx.1⟩) (by simp only [List.mem_cons, not_or]; exact ⟨hn.2.2.2.2.2.1.symm, hx.2.1⟩) (by simp only [List.mem_cons, not_or]; exact ⟨hn.2.2.1.symm, hx.2.2.1⟩) (by simp only [List.mem_cons, not_or]; exact ⟨hn.2.2.2.2.2.2.symm, hx.2.2.2.1⟩) (by simp only [List.mem_cons, not_or]; exact ⟨hn.2.2.2.1.symm, hx.2.2.2.2⟩), k1, h2.keeps k3 (fun x hx hx2 => ?_), k2, ?_⟩, ?_, h4, ?_, hs⟩
  · rw [List.mem_cons] at hx2
    rcases hx2 with rfl | hx2
    · exact hdm hx
    · exact feet6 h2 hF.2 hne x hx2 hx
  · rcases k4 with k4 | k4
    · rw [k4]; exact hne
    · omega
  · refine (h3.mono (T := [t.b, t.c, d, m, lb, n, lbx]) ?_).trans k3 ?_
    · intro x hx; simp [foot] at hx; rcases hx with rfl | rfl | rfl | rfl <;> simp
    · intro x hx; simp [foot] at hx; rcases hx with rfl | rfl | rfl <;> simp
  · rcases k4 with k4 | k4
    · exact .inl k4
    · exact .inr (by omega)
theorem SStep.rest (h : SPair w m lb n lbx t z d H W s) (hk : Keeps [] w w') : SStep m lb n lbx t z d s H W w w' :=
  ⟨lb, lbx, s, h.keeps hk, hk.mono (by simp), .inl rfl, .inl rfl, by omega⟩
theorem SStep.pre {w0 : World} (h : SStep m lb n lbx t z d s H' W' w0 w') (hk : Keeps [] w w0) : SStep m lb n lbx t z d s H' W' w w' := by
  obtain ⟨lb', lbx', s', h1, h2, h3, h4, h5⟩ := h
  have := hk.size
  exact ⟨lb', lbx', s', h1, (hk.mono (T := [t.b, t.c, d, m, lb, n, lbx]) (by simp)).trans h2 (fun x hx => .inl hx), by omega, by omega, h5⟩
end
/-- The step's arguments. -/
def opArgs6 (t : Tb) (z : Nat) (o : Bool) (kd sl gn nn xx : Int) : Array Value := #[.pointer (some ⟨t.q, 0, none⟩), .pointer (some ⟨z, 0, none⟩), .agg #[.bool o, .int .i64 kd, .int .i64 sl, .int .i64 gn, .int .i64 nn, .int .u64 xx]]
/-- The world behind the step's own box. -/
def BX6 (w : World) (o : Bool) (kd sl gn nn xx : Int) : World := w.alloc (.cells #[.bool o, .int .i64 kd, .int .i64 sl, .int .i64 gn, .int .i64 nn, .int .u64 xx] 58)
theorem box6 {w w1 : World} {m lb n lbx : Nat} {t : Tb} {z d : Nat} {H H' : List Hd} {W W' : List Int} {s s' : MS} {o : Bool} {kd sl gn nn xx : Int} (h : SPair w m lb n lbx t z d H W s) (hL : TLeft t (some m) H' W' lb s' (BX6 w o kd sl gn nn xx) w1) : Blk w1 w.heap.size 58 #[.bool o, .int .i64 kd, .int .i64 sl, .int .i64 gn, .int .i64 nn, .int .u64 xx] := by
  obtain ⟨_, _, _, hk, _⟩ := hL
  have hlt := h.lt
  have hb := h.tab.lt
  have hbx : Blk (BX6 w o kd sl gn nn xx) w.heap.size 58 #[.bool o, .int .i64 kd, .int .i64 sl, .int .i64 gn, .int .i64 nn, .int .u64 xx] := Blk.new _ _ _
  exact hbx.keeps hk (by simp [foot]; omega)
theorem RTLeft.wide {z n d : Nat} {H : List Hd} {W : List Int} {lbx : Nat} {s : MS} {w wB w2 w3 : World} (hT : RTLeft z n d H W lbx s wB w2) (hk : Keeps [] w wB) (hk2 : Keeps [] w2 w3) : RTLeft z n d H W lbx s w w3 := by
  obtain ⟨h1, lb', h2, h3, h4⟩ := hT
  have hz := hk.size
  exact ⟨h1.keeps hk2 (by simp) (by simp), lb', h2.keeps hk2 (by simp), ((hk.mono (T := d :: foot (some n) lbx) (by simp)).trans h3 (fun x hx => .inl hx)).trans hk2 (by simp), by omega⟩
attribute [local go_sem] rd_c0 rd_c1 rd_c2 rd_c3 rd_c4 rd_c5 rd_free Option.isSome_some Option.getD_some
section
variable {w : World} {m lb n lbx : Nat} {t : Tb} {z d : Nat} {H : List Hd} {W : List Int} {s : MS}

set_option maxRecDepth 100000 in
set_option maxHeartbeats 2000000 in
theorem does6_claim (h : SPair w m lb n lbx t z d H W s) (hl : s.log.length < 2199023255552) (k : Nat) (hk : k ≤ 4611686018427387903) (hg : Gens k H) (o : Bool) (sl gn nn xx : Int) :
    Calls Try.prog 33 (opArgs6 t z o 2 sl gn nn xx) w fun e w' => e = .returned (.bool true) ∧ ∃ H' W', Gens (k + 1) H' ∧ H'.length = H.length ∧ SStep m lb n lbx t z d s H' W' w w' := by
  have kB : Keeps [] w (BX6 w o 2 sl gn nn xx) := (Keeps.refl _ _).alloc _
  have HB := Lib.hid (h.keeps kB)
  have KB := Lib.hid kB
  have Hh := Lib.hid h
  obtain ⟨a, b, H', s', hgen, hs, hP, hR⟩ := both_claim hg hk h.tab.len hl m t z n d sl nn
  have HP := Lib.hid (hP _ lb HB.out.tab HB.out.met)
  have HR := Lib.hid hR
  have HG := Lib.hid hgen
  clear h hl kB hP hR hg hgen
  unfold opArgs6
  go_enter Try.func33, Try.ntmps33
  go_wp2_with fail
  refine HP.out.mono ?_
  rintro e w1 ⟨rfl, hL⟩
  have bb := box6 Hh.out hL
  have x2 : w1.cell? ⟨w.heap.size, 2, none⟩ = some (.int .i64 sl) := (bb.cell 2).trans rfl
  have x3 : w1.cell? ⟨w.heap.size, 3, none⟩ = some (.int .i64 gn) := (bb.cell 3).trans rfl
  have x4 : w1.cell? ⟨w.heap.size, 4, none⟩ = some (.int .i64 nn) := (bb.cell 4).trans rfl
  have x5 : w1.cell? ⟨w.heap.size, 5, none⟩ = some (.int .u64 xx) := (bb.cell 5).trans rfl
  have hF := HB.out.first hL
  have HL := Lib.hid hL
  have HF := Lib.hid hF
  have hlen : Hid (H'.length = H.length) := by
    have h1 := hL.1.len
    have h2 := HB.out.tab.len
    unfold Hid
    omega
  clear hL hF HP bb
  go_wp2_with fail
  refine (HR.out _ lbx HF.out.1 HF.out.2).mono ?_
  rintro e w2 ⟨rfl, hM⟩
  have HM := Lib.hid hM
  clear hM
  go_wp2_with fail
  go_ret
  exact ⟨rfl, H', W, HG.out, hlen.out, (HB.out.second HL.out HM.out hs).pre KB.out⟩

set_option maxRecDepth 100000 in
set_option maxHeartbeats 2000000 in
theorem does6_ready (h : SPair w m lb n lbx t z d H W s) (hl : s.log.length < 2199023255552) (k : Nat) (hk : k ≤ 4611686018427387903) (hg : Gens k H) (o : Bool) (sl gn nn xx : Int) :
    Calls Try.prog 33 (opArgs6 t z o 3 sl gn nn xx) w fun e w' => e = .returned (.bool true) ∧ ∃ H' W', Gens (k + 1) H' ∧ H'.length = H.length ∧ SStep m lb n lbx t z d s H' W' w w' := by
  have kB : Keeps [] w (BX6 w o 3 sl gn nn xx) := (Keeps.refl _ _).alloc _
  have HB := Lib.hid (h.keeps kB)
  have KB := Lib.hid kB
  have Hh := Lib.hid h
  obtain ⟨b, H', s', hgen, hs, hP, hR⟩ := both_ready hg hk h.tab.len hl m t z n d sl gn nn
  have HP := Lib.hid (hP _ lb HB.out.tab HB.out.met)
  have HR := Lib.hid hR
  have HG := Lib.hid hgen
  clear h hl kB hP hR hg hgen
  unfold opArgs6
  go_enter Try.func33, Try.ntmps33
  go_wp2_with fail
  refine HP.out.mono ?_
  rintro e w1 ⟨rfl, hL⟩
  have bb := box6 Hh.out hL
  have x2 : w1.cell? ⟨w.heap.size, 2, none⟩ = some (.int .i64 sl) := (bb.cell 2).trans rfl
  have x3 : w1.cell? ⟨w.heap.size, 3, none⟩ = some (.int .i64 gn) := (bb.cell 3).trans rfl
  have x4 : w1.cell? ⟨w.heap.size, 4, none⟩ = some (.int .i64 nn) := (bb.cell 4).trans rfl
  have x5 : w1.cell? ⟨w.heap.size, 5, none⟩ = some (.int .u64 xx) := (bb.cell 5).trans rfl
  have hF := HB.out.first hL
  have HL := Lib.hid hL
  have HF := Lib.hid hF
  have hlen : Hid (H'.length = H.length) := by
    have h1 := hL.1.len
    have h2 := HB.out.tab.len
    unfold Hid
    omega
  clear hL hF HP bb
  go_wp2_with fail
  refine (HR.out _ lbx HF.out.1 HF.out.2).mono ?_
  rintro e w2 ⟨rfl, hM⟩
  have HM := Lib.hid hM
  clear hM
  go_wp2_with fail
  go_ret
  exact ⟨rfl, H', W, HG.out, hlen.out, (HB.out.second HL.out HM.out hs).pre KB.out⟩

set_option maxRecDepth 100000 in
set_option maxHeartbeats 2000000 in
theorem does6_look (h : SPair w m lb n lbx t z d H W s) (hl : s.log.length < 2199023255552) (k : Nat) (hk : k ≤ 4611686018427387903) (hg : Gens k H) (o : Bool) (sl gn nn xx : Int) :
    Calls Try.prog 33 (opArgs6 t z o 4 sl gn nn xx) w fun e w' => e = .returned (.bool true) ∧ ∃ H' W', Gens (k + 1) H' ∧ H'.length = H.length ∧ SStep m lb n lbx t z d s H' W' w w' := by
  have kB : Keeps [] w (BX6 w o 4 sl gn nn xx) := (Keeps.refl _ _).alloc _
  have HB := Lib.hid (h.keeps kB)
  have KB := Lib.hid kB
  have Hh := Lib.hid h
  obtain ⟨x, b, s', hs, hP, hR⟩ := both_look hg hk h.tab.len hl m t z n d sl
  have HP := Lib.hid (hP _ lb HB.out.tab HB.out.met)
  have HR := Lib.hid hR
  have HG := Lib.hid ((Moved.same (s := 0) hg).gens)
  clear h hl kB hP hR hg 
  unfold opArgs6
  go_enter Try.func33, Try.ntmps33
  go_wp2_with fail
  refine HP.out.mono ?_
  rintro e w1 ⟨rfl, hL⟩
  have bb := box6 Hh.out hL
  have x2 : w1.cell? ⟨w.heap.size, 2, none⟩ = some (.int .i64 sl) := (bb.cell 2).trans rfl
  have x3 : w1.cell? ⟨w.heap.size, 3, none⟩ = some (.int .i64 gn) := (bb.cell 3).trans rfl
  have x4 : w1.cell? ⟨w.heap.size, 4, none⟩ = some (.int .i64 nn) := (bb.cell 4).trans rfl
  have x5 : w1.cell? ⟨w.heap.size, 5, none⟩ = some (.int .u64 xx) := (bb.cell 5).trans rfl
  have hF := HB.out.first hL
  have HL := Lib.hid hL
  have HF := Lib.hid hF
  clear hL hF HP 
  have ka : Keeps [] w1 (w1.alloc (.cells #[.int .i64 x.gen, .int .i64 x.state, .int .i64 x.stamp, .int .i64 x.thread, .bool x.doomed, .int .i64 x.who] 64)) := (Keeps.refl _ _).alloc _
  have y2 : (w1.alloc (.cells #[.int .i64 x.gen, .int .i64 x.state, .int .i64 x.stamp, .int .i64 x.thread, .bool x.doomed, .int .i64 x.who] 64)).cell? ⟨w.heap.size, 2, none⟩ = some (.int .i64 sl) := ((bb.keeps ka (by simp)).cell 2).trans rfl
  have r1 : rd (w1.alloc (.cells #[.int .i64 x.gen, .int .i64 x.state, .int .i64 x.stamp, .int .i64 x.thread, .bool x.doomed, .int .i64 x.who] 64)) w1.heap.size = some x := rd_new w1 x
  have HRX := Lib.hid (HR.out _ lbx (HF.out.1.keeps ka (by simp) (by simp)) (HF.out.2.keeps ka (by simp)))
  have KA := Lib.hid ka
  have R1 := Lib.hid r1
  clear bb ka r1
  go_wp2_with fail
  refine HRX.out.mono ?_
  rintro e w2 ⟨rfl, hM⟩
  have r2 : rd w2 w1.heap.size = some x := by
    obtain ⟨_, _, _, hkn, _⟩ := hM
    refine rd_keeps R1.out hkn (fun hq => ?_)
    rw [List.mem_cons] at hq
    rcases hq with hq | hq
    · have := HF.out.1.row.lt; omega
    · have := foot_lt HF.out.2 hq; omega
  have r3 := rd_keeps r2 ((Keeps.refl [] w2).alloc (.cells #[.int .i64 x.gen, .int .i64 x.state, .int .i64 x.stamp, .int .i64 x.thread, .bool x.doomed, .int .i64 x.who] 64)) (by simp)
  have r4 : rd (w2.alloc (.cells #[.int .i64 x.gen, .int .i64 x.state, .int .i64 x.stamp, .int .i64 x.thread, .bool x.doomed, .int .i64 x.who] 64)) w2.heap.size = some x := rd_new w2 x
  have he : ∀ w, (Op.equalIn 10000 64 (.agg #[.int .i64 x.gen, .int .i64 x.state, .int .i64 x.stamp, .int .i64 x.thread, .bool x.doomed, .int .i64 x.who]) (.agg #[.int .i64 x.gen, .int .i64 x.state, .int .i64 x.stamp, .int .i64 x.thread, .bool x.doomed, .int .i64 x.who])).run Try.prog w = .ok true w := fun w => by rw [RowH.eq_run]; simp
  have HM := Lib.hid hM
  clear hM r2 HRX
  go_wp2_with fail
  go_ret
  exact ⟨rfl, H, W, HG.out, rfl, (HB.out.second HL.out (HM.out.wide KA.out ((Keeps.refl _ _).alloc _)) hs).pre KB.out⟩

set_option maxRecDepth 100000 in
set_option maxHeartbeats 2000000 in
theorem does6_doom (h : SPair w m lb n lbx t z d H W s) (hl : s.log.length < 2199023255552) (k : Nat) (hk : k ≤ 4611686018427387903) (hg : Gens k H) (o : Bool) (sl gn nn xx : Int) :
    Calls Try.prog 33 (opArgs6 t z o 5 sl gn nn xx) w fun e w' => e = .returned (.bool true) ∧ ∃ H' W', Gens (k + 1) H' ∧ H'.length = H.length ∧ SStep m lb n lbx t z d s H' W' w w' := by
  have kB : Keeps [] w (BX6 w o 5 sl gn nn xx) := (Keeps.refl _ _).alloc _
  have HB := Lib.hid (h.keeps kB)
  have KB := Lib.hid kB
  have Hh := Lib.hid h
  obtain ⟨b, H', s', hgen, hs, hP, hR⟩ := both_doom hg hk h.tab.len hl m t z n d sl gn nn
  have HP := Lib.hid (hP _ lb HB.out.tab HB.out.met)
  have HR := Lib.hid hR
  have HG := Lib.hid hgen
  clear h hl kB hP hR hg hgen
  unfold opArgs6
  go_enter Try.func33, Try.ntmps33
  go_wp2_with fail
  refine HP.out.mono ?_
  rintro e w1 ⟨rfl, hL⟩
  have bb := box6 Hh.out hL
  have x2 : w1.cell? ⟨w.heap.size, 2, none⟩ = some (.int .i64 sl) := (bb.cell 2).trans rfl
  have x3 : w1.cell? ⟨w.heap.size, 3, none⟩ = some (.int .i64 gn) := (bb.cell 3).trans rfl
  have x4 : w1.cell? ⟨w.heap.size, 4, none⟩ = some (.int .i64 nn) := (bb.cell 4).trans rfl
  have x5 : w1.cell? ⟨w.heap.size, 5, none⟩ = some (.int .u64 xx) := (bb.cell 5).trans rfl
  have hF := HB.out.first hL
  have HL := Lib.hid hL
  have HF := Lib.hid hF
  have hlen : Hid (H'.length = H.length) := by
    have h1 := hL.1.len
    have h2 := HB.out.tab.len
    unfold Hid
    omega
  clear hL hF HP bb
  go_wp2_with fail
  refine (HR.out _ lbx HF.out.1 HF.out.2).mono ?_
  rintro e w2 ⟨rfl, hM⟩
  have HM := Lib.hid hM
  clear hM
  go_wp2_with fail
  go_ret
  exact ⟨rfl, H', W, HG.out, hlen.out, (HB.out.second HL.out HM.out hs).pre KB.out⟩

set_option maxRecDepth 100000 in
set_option maxHeartbeats 2000000 in
theorem does6_free (h : SPair w m lb n lbx t z d H W s) (hl : s.log.length < 2199023255552) (k : Nat) (hk : k ≤ 4611686018427387903) (hg : Gens k H) (o : Bool) (sl gn nn xx : Int) :
    Calls Try.prog 33 (opArgs6 t z o 6 sl gn nn xx) w fun e w' => e = .returned (.bool true) ∧ ∃ H' W', Gens (k + 1) H' ∧ H'.length = H.length ∧ SStep m lb n lbx t z d s H' W' w w' := by
  have kB : Keeps [] w (BX6 w o 6 sl gn nn xx) := (Keeps.refl _ _).alloc _
  have HB := Lib.hid (h.keeps kB)
  have KB := Lib.hid kB
  have Hh := Lib.hid h
  obtain ⟨b, H', s', hgen, hs, hP, hR⟩ := both_free hg hk h.tab.len hl m t z n d sl gn
  have HP := Lib.hid (hP _ lb HB.out.tab HB.out.met)
  have HR := Lib.hid hR
  have HG := Lib.hid hgen
  clear h hl kB hP hR hg hgen
  unfold opArgs6
  go_enter Try.func33, Try.ntmps33
  go_wp2_with fail
  refine HP.out.mono ?_
  rintro e w1 ⟨rfl, hL⟩
  have bb := box6 Hh.out hL
  have x2 : w1.cell? ⟨w.heap.size, 2, none⟩ = some (.int .i64 sl) := (bb.cell 2).trans rfl
  have x3 : w1.cell? ⟨w.heap.size, 3, none⟩ = some (.int .i64 gn) := (bb.cell 3).trans rfl
  have x4 : w1.cell? ⟨w.heap.size, 4, none⟩ = some (.int .i64 nn) := (bb.cell 4).trans rfl
  have x5 : w1.cell? ⟨w.heap.size, 5, none⟩ = some (.int .u64 xx) := (bb.cell 5).trans rfl
  have hF := HB.out.first hL
  have HL := Lib.hid hL
  have HF := Lib.hid hF
  have hlen : Hid (H'.length = H.length) := by
    have h1 := hL.1.len
    have h2 := HB.out.tab.len
    unfold Hid
    omega
  clear hL hF HP bb
  go_wp2_with fail
  refine (HR.out _ lbx HF.out.1 HF.out.2).mono ?_
  rintro e w2 ⟨rfl, hM⟩
  have HM := Lib.hid hM
  clear hM
  go_wp2_with fail
  go_ret
  exact ⟨rfl, H', W, HG.out, hlen.out, (HB.out.second HL.out HM.out hs).pre KB.out⟩

set_option maxRecDepth 100000 in
set_option maxHeartbeats 2000000 in
theorem does6_word (h : SPair w m lb n lbx t z d H W s) (hl : s.log.length < 2199023255552) (k : Nat) (hk : k ≤ 4611686018427387903) (hg : Gens k H) (o : Bool) (sl gn nn xx : Int) :
    Calls Try.prog 33 (opArgs6 t z o 7 sl gn nn xx) w fun e w' => e = .returned (.bool true) ∧ ∃ H' W', Gens (k + 1) H' ∧ H'.length = H.length ∧ SStep m lb n lbx t z d s H' W' w w' := by
  have kB : Keeps [] w (BX6 w o 7 sl gn nn xx) := (Keeps.refl _ _).alloc _
  have HB := Lib.hid (h.keeps kB)
  have KB := Lib.hid kB
  have Hh := Lib.hid h
  obtain ⟨v, b, s', hs, hP, hR⟩ := both_word hg hk h.tab.len hl m t z n d sl nn
  have HP := Lib.hid (hP _ lb HB.out.tab HB.out.met)
  have HR := Lib.hid hR
  have HG := Lib.hid ((Moved.same (s := 0) hg).gens)
  clear h hl kB hP hR hg 
  unfold opArgs6
  go_enter Try.func33, Try.ntmps33
  go_wp2_with fail
  refine HP.out.mono ?_
  rintro e w1 ⟨rfl, hL⟩
  have bb := box6 Hh.out hL
  have x2 : w1.cell? ⟨w.heap.size, 2, none⟩ = some (.int .i64 sl) := (bb.cell 2).trans rfl
  have x3 : w1.cell? ⟨w.heap.size, 3, none⟩ = some (.int .i64 gn) := (bb.cell 3).trans rfl
  have x4 : w1.cell? ⟨w.heap.size, 4, none⟩ = some (.int .i64 nn) := (bb.cell 4).trans rfl
  have x5 : w1.cell? ⟨w.heap.size, 5, none⟩ = some (.int .u64 xx) := (bb.cell 5).trans rfl
  have hF := HB.out.first hL
  have HL := Lib.hid hL
  have HF := Lib.hid hF
  clear hL hF HP bb
  go_wp2_with fail
  refine (HR.out _ lbx HF.out.1 HF.out.2).mono ?_
  rintro e w2 ⟨rfl, hM⟩
  have HM := Lib.hid hM
  clear hM
  go_wp2_with fail
  go_ret
  exact ⟨rfl, H, W, HG.out, rfl, (HB.out.second HL.out HM.out hs).pre KB.out⟩

set_option maxRecDepth 100000 in
set_option maxHeartbeats 2000000 in
theorem does6_put (h : SPair w m lb n lbx t z d H W s) (hl : s.log.length < 2199023255552) (k : Nat) (hk : k ≤ 4611686018427387903) (hg : Gens k H) (o : Bool) (sl gn nn xx : Int) :
    Calls Try.prog 33 (opArgs6 t z o 8 sl gn nn xx) w fun e w' => e = .returned (.bool true) ∧ ∃ H' W', Gens (k + 1) H' ∧ H'.length = H.length ∧ SStep m lb n lbx t z d s H' W' w w' := by
  have kB : Keeps [] w (BX6 w o 8 sl gn nn xx) := (Keeps.refl _ _).alloc _
  have HB := Lib.hid (h.keeps kB)
  have KB := Lib.hid kB
  have Hh := Lib.hid h
  obtain ⟨b, W', s', hwl, hs, hP, hR⟩ := both_put hg hk h.tab.len hl m t z n d sl nn xx
  have HP := Lib.hid (hP _ lb HB.out.tab HB.out.met)
  have HR := Lib.hid hR
  have HG := Lib.hid ((Moved.same (s := 0) hg).gens)
  clear h hl kB hP hR hg 
  unfold opArgs6
  go_enter Try.func33, Try.ntmps33
  go_wp2_with fail
  refine HP.out.mono ?_
  rintro e w1 ⟨rfl, hL⟩
  have bb := box6 Hh.out hL
  have x2 : w1.cell? ⟨w.heap.size, 2, none⟩ = some (.int .i64 sl) := (bb.cell 2).trans rfl
  have x3 : w1.cell? ⟨w.heap.size, 3, none⟩ = some (.int .i64 gn) := (bb.cell 3).trans rfl
  have x4 : w1.cell? ⟨w.heap.size, 4, none⟩ = some (.int .i64 nn) := (bb.cell 4).trans rfl
  have x5 : w1.cell? ⟨w.heap.size, 5, none⟩ = some (.int .u64 xx) := (bb.cell 5).trans rfl
  have hF := HB.out.first hL
  have HL := Lib.hid hL
  have HF := Lib.hid hF
  clear hL hF HP bb
  go_wp2_with fail
  refine (HR.out _ lbx HF.out.1 HF.out.2).mono ?_
  rintro e w2 ⟨rfl, hM⟩
  have HM := Lib.hid hM
  clear hM
  go_wp2_with fail
  go_ret
  exact ⟨rfl, H, W', HG.out, rfl, (HB.out.second HL.out HM.out hs).pre KB.out⟩

set_option maxRecDepth 100000 in
set_option maxHeartbeats 2000000 in
theorem does6_none (h : SPair w m lb n lbx t z d H W s) (k : Nat) (hg : Gens k H) (o : Bool) (kd sl gn nn xx : Int) (hkd : kd ≠ 2 ∧ kd ≠ 3 ∧ kd ≠ 4 ∧ kd ≠ 5 ∧ kd ≠ 6 ∧ kd ≠ 7 ∧ kd ≠ 8) :
    Calls Try.prog 33 (opArgs6 t z o kd sl gn nn xx) w fun e w' => e = .returned (.bool true) ∧ ∃ H' W', Gens (k + 1) H' ∧ H'.length = H.length ∧ SStep m lb n lbx t z d s H' W' w w' := by
  have n2 : (kd == 2) = false := by simp; omega
  have n3 : (kd == 3) = false := by simp; omega
  have n4 : (kd == 4) = false := by simp; omega
  have n5 : (kd == 5) = false := by simp; omega
  have n6 : (kd == 6) = false := by simp; omega
  have n7 : (kd == 7) = false := by simp; omega
  have n8 : (kd == 8) = false := by simp; omega
  have Hh := Lib.hid h
  have HG := Lib.hid ((Moved.same (s := 0) hg).gens)
  clear h hg hkd
  unfold opArgs6
  go_enter Try.func33, Try.ntmps33
  go_wp2_with fail
  go_ret
  exact ⟨rfl, H, W, HG.out, rfl, SStep.rest Hh.out ((Keeps.refl _ _).alloc _)⟩
/-- A step, whatever it is. -/
theorem does6_any (h : SPair w m lb n lbx t z d H W s) (hl : s.log.length < 2199023255552) (k : Nat) (hk : k ≤ 4611686018427387903) (hg : Gens k H) (o : Bool) (kd sl gn nn xx : Int) :
    Calls Try.prog 33 (opArgs6 t z o kd sl gn nn xx) w fun e w' => e = .returned (.bool true) ∧ ∃ H' W', Gens (k + 1) H' ∧ H'.length = H.length ∧ SStep m lb n lbx t z d s H' W' w w' := by
  by_cases k2 : kd = 2
  · subst k2; exact does6_claim h hl k hk hg o sl gn nn xx
  by_cases k3 : kd = 3
  · subst k3; exact does6_ready h hl k hk hg o sl gn nn xx
  by_cases k4 : kd = 4
  · subst k4; exact does6_look h hl k hk hg o sl gn nn xx
  by_cases k5 : kd = 5
  · subst k5; exact does6_doom h hl k hk hg o sl gn nn xx
  by_cases k6 : kd = 6
  · subst k6; exact does6_free h hl k hk hg o sl gn nn xx
  by_cases k7 : kd = 7
  · subst k7; exact does6_word h hl k hk hg o sl gn nn xx
  by_cases k8 : kd = 8
  · subst k8; exact does6_put h hl k hk hg o sl gn nn xx
  exact does6_none h k hg o kd sl gn nn xx ⟨k2, k3, k4, k5, k6, k7, k8⟩
end
end Go.Proofs.Ytdkbdlhfhmgenaa
