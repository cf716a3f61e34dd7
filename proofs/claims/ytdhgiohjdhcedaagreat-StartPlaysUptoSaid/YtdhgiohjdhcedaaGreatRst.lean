/- Layer 10, the document's side: a begin as the same function over what the space holds; its calls. -/
import Derived.Test.YtdhgiohjdhcedaaGreatStart
import Derived.Test.YtdhgiohjdhcedaaGreatSep
import Derived.Deep.RegionHeld3
import Derived.Deep.QuietTactic
import Derived.BigQuiet
namespace Go.Proofs.YtdhgiohjdhcedaaGreat
open Go.RowKit
set_option linter.unusedVariables false
set_option linter.unusedSimpArgs false
/-- What steps of a begin keep, over n slots. -/
structure St.J (n : Int) (x : St) : Prop where
  ok : x.Ok
  seek : x.state = 0 → x.gen = 0 ∧ x.cleared = 0 ∧ x.slot < n
  clear : x.state = 1 → x.gen ≠ 0 ∧ x.cleared < 2
  ready : x.state = 2 → x.gen ≠ 0 ∧ x.cleared = 2
  open_ : x.state ≠ 3 → x.e = 4
/-- The document's begin in block b, and what the program's holds. -/
def RstAt (w : World) (y : Rb) (b : Nat) (x : St) : Prop := Blk w b 265 #[PT y.p, .int .i64 x.thread, .int .i64 x.stamp, .int .i64 x.slot, .int .i64 x.cleared, .int .i64 x.gen, .bool (x.state == 3), .int .i64 (if x.state = 3 then x.e else 0)]
/-- What a call of a machine in block b leaves of the document's space. -/
def RWentB (w0 w w' : World) (y : Rb) (G : List Nat) (b : Nat) (S' : Sp) : Prop := ∃ G', RP w0 w' y G' S' ∧ Keeps (b :: G) w w' ∧ ∀ q, q ∈ G' → q ∈ G ∨ w.heap.size ≤ q
section
variable {w0 w w' w'' : World} {y : Rb} {G : List Nat} {S S' : Sp} {k b : Nat} {x : St} {n : Int}
theorem RWentB.of (hs : RP w0 w y G S) {t : TypeId} (hb : tyOf w b = some t) (ht : t ∉ rpT) (ht2 : t ∉ rpFix) (hl : w0.heap.size ≤ b) (h : RWent w0 w w' y G S') (hk : Keeps [b] w' w'') : RWentB w0 w w'' y G b S' := by
  obtain ⟨G', h1, h2, h3⟩ := h
  have hbF : b ∉ G := hs.footT.out hb ht
  have hb' : tyOf w' b = some t := tyOf_keeps hb h2 hbF
  have hbF' : b ∉ G' := h1.footT.out hb' ht
  refine ⟨G', h1.away hk (fun x hx => ?_), (h2.mono (T := b :: G) (fun x hx => .inl (by simp [hx]))).trans hk (fun x hx => .inl (by simp at hx; simp [hx])), h3⟩
  simp at hx
  subst hx
  exact ⟨hl, hbF', fun t' ht' => by rw [hb'] at ht'; injection ht' with ht'; subst ht'; exact ht2⟩
theorem RWentB.still (hs : RP w0 w y G S) (hk : Keeps [] w w') : RWentB w0 w w' y G b S := ⟨G, hs.calm hk, hk.mono (by simp), fun q hq => .inl hq⟩
theorem St.new_J (t s : Int) (hn : 0 < n) : (St.new t s).J n := ⟨St.new_ok t s, fun _ => ⟨rfl, rfl, hn⟩, fun h => by simp [St.new] at h, fun h => by simp [St.new] at h, fun _ => rfl⟩
theorem St.J.step (h : x.J n) (hf : Fit k S) (hn : n = S.H.length) : (x.step S).2.1.J n := by
  obtain ⟨th, st, q, sl, g, cl, er⟩ := x
  obtain ⟨⟨s0, s1, c0, c1, q0, q3⟩, h1, h2, h3, h4⟩ := h
  simp only at s0 s1 c0 c1 q0 q3 h1 h2 h3 h4
  have hn8 := hf.nslots.2
  have hlen : (S.claim sl th).2.H.length = S.H.length := by
    unfold Sp.claim
    split
    · rfl
    · split
      · rfl
      · split <;> simp [Sp.acc]
  have hg : (S.claim sl th).1.2 = 0 → 1 ≤ (S.claim sl th).1.1 := by
    unfold Sp.claim
    split
    · intro e; simp at e
    · split
      · intro e; simp at e
      · rename_i v hv
        have := hf.gens _ _ (nth_len hv).2.2
        split
        · intro _; show 1 ≤ v.gen + 1; omega
        · intro e; simp at e
  unfold St.step
  simp only
  split
  · rename_i e0
    obtain ⟨a1, a2, a3⟩ := h1 e0
    have a4 := h4 (by omega)
    subst e0 a1 a2 a4
    unfold St.claim
    simp only
    split
    · rename_i e1
      have := hg e1
      refine ⟨⟨s0, s1, by simp, by simp, by simp, by simp⟩, fun e => ?_, fun _ => ⟨?_, by simp⟩, fun e => ?_, fun _ => rfl⟩
      · simp at e
      · show (S.claim sl th).1.1 ≠ 0; omega
      · simp at e
    · split
      · rename_i e1 e2
        refine ⟨⟨by simp; omega, by simp; omega, by simp, by simp, by simp, by simp⟩, fun e => ?_, fun e => ?_, fun e => ?_, fun e => ?_⟩
        · simp at e
        · simp at e
        · simp at e
        · simp at e
      · rename_i e1 e2
        rw [hlen] at e2
        refine ⟨⟨by simp; omega, by simp; omega, by simp, by simp, by simp, by simp⟩, fun e => ⟨rfl, rfl, ?_⟩, fun e => ?_, fun e => ?_, fun e => rfl⟩
        · show sl + 1 < n; omega
        · simp at e
        · simp at e
  · split
    · rename_i e0 e1
      obtain ⟨a1, a2⟩ := h2 e1
      subst e1
      refine ⟨⟨s0, s1, by simp; omega, by simp; omega, by simp; split <;> omega, by simp; split <;> omega⟩, fun e => ?_, fun e => ⟨a1, ?_⟩, fun e => ⟨a1, ?_⟩, fun e => h4 (by simp)⟩
      · revert e; simp only; split <;> simp
      · revert e; simp only; split
        · simp
        · intro _; omega
      · revert e; simp only; split
        · intro _; assumption
        · simp
    · split
      · refine ⟨⟨s0, s1, c0, c1, by simp, by simp⟩, fun e => ?_, fun e => ?_, fun e => ?_, fun e => ?_⟩
        · simp at e
        · simp at e
        · simp at e
        · simp at e
      · exact ⟨⟨s0, s1, c0, c1, q0, q3⟩, h1, h2, h3, h4⟩
theorem rst_new (y : Rb) (t s : Int) (t1 : 1 ≤ t) (t2 : t ≤ 8) (s1 : 1 ≤ s) :
    Calls Tryz.prog 63 #[PT y.p, .int .i64 t, .int .i64 s] w fun e w' => ∃ b, e = .returned (.tuple #[PT b, .int .i64 0]) ∧ RstAt w' y b (St.new t s) ∧ w.heap.size ≤ b ∧ Keeps [] w w' := by
  have QT := Lib.hid (thread_yes w t t1 t2)
  go_enter Tryz.func63, Tryz.ntmps63
  go_wp2_with fail
  refine QT.out.mono ?_
  rintro e wq ⟨rfl, rfl⟩
  go_wp2_with fail
  go_ret2
  exact ⟨w.heap.size, rfl, Blk.new _ _ _, Nat.le_refl _, by simp⟩
theorem rst_new_bad (y : Rb) (t s : Int) (ht : t < 1 ∨ 8 < t ∨ s < 1) :
    Calls Tryz.prog 63 #[PT y.p, .int .i64 t, .int .i64 s] w fun e w' => e = .returned (.tuple #[.pointer none, .int .i64 1]) ∧ w = w' := by
  by_cases h1 : t < 1 ∨ 8 < t
  · have QT := Lib.hid (thread_no w t h1)
    clear h1 ht
    go_enter Tryz.func63, Tryz.ntmps63
    go_wp2_with fail
    refine QT.out.mono ?_
    rintro e wq ⟨rfl, rfl⟩
    go_wp2_with fail
    go_ret2
    exact ⟨rfl, rfl⟩
  · have h3 : s < 1 := by omega
    have QT := Lib.hid (thread_yes w t (by omega) (by omega))
    clear h1 ht
    go_enter Tryz.func63, Tryz.ntmps63
    go_wp2_with fail
    refine QT.out.mono ?_
    rintro e wq ⟨rfl, rfl⟩
    go_wp2_with fail
    go_ret2
    exact ⟨rfl, rfl⟩
/-- The document's Over. -/
theorem rst_over (h : RstAt w y b x) : w.cell? ⟨b, 6, none⟩ = some (.bool (x.state == 3)) := (Blk.cell h 6).trans rfl
theorem rst_slot (h : RstAt w y b x) (hj : x.J n) : Calls Tryz.prog 144 #[PT b] w fun e w' => e = .returned (.tuple #[.int .i64 x.tell.1, .int .i64 x.tell.2.1, .int .i64 x.tell.2.2]) ∧ Keeps [] w w' := by
  have c6 := rst_over h
  have c3 : w.cell? ⟨b, 3, none⟩ = some (.int .i64 x.slot) := (Blk.cell h 3).trans rfl
  have c5 : w.cell? ⟨b, 5, none⟩ = some (.int .i64 x.gen) := (Blk.cell h 5).trans rfl
  have c7 : w.cell? ⟨b, 7, none⟩ = some (.int .i64 (if x.state = 3 then x.e else 0)) := (Blk.cell h 7).trans rfl
  clear h
  by_cases e3 : x.state = 3
  · rw [if_pos e3] at c7
    have hb3 : (x.state == 3) = true := by simp [e3]
    rw [hb3] at c6
    clear hb3 e3
    by_cases e0 : x.e = 0
    · have h4 : (x.e == 0) = true := by simp [e0]
      have h5 : (x.e != 0) = false := by simp [e0]
      rw [show x.tell = (x.slot, x.gen, 0) from by simp [St.tell, e0]]
      clear e0
      go_enter Tryz.func144, Tryz.ntmps144
      go_wp2_with fail
      go_quiet (fail)
      go_wp2_with fail
      go_ret3
      exact ⟨rfl, by simp⟩
    · have h4 : (x.e == 0) = false := by simp [e0]
      have h5 : (x.e != 0) = true := by simp [e0]
      rw [show x.tell = (0, 0, x.e) from by simp [St.tell, e0]]
      clear e0
      go_enter Tryz.func144, Tryz.ntmps144
      go_wp2_with fail
      go_quiet (fail)
      go_wp2_with fail
      go_ret3
      exact ⟨rfl, by simp⟩
  · have hb3 : (x.state == 3) = false := by simp [e3]
    rw [hb3] at c6
    rw [show x.tell = (0, 0, 4) from by simp [St.tell, hj.open_ e3]]
    clear hb3 e3 c7 hj
    go_enter Tryz.func144, Tryz.ntmps144
    go_wp2_with fail
    go_ret3
    exact ⟨rfl, by simp⟩
set_option maxRecDepth 100000 in
set_option maxHeartbeats 8000000 in
theorem rst_step_claim (h : RP w0 w y G S) (hf : Fit k S) (hk : k ≤ 1099511627776) (hb : RstAt w y b x) (hl : w0.heap.size ≤ b) (hj : x.J S.c.slots) (hs : x.state = 0) :
    Calls Tryz.prog 65 #[PT b] w fun e w' => e = .returned (.int .i64 (x.step S).1) ∧ RWentB w0 w w' y G b (x.step S).2.2 ∧ RstAt w' y b (x.step S).2.1 := by
  obtain ⟨th, st, q, sl, g, cl, er⟩ := x
  simp only at hs hj
  obtain ⟨⟨s0, s1, c0, c1, q0, q3⟩, j1, j2, j3, j4⟩ := hj
  simp only at s0 s1 c0 c1 q0 q3 j1 j2 j3 j4
  subst hs
  obtain ⟨rfl, rfl, hsn⟩ := j1 rfl
  obtain rfl := j4 (by decide)
  have hcl := fun w' (hk' : Keeps [] w w') => rp_claim (h.calm hk') hf hk sl th
  have hlen : (S.claim sl th).2.c = S.c ∧ (S.claim sl th).2.H.length = S.H.length := by
    unfold Sp.claim
    split
    · exact ⟨rfl, rfl⟩
    · split
      · exact ⟨rfl, rfl⟩
      · split
        · exact ⟨rfl, by simp [Sp.acc]⟩
        · exact ⟨rfl, rfl⟩
  have hsl := hf.slots
  have hc1 := hf.c.2.1.1
  rw [show (St.mk th st 0 sl 0 0 4).step S = (1, (St.mk th st 0 sl 0 0 4).claim S) from by simp [St.step]]
  unfold St.claim
  simp only
  obtain ⟨gg, hg⟩ : ∃ g, (S.claim sl th).1.1 = g := ⟨_, rfl⟩
  obtain ⟨er, her⟩ : ∃ er, (S.claim sl th).1.2 = er := ⟨_, rfl⟩
  obtain ⟨S', hS'⟩ : ∃ S', (S.claim sl th).2 = S' := ⟨_, rfl⟩
  simp only [hg, her, hS'] at hcl hlen ⊢
  clear hg her hS'
  have hlS : (S'.H.length : Int) = S'.c.slots := by rw [hlen.2, hlen.1]; omega
  rw [hlS]
  have hwr : IntKind.i64.wrap (sl + 1) = sl + 1 := by rw [IntKind.wrap_i64]; omega
  have hoff : b ∉ G := h.out hb (by decide)
  have hkB : Keeps [] w w := Keeps.refl _ _
  have HC := Lib.hid (show ∀ w', Keeps [] w w' → w'.cell? ⟨b, 0, none⟩ = some (PT y.p) ∧ w'.cell? ⟨y.p, 9, none⟩ = some (PT y.t) ∧ w'.cell? ⟨b, 3, none⟩ = some (.int .i64 sl) ∧ w'.cell? ⟨b, 1, none⟩ = some (.int .i64 th) from fun w' hk => ⟨((Blk.keeps hb hk (by simp)).cell 0).trans rfl, (h.calm hk).cells.2.2.2.2.2.2, ((Blk.keeps hb hk (by simp)).cell 3).trans rfl, ((Blk.keeps hb hk (by simp)).cell 1).trans rfl⟩)
  have QC := Lib.hid (fun w' (hk' : Keeps [] w w') => (hcl w' hk').mono fun e w'' ⟨he, hw⟩ => And.intro he (RWent.pre hk' hw))
  have c6 : w.cell? ⟨b, 6, none⟩ = some (.bool false) := (Blk.cell hb 6).trans rfl
  have c5 : w.cell? ⟨b, 5, none⟩ = some (.int .i64 0) := (Blk.cell hb 5).trans rfl
  have HH := Lib.hid h
  have HB := Lib.hid hb
  have HL := Lib.hid hl
  have HOF := Lib.hid hoff
  clear hcl hf hk h hb hl hoff j1 j2 j3 j4 s0 s1 c0 c1 q0 q3 hsn hlen hsl hc1 hlS
  by_cases h0 : er = 0
  · subst h0
    rw [if_pos rfl]
    go_enter Tryz.func65, Tryz.ntmps65
    go_wp2_with fail
    go_region_held3 (fun w' => w'.cell? ⟨b, 0, none⟩ = some (PT y.p) ∧ w'.cell? ⟨y.p, 9, none⟩ = some (PT y.t) ∧ w'.cell? ⟨b, 3, none⟩ = some (.int .i64 sl) ∧ w'.cell? ⟨b, 1, none⟩ = some (.int .i64 th)) (first | with_reducible exact HC.out _ (by first | with_reducible assumption | with_reducible exact Keeps.drew (by with_reducible assumption)) | with_reducible exact HDC | go_keep) (((go_at_call 128; (with_reducible refine (QC.out _ (by first | with_reducible assumption | with_reducible exact Keeps.drew (by with_reducible assumption))).mono ?_); rintro e wd ⟨rfl, hW⟩; obtain ⟨G', hs1, hk1, hn1⟩ := hW; have hbd := Blk.keeps HB.out hk1 HOF.out; have HDC : wd.cell? ⟨b, 0, none⟩ = some (PT y.p) ∧ wd.cell? ⟨y.p, 9, none⟩ = some (PT y.t) ∧ wd.cell? ⟨b, 3, none⟩ = some (.int .i64 sl) ∧ wd.cell? ⟨b, 1, none⟩ = some (.int .i64 th) := ⟨(hbd.cell 0).trans rfl, hs1.cells.2.2.2.2.2.2, (hbd.cell 3).trans rfl, (hbd.cell 1).trans rfl⟩; have d5 : wd.cell? ⟨b, 5, none⟩ = some (.int .i64 0) := (hbd.cell 5).trans rfl; have f5 := hbd.frozen 5; have d3 : wd.cell? ⟨b, 3, none⟩ = some (.int .i64 sl) := (hbd.cell 3).trans rfl; have f3 := hbd.frozen 3; have d6 : wd.cell? ⟨b, 6, none⟩ = some (.bool false) := (hbd.cell 6).trans rfl; have f6 := hbd.frozen 6; have d7 : wd.cell? ⟨b, 7, none⟩ = some (.int .i64 0) := (hbd.cell 7).trans rfl; have f7 := hbd.frozen 7; have dS : wd.cell? ⟨y.p, 1, none⟩ = some (.int .i64 S'.c.slots) := hs1.cells.2.1; have dB : wd.cell? ⟨b, 0, none⟩ = some (PT y.p) := (hbd.cell 0).trans rfl; have HBD := Lib.hid hbd; have HWT : Hid (RWent w0 w wd y G S') := ⟨G', hs1, hk1, hn1⟩; clear hbd hs1 hk1 hn1)))
    all_goals
      go_wp2_with fail
      go_ret
      refine ⟨rfl, RWentB.of HH.out (Blk.tyOf HB.out) (by decide) (by decide) HL.out HWT.out (by first | exact ((Keeps.refl [b] wd).setCell (.inl (by simp)) _) | exact Keeps.drew ((Keeps.refl [b] wd).setCell (.inl (by simp)) _)), ?_⟩
      have := (HBD.out).set_ 5 (.int .i64 gg)
      first | simpa [RstAt] using this | simpa [RstAt] using this.drew
  · have n0 : (er == 0) = false := by simp [h0]
    rw [if_neg h0]
    by_cases h5 : sl + 1 = S'.c.slots
    · rw [if_pos h5]
      have n5 : (sl + 1 == S'.c.slots) = true := by simp [h5]
      clear h5
      go_enter Tryz.func65, Tryz.ntmps65
      go_wp2_with fail
      go_region_held3 (fun w' => w'.cell? ⟨b, 0, none⟩ = some (PT y.p) ∧ w'.cell? ⟨y.p, 9, none⟩ = some (PT y.t) ∧ w'.cell? ⟨b, 3, none⟩ = some (.int .i64 sl) ∧ w'.cell? ⟨b, 1, none⟩ = some (.int .i64 th)) (first | with_reducible exact HC.out _ (by first | with_reducible assumption | with_reducible exact Keeps.drew (by with_reducible assumption)) | with_reducible exact HDC | go_keep) (((go_at_call 128; (with_reducible refine (QC.out _ (by first | with_reducible assumption | with_reducible exact Keeps.drew (by with_reducible assumption))).mono ?_); rintro e wd ⟨rfl, hW⟩; obtain ⟨G', hs1, hk1, hn1⟩ := hW; have hbd := Blk.keeps HB.out hk1 HOF.out; have HDC : wd.cell? ⟨b, 0, none⟩ = some (PT y.p) ∧ wd.cell? ⟨y.p, 9, none⟩ = some (PT y.t) ∧ wd.cell? ⟨b, 3, none⟩ = some (.int .i64 sl) ∧ wd.cell? ⟨b, 1, none⟩ = some (.int .i64 th) := ⟨(hbd.cell 0).trans rfl, hs1.cells.2.2.2.2.2.2, (hbd.cell 3).trans rfl, (hbd.cell 1).trans rfl⟩; have d5 : wd.cell? ⟨b, 5, none⟩ = some (.int .i64 0) := (hbd.cell 5).trans rfl; have f5 := hbd.frozen 5; have d3 : wd.cell? ⟨b, 3, none⟩ = some (.int .i64 sl) := (hbd.cell 3).trans rfl; have f3 := hbd.frozen 3; have d6 : wd.cell? ⟨b, 6, none⟩ = some (.bool false) := (hbd.cell 6).trans rfl; have f6 := hbd.frozen 6; have d7 : wd.cell? ⟨b, 7, none⟩ = some (.int .i64 0) := (hbd.cell 7).trans rfl; have f7 := hbd.frozen 7; have dS : wd.cell? ⟨y.p, 1, none⟩ = some (.int .i64 S'.c.slots) := hs1.cells.2.1; have dB : wd.cell? ⟨b, 0, none⟩ = some (PT y.p) := (hbd.cell 0).trans rfl; have HBD := Lib.hid hbd; have HWT : Hid (RWent w0 w wd y G S') := ⟨G', hs1, hk1, hn1⟩; clear hbd hs1 hk1 hn1)))
      all_goals
        go_wp2_with fail
        try go_region
        try go_wp2_with fail
        go_ret
        refine ⟨rfl, RWentB.of HH.out (Blk.tyOf HB.out) (by decide) (by decide) HL.out HWT.out (by first | exact ((((Keeps.refl [b] wd).setCell (.inl (by simp)) _).setCell (.inl (by simp)) _).setCell (.inl (by simp)) _) | exact Keeps.drew ((((Keeps.refl [b] wd).setCell (.inl (by simp)) _).setCell (.inl (by simp)) _).setCell (.inl (by simp)) _)), ?_⟩
        have := (((HBD.out).set_ 3 (.int .i64 (sl + 1))).set_ 6 (.bool true)).set_ 7 (.int .i64 6)
        first | simpa [RstAt] using this | simpa [RstAt] using this.drew
    · rw [if_neg h5]
      have n5 : (sl + 1 == S'.c.slots) = false := by simp [h5]
      clear h5
      go_enter Tryz.func65, Tryz.ntmps65
      go_wp2_with fail
      go_region_held3 (fun w' => w'.cell? ⟨b, 0, none⟩ = some (PT y.p) ∧ w'.cell? ⟨y.p, 9, none⟩ = some (PT y.t) ∧ w'.cell? ⟨b, 3, none⟩ = some (.int .i64 sl) ∧ w'.cell? ⟨b, 1, none⟩ = some (.int .i64 th)) (first | with_reducible exact HC.out _ (by first | with_reducible assumption | with_reducible exact Keeps.drew (by with_reducible assumption)) | with_reducible exact HDC | go_keep) (((go_at_call 128; (with_reducible refine (QC.out _ (by first | with_reducible assumption | with_reducible exact Keeps.drew (by with_reducible assumption))).mono ?_); rintro e wd ⟨rfl, hW⟩; obtain ⟨G', hs1, hk1, hn1⟩ := hW; have hbd := Blk.keeps HB.out hk1 HOF.out; have HDC : wd.cell? ⟨b, 0, none⟩ = some (PT y.p) ∧ wd.cell? ⟨y.p, 9, none⟩ = some (PT y.t) ∧ wd.cell? ⟨b, 3, none⟩ = some (.int .i64 sl) ∧ wd.cell? ⟨b, 1, none⟩ = some (.int .i64 th) := ⟨(hbd.cell 0).trans rfl, hs1.cells.2.2.2.2.2.2, (hbd.cell 3).trans rfl, (hbd.cell 1).trans rfl⟩; have d5 : wd.cell? ⟨b, 5, none⟩ = some (.int .i64 0) := (hbd.cell 5).trans rfl; have f5 := hbd.frozen 5; have d3 : wd.cell? ⟨b, 3, none⟩ = some (.int .i64 sl) := (hbd.cell 3).trans rfl; have f3 := hbd.frozen 3; have d6 : wd.cell? ⟨b, 6, none⟩ = some (.bool false) := (hbd.cell 6).trans rfl; have f6 := hbd.frozen 6; have d7 : wd.cell? ⟨b, 7, none⟩ = some (.int .i64 0) := (hbd.cell 7).trans rfl; have f7 := hbd.frozen 7; have dS : wd.cell? ⟨y.p, 1, none⟩ = some (.int .i64 S'.c.slots) := hs1.cells.2.1; have dB : wd.cell? ⟨b, 0, none⟩ = some (PT y.p) := (hbd.cell 0).trans rfl; have HBD := Lib.hid hbd; have HWT : Hid (RWent w0 w wd y G S') := ⟨G', hs1, hk1, hn1⟩; clear hbd hs1 hk1 hn1)))
      all_goals
        go_wp2_with fail
        try go_region
        try go_wp2_with fail
        go_ret
        refine ⟨rfl, RWentB.of HH.out (Blk.tyOf HB.out) (by decide) (by decide) HL.out HWT.out (by first | exact ((Keeps.refl [b] wd).setCell (.inl (by simp)) _) | exact Keeps.drew ((Keeps.refl [b] wd).setCell (.inl (by simp)) _)), ?_⟩
        have := (HBD.out).set_ 3 (.int .i64 (sl + 1))
        first | simpa [RstAt] using this | simpa [RstAt] using this.drew
set_option maxRecDepth 100000 in
set_option maxHeartbeats 8000000 in
theorem rst_step_put (h : RP w0 w y G S) (hf : Fit k S) (hk : k ≤ 1099511627776) (hb : RstAt w y b x) (hl : w0.heap.size ≤ b) (hj : x.J S.c.slots) (hs : x.state = 1) :
    Calls Tryz.prog 65 #[PT b] w fun e w' => e = .returned (.int .i64 (x.step S).1) ∧ RWentB w0 w w' y G b (x.step S).2.2 ∧ RstAt w' y b (x.step S).2.1 := by
  obtain ⟨th, st, q, sl, g, cl, er⟩ := x
  simp only at hs hj
  obtain ⟨⟨s0, s1, c0, c1, q0, q3⟩, j1, j2, j3, j4⟩ := hj
  simp only at s0 s1 c0 c1 q0 q3 j1 j2 j3 j4
  subst hs
  obtain ⟨hg0, hc2⟩ := j2 rfl
  obtain rfl := j4 (by decide)
  have hcl := fun w' (hk' : Keeps [] w w') => rp_put (h.calm hk') hf hk sl cl 0
  rw [show (St.mk th st 1 sl g cl 4).step S = (1, ⟨th, st, if cl + 1 = 2 then 2 else 1, sl, g, cl + 1, 4⟩, (S.put sl cl 0).2) from by simp [St.step]]
  obtain ⟨pr, hpr⟩ : ∃ pr, (S.put sl cl 0).1 = pr := ⟨_, rfl⟩
  obtain ⟨S', hS'⟩ : ∃ S', (S.put sl cl 0).2 = S' := ⟨_, rfl⟩
  simp only [hpr, hS'] at hcl ⊢
  clear hpr hS'
  have hwr : IntKind.i64.wrap (cl + 1) = cl + 1 := by rw [IntKind.wrap_i64]; omega
  have hoff : b ∉ G := h.out hb (by decide)
  have hkB : Keeps [] w w := Keeps.refl _ _
  have HC := Lib.hid (show ∀ w', Keeps [] w w' → w'.cell? ⟨b, 0, none⟩ = some (PT y.p) ∧ w'.cell? ⟨y.p, 9, none⟩ = some (PT y.t) ∧ w'.cell? ⟨b, 3, none⟩ = some (.int .i64 sl) ∧ w'.cell? ⟨b, 4, none⟩ = some (.int .i64 cl) from fun w' hk => ⟨((Blk.keeps hb hk (by simp)).cell 0).trans rfl, (h.calm hk).cells.2.2.2.2.2.2, ((Blk.keeps hb hk (by simp)).cell 3).trans rfl, ((Blk.keeps hb hk (by simp)).cell 4).trans rfl⟩)
  have QC := Lib.hid (fun w' (hk' : Keeps [] w w') => (hcl w' hk').mono fun e w'' ⟨he, hw⟩ => And.intro he (RWent.pre hk' hw))
  have c6 : w.cell? ⟨b, 6, none⟩ = some (.bool false) := (Blk.cell hb 6).trans rfl
  have c5 : w.cell? ⟨b, 5, none⟩ = some (.int .i64 g) := (Blk.cell hb 5).trans rfl
  have c4 : w.cell? ⟨b, 4, none⟩ = some (.int .i64 cl) := (Blk.cell hb 4).trans rfl
  have HH := Lib.hid h
  have HB := Lib.hid hb
  have HL := Lib.hid hl
  have HOF := Lib.hid hoff
  have hgne : (g == 0) = false := by simp [hg0]
  clear hcl hf hk h hb hl hoff j1 j2 j3 j4 s0 s1 q0 q3
  have hcd : decide (cl < 2) = true := decide_eq_true hc2
  obtain ⟨sq, hsq⟩ : ∃ q, (if cl + 1 = 2 then (2 : Int) else 1) = q := ⟨_, rfl⟩
  rw [hsq]
  have hs3 : ¬ sq = 3 := by rw [← hsq]; split <;> decide
  have e3 : (sq == 3) = false := by simp [hs3]
  clear hsq
  go_enter Tryz.func65, Tryz.ntmps65
  go_wp2_with fail
  go_region_held3 (fun w' => w'.cell? ⟨b, 0, none⟩ = some (PT y.p) ∧ w'.cell? ⟨y.p, 9, none⟩ = some (PT y.t) ∧ w'.cell? ⟨b, 3, none⟩ = some (.int .i64 sl) ∧ w'.cell? ⟨b, 4, none⟩ = some (.int .i64 cl)) (first | with_reducible exact HC.out _ (by first | with_reducible assumption | with_reducible exact Keeps.drew (by with_reducible assumption)) | with_reducible exact HDC | go_keep) (((go_at_call 134; (with_reducible refine (QC.out _ (by first | with_reducible assumption | with_reducible exact Keeps.drew (by with_reducible assumption))).mono ?_); rintro e wd ⟨rfl, hW⟩; obtain ⟨G', hs1, hk1, hn1⟩ := hW; have hbd := Blk.keeps HB.out hk1 HOF.out; have HDC : wd.cell? ⟨b, 0, none⟩ = some (PT y.p) ∧ wd.cell? ⟨y.p, 9, none⟩ = some (PT y.t) ∧ wd.cell? ⟨b, 3, none⟩ = some (.int .i64 sl) ∧ wd.cell? ⟨b, 4, none⟩ = some (.int .i64 cl) := ⟨(hbd.cell 0).trans rfl, hs1.cells.2.2.2.2.2.2, (hbd.cell 3).trans rfl, (hbd.cell 4).trans rfl⟩; have d4 : wd.cell? ⟨b, 4, none⟩ = some (.int .i64 cl) := (hbd.cell 4).trans rfl; have f4 := hbd.frozen 4; have dS : wd.cell? ⟨y.p, 1, none⟩ = some (.int .i64 S'.c.slots) := hs1.cells.2.1; have dB : wd.cell? ⟨b, 0, none⟩ = some (PT y.p) := (hbd.cell 0).trans rfl; have HBD := Lib.hid hbd; have HWT : Hid (RWent w0 w wd y G S') := ⟨G', hs1, hk1, hn1⟩; clear hbd hs1 hk1 hn1)))
  all_goals
    go_wp2_with fail
    go_ret
    refine ⟨rfl, RWentB.of HH.out (Blk.tyOf HB.out) (by decide) (by decide) HL.out HWT.out ((Keeps.refl [b] wd).setCell (.inl (by simp)) _), ?_⟩
    have := HBD.out.set_ 4 (.int .i64 (cl + 1))
    unfold RstAt
    simp only [e3, if_neg hs3]
    simpa using this
set_option maxRecDepth 100000 in
set_option maxHeartbeats 8000000 in
theorem rst_step_ready (h : RP w0 w y G S) (hf : Fit k S) (hk : k ≤ 1099511627776) (hb : RstAt w y b x) (hl : w0.heap.size ≤ b) (hj : x.J S.c.slots) (hs : x.state = 2) :
    Calls Tryz.prog 65 #[PT b] w fun e w' => e = .returned (.int .i64 (x.step S).1) ∧ RWentB w0 w w' y G b (x.step S).2.2 ∧ RstAt w' y b (x.step S).2.1 := by
  obtain ⟨th, st, q, sl, g, cl, er⟩ := x
  simp only at hs hj
  obtain ⟨⟨s0, s1, c0, c1, q0, q3⟩, j1, j2, j3, j4⟩ := hj
  simp only at s0 s1 c0 c1 q0 q3 j1 j2 j3 j4
  subst hs
  obtain ⟨hg0, hcl2⟩ := j3 rfl
  obtain rfl := j4 (by decide)
  have hcl := fun w' (hk' : Keeps [] w w') => rp_ready (h.calm hk') hf hk sl g st
  rw [show (St.mk th st 2 sl g cl 4).step S = (1, ⟨th, st, 3, sl, g, cl, (S.ready sl g st).1⟩, (S.ready sl g st).2) from by simp [St.step]]
  obtain ⟨pr, hpr⟩ : ∃ pr, (S.ready sl g st).1 = pr := ⟨_, rfl⟩
  obtain ⟨S', hS'⟩ : ∃ S', (S.ready sl g st).2 = S' := ⟨_, rfl⟩
  simp only [hpr, hS'] at hcl ⊢
  clear hpr hS'
  have hoff : b ∉ G := h.out hb (by decide)
  have hkB : Keeps [] w w := Keeps.refl _ _
  have HC := Lib.hid (show ∀ w', Keeps [] w w' → w'.cell? ⟨b, 0, none⟩ = some (PT y.p) ∧ w'.cell? ⟨y.p, 9, none⟩ = some (PT y.t) ∧ w'.cell? ⟨b, 3, none⟩ = some (.int .i64 sl) ∧ w'.cell? ⟨b, 5, none⟩ = some (.int .i64 g) ∧ w'.cell? ⟨b, 2, none⟩ = some (.int .i64 st) from fun w' hk => ⟨((Blk.keeps hb hk (by simp)).cell 0).trans rfl, (h.calm hk).cells.2.2.2.2.2.2, ((Blk.keeps hb hk (by simp)).cell 3).trans rfl, ((Blk.keeps hb hk (by simp)).cell 5).trans rfl, ((Blk.keeps hb hk (by simp)).cell 2).trans rfl⟩)
  have QC := Lib.hid (fun w' (hk' : Keeps [] w w') => (hcl w' hk').mono fun e w'' ⟨he, hw⟩ => And.intro he (RWent.pre hk' hw))
  have c6 : w.cell? ⟨b, 6, none⟩ = some (.bool false) := (Blk.cell hb 6).trans rfl
  have c5 : w.cell? ⟨b, 5, none⟩ = some (.int .i64 g) := (Blk.cell hb 5).trans rfl
  have c4 : w.cell? ⟨b, 4, none⟩ = some (.int .i64 cl) := (Blk.cell hb 4).trans rfl
  have HH := Lib.hid h
  have HB := Lib.hid hb
  have HL := Lib.hid hl
  have HOF := Lib.hid hoff
  have hgne : (g == 0) = false := by simp [hg0]
  clear hcl hf hk h hb hl hoff j1 j2 j3 j4 s0 s1 q0 q3
  have hcd : decide (cl < 2) = false := decide_eq_false (by omega)
  have HPB : Hid (y.p ≠ b) := fun e => HOF.out (e ▸ HH.out.p_in)
  go_enter Tryz.func65, Tryz.ntmps65
  go_wp2_with fail
  go_region_held3 (fun w' => w'.cell? ⟨b, 0, none⟩ = some (PT y.p) ∧ w'.cell? ⟨y.p, 9, none⟩ = some (PT y.t) ∧ w'.cell? ⟨b, 3, none⟩ = some (.int .i64 sl) ∧ w'.cell? ⟨b, 5, none⟩ = some (.int .i64 g) ∧ w'.cell? ⟨b, 2, none⟩ = some (.int .i64 st)) (first | with_reducible exact HC.out _ (by first | with_reducible assumption | with_reducible exact Keeps.drew (by with_reducible assumption)) | with_reducible exact HDC | exact ⟨(Blk.cell (Blk.set_ HBD.out 7 _) 0).trans rfl, HPD.out _, (Blk.cell (Blk.set_ HBD.out 7 _) 3).trans rfl, (Blk.cell (Blk.set_ HBD.out 7 _) 5).trans rfl, (Blk.cell (Blk.set_ HBD.out 7 _) 2).trans rfl⟩ | go_keep) (((go_at_call 129; (with_reducible refine (QC.out _ (by first | with_reducible assumption | with_reducible exact Keeps.drew (by with_reducible assumption))).mono ?_); rintro e wd ⟨rfl, hW⟩; obtain ⟨G', hs1, hk1, hn1⟩ := hW; have hbd := Blk.keeps HB.out hk1 HOF.out; have HDC : wd.cell? ⟨b, 0, none⟩ = some (PT y.p) ∧ wd.cell? ⟨y.p, 9, none⟩ = some (PT y.t) ∧ wd.cell? ⟨b, 3, none⟩ = some (.int .i64 sl) ∧ wd.cell? ⟨b, 5, none⟩ = some (.int .i64 g) ∧ wd.cell? ⟨b, 2, none⟩ = some (.int .i64 st) := ⟨(hbd.cell 0).trans rfl, hs1.cells.2.2.2.2.2.2, (hbd.cell 3).trans rfl, (hbd.cell 5).trans rfl, (hbd.cell 2).trans rfl⟩; have d7 : wd.cell? ⟨b, 7, none⟩ = some (.int .i64 0) := (hbd.cell 7).trans rfl; have f7 := hbd.frozen 7; have d6 : wd.cell? ⟨b, 6, none⟩ = some (.bool false) := (hbd.cell 6).trans rfl; have f6 := hbd.frozen 6; have dS : wd.cell? ⟨y.p, 1, none⟩ = some (.int .i64 S'.c.slots) := hs1.cells.2.1; have dB : wd.cell? ⟨b, 0, none⟩ = some (PT y.p) := (hbd.cell 0).trans rfl; have HBD := Lib.hid hbd; have HPD : Hid (∀ v : Value, (wd.setCell ⟨b, 7, none⟩ v).cell? ⟨y.p, 9, none⟩ = some (PT y.t)) := fun v => (cell_far hs1.cells.2.2.2.2.2.2 HPB.out v); have HWT : Hid (RWent w0 w wd y G S') := ⟨G', hs1, hk1, hn1⟩; clear hbd hs1 hk1 hn1)))
  all_goals
    go_wp2_with fail
    go_ret
    refine ⟨rfl, RWentB.of HH.out (Blk.tyOf HB.out) (by decide) (by decide) HL.out HWT.out (((Keeps.refl [b] wd).setCell (.inl (by simp)) _).setCell (.inl (by simp)) _), ?_⟩
    have := (HBD.out.set_ 7 (.int .i64 pr)).set_ 6 (.bool true)
    simpa [RstAt] using this
theorem rst_step (h : RP w0 w y G S) (hf : Fit k S) (hk : k ≤ 1099511627776) (hb : RstAt w y b x) (hl : w0.heap.size ≤ b) (hj : x.J S.c.slots) :
    Calls Tryz.prog 65 #[PT b] w fun e w' => e = .returned (.int .i64 (x.step S).1) ∧ RWentB w0 w w' y G b (x.step S).2.2 ∧ RstAt w' y b (x.step S).2.1 := by
  by_cases e0 : x.state = 0
  · exact rst_step_claim h hf hk hb hl hj e0
  by_cases e1 : x.state = 1
  · exact rst_step_put h hf hk hb hl hj e1
  by_cases e2 : x.state = 2
  · exact rst_step_ready h hf hk hb hl hj e2
  have q0 := hj.ok.q0
  have q3 := hj.ok.q3
  have e3 : x.state = 3 := by omega
  rw [show x.step S = (3, x, S) from by simp [St.step, e3]]
  have c6 := rst_over hb
  rw [show (x.state == 3) = true from by simp [e3]] at c6
  have HW : Hid (RWentB w0 w w y G b S ∧ RstAt w y b x) := ⟨RWentB.still h (Keeps.refl _ _), hb⟩
  clear h hf hk hb hl hj e0 e1 e2 q0 q3 e3
  go_enter Tryz.func65, Tryz.ntmps65
  go_wp2_with fail
  go_ret
  exact ⟨rfl, HW.out⟩
end
end Go.Proofs.YtdhgiohjdhcedaaGreat
