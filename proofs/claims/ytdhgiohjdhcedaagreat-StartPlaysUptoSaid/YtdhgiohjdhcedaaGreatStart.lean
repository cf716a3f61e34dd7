/- Layer 10: a begin that is under way, as a function over what a space holds; its calls. -/
import Derived.Test.YtdhgiohjdhcedaaGreatLocal
import Derived.Deep.RegionHeld3
import Derived.Deep.QuietTactic
import Derived.BigQuiet
namespace Go.Proofs.YtdhgiohjdhcedaaGreat
open Go.RowKit
set_option linter.unusedVariables false
/-- A begin. -/
structure St where
  thread : Int
  stamp : Int
  state : Int
  slot : Int
  gen : Int
  cleared : Int
  e : Int
def St.new (t s : Int) : St := ⟨t, s, 0, 0, 0, 0, 4⟩
def St.claim (x : St) (S : Sp) : St × Sp :=
  if (S.claim x.slot x.thread).1.2 = 0 then ({ x with gen := (S.claim x.slot x.thread).1.1, state := 1 }, (S.claim x.slot x.thread).2)
  else if x.slot + 1 = ((S.claim x.slot x.thread).2.H.length : Int) then ({ x with slot := x.slot + 1, e := 6, state := 3 }, (S.claim x.slot x.thread).2)
  else ({ x with slot := x.slot + 1 }, (S.claim x.slot x.thread).2)
/-- A step: what it answers, the begin, the space. -/
def St.step (x : St) (S : Sp) : Int × St × Sp :=
  if x.state = 0 then (1, x.claim S)
  else if x.state = 1 then (1, { x with cleared := x.cleared + 1, state := if x.cleared + 1 = 2 then 2 else 1 }, (S.put x.slot x.cleared 0).2)
  else if x.state = 2 then (1, { x with e := (S.ready x.slot x.gen x.stamp).1, state := 3 }, (S.ready x.slot x.gen x.stamp).2)
  else (3, x, S)
/-- What it tells of its slot. -/
def St.tell (x : St) : Int × Int × Int := if x.e = 0 then (x.slot, x.gen, 0) else (0, 0, x.e)
/-- What steps can make of one. -/
structure St.Ok (x : St) : Prop where
  s0 : 0 ≤ x.slot
  s1 : x.slot ≤ 8
  c0 : 0 ≤ x.cleared
  c1 : x.cleared ≤ 2
  q0 : 0 ≤ x.state
  q3 : x.state ≤ 3
theorem St.new_ok (t s : Int) : (St.new t s).Ok := ⟨by simp [St.new], by simp [St.new], by simp [St.new], by simp [St.new], by simp [St.new], by simp [St.new]⟩
/-- A begin in block b, over the space z. -/
def StAt (w : World) (z : Sb) (b : Nat) (x : St) : Prop := Blk w b 263 #[PT z.p, .int .i64 x.thread, .int .i64 x.stamp, .int .i64 x.state, .int .i64 x.slot, .int .i64 x.gen, .int .i64 x.cleared, .int .i64 x.e]
/-- What a call of a machine in block b leaves of the space. -/
def WentB (w0 w w' : World) (z : Sb) (F : List Nat) (b : Nat) (S' : Sp) : Prop := ∃ F', SP w0 w' z F' S' ∧ Keeps (b :: F) w w' ∧ ∀ x, x ∈ F' → x ∈ F ∨ w.heap.size ≤ x
section
variable {w0 w w' w'' : World} {z : Sb} {F : List Nat} {S S' : Sp} {k b : Nat} {x y : St}
theorem StAt.off (h : StAt w z b x) (hs : SP w0 w z F S) : b ∉ F := hs.out h (by decide)
theorem WentB.of (hs : SP w0 w z F S) {t : TypeId} (hb : tyOf w b = some t) (ht : t ∉ spT) (ht2 : t ∉ spFix) (hl : w0.heap.size ≤ b) (h : Went w0 w w' z F S') (hk : Keeps [b] w' w'') : WentB w0 w w'' z F b S' := by
  obtain ⟨F', h1, h2, h3⟩ := h
  have hbF : b ∉ F := hs.footT.out hb ht
  have hb' : tyOf w' b = some t := tyOf_keeps hb h2 hbF
  have hbF' : b ∉ F' := h1.footT.out hb' ht
  refine ⟨F', h1.away hk (fun x hx => ?_), (h2.mono (T := b :: F) (fun x hx => .inl (by simp [hx]))).trans hk (fun x hx => .inl (by simp at hx; simp [hx])), h3⟩
  simp at hx
  subst hx
  exact ⟨hl, hbF', fun t' ht' => by rw [hb'] at ht'; injection ht' with ht'; subst ht'; exact ht2⟩
theorem WentB.still (hs : SP w0 w z F S) {t : TypeId} (hb : tyOf w b = some t) (ht : t ∉ spT) (ht2 : t ∉ spFix) (hl : w0.heap.size ≤ b) (hk : Keeps [b] w w') : WentB w0 w w' z F b S :=
  WentB.of hs hb ht ht2 hl (hs.stay (Keeps.refl [] w)) hk
theorem st_new (h : SP w0 w z F S) (t s : Int) (t1 : 1 ≤ t) (t2 : t ≤ 8) (s1 : 1 ≤ s) :
    Calls Tryz.prog 62 #[PT z.p, .int .i64 t, .int .i64 s] w fun e w' => ∃ b, e = .returned (.tuple #[PT b, .int .i64 0]) ∧ StAt w' z b (St.new t s) ∧ w.heap.size ≤ b ∧ Keeps [] w w' := by
  clear h
  go_enter Tryz.func62, Tryz.ntmps62
  go_wp2
  go_ret2
  exact ⟨w.heap.size, rfl, Blk.new _ _ _, Nat.le_refl _, by simp⟩
theorem st_new_bad (z : Sb) (t s : Int) (ht : t < 1 ∨ 8 < t ∨ s < 1) :
    Calls Tryz.prog 62 #[PT z.p, .int .i64 t, .int .i64 s] w fun e w' => e = .returned (.tuple #[.pointer none, .int .i64 1]) ∧ w = w' := by
  by_cases h1 : t < 1
  · go_enter Tryz.func62, Tryz.ntmps62
    go_wp2
    go_ret2
    exact ⟨rfl, rfl⟩
  · by_cases h2 : 8 < t
    · go_enter Tryz.func62, Tryz.ntmps62
      go_wp2
      go_ret2
      exact ⟨rfl, rfl⟩
    · have h3 : s < 1 := by omega
      have h4 : ¬ t > 8 := h2
      go_enter Tryz.func62, Tryz.ntmps62
      go_wp2
      go_ret2
      exact ⟨rfl, rfl⟩
theorem st_done (h : StAt w z b x) : Calls Tryz.prog 140 #[PT b] w fun e w' => e = .returned (.bool (x.state == 3)) ∧ w = w' := by
  have c3 : w.cell? ⟨b, 3, none⟩ = some (.int .i64 x.state) := (Blk.cell h 3).trans rfl
  clear h
  by_cases h3 : x.state = 3
  · have h4 : (x.state == 3) = true := by simp [h3]
    rw [h4]
    go_enter Tryz.func140, Tryz.ntmps140
    go_wp2
    go_ret
    exact ⟨rfl, rfl⟩
  · have h4 : (x.state == 3) = false := by simp [h3]
    rw [h4]
    go_enter Tryz.func140, Tryz.ntmps140
    go_wp2
    go_ret
    exact ⟨rfl, rfl⟩
theorem st_slot (h : StAt w z b x) : Calls Tryz.prog 141 #[PT b] w fun e w' => e = .returned (.tuple #[.int .i64 x.tell.1, .int .i64 x.tell.2.1, .int .i64 x.tell.2.2]) ∧ Keeps [] w w' := by
  have c7 : w.cell? ⟨b, 7, none⟩ = some (.int .i64 x.e) := (Blk.cell h 7).trans rfl
  have c4 : w.cell? ⟨b, 4, none⟩ = some (.int .i64 x.slot) := (Blk.cell h 4).trans rfl
  have c5 : w.cell? ⟨b, 5, none⟩ = some (.int .i64 x.gen) := (Blk.cell h 5).trans rfl
  clear h
  by_cases h3 : x.e = 0
  · have h4 : (x.e == 0) = true := by simp [h3]
    rw [show x.tell = (x.slot, x.gen, 0) from by simp [St.tell, h3]]
    clear h3
    go_enter Tryz.func141, Tryz.ntmps141
    go_wp2_with fail
    go_quiet (fail)
    go_wp2_with fail
    go_ret3
    exact ⟨rfl, by simp⟩
  · have h4 : (x.e == 0) = false := by simp [h3]
    rw [show x.tell = (0, 0, x.e) from by simp [St.tell, h3]]
    go_enter Tryz.func141, Tryz.ntmps141
    go_wp2_with fail
    go_quiet (fail)
    go_wp2_with fail
    go_ret3
    exact ⟨rfl, by simp⟩

set_option maxRecDepth 100000 in
set_option maxHeartbeats 8000000 in
theorem st_claim (h : SP w0 w z F S) (hf : Fit k S) (hk : k ≤ 1099511627776) (hb : StAt w z b x) (hl : w0.heap.size ≤ b) (hx : x.Ok) :
    Calls Tryz.prog 143 #[PT b] w fun e w' => e = .returned (.tuple #[]) ∧ WentB w0 w w' z F b (x.claim S).2 ∧ StAt w' z b (x.claim S).1 := by
  have h1 := hx.s0
  have h2 := hx.s1
  have hoff := hb.off h
  have hkB : Keeps [] w w := Keeps.refl _ _
  have HC := Lib.hid (show ∀ w', Keeps [] w w' → w'.cell? ⟨b, 0, none⟩ = some (PT z.p) ∧ w'.cell? ⟨b, 1, none⟩ = some (.int .i64 x.thread) ∧ w'.cell? ⟨b, 4, none⟩ = some (.int .i64 x.slot) from fun w' hk => ⟨((Blk.keeps hb hk (by simp)).cell 0).trans rfl, ((Blk.keeps hb hk (by simp)).cell 1).trans rfl, ((Blk.keeps hb hk (by simp)).cell 4).trans rfl⟩)
  have QS := Lib.hid (fun w' (hk : Keeps [] w w') => slots_held h hk)
  have hcl := fun w' (hk' : Keeps [] w w') => sp_claim (h.calm hk') hf hk x.slot x.thread
  unfold St.claim
  obtain ⟨g, hg⟩ : ∃ g, (S.claim x.slot x.thread).1.1 = g := ⟨_, rfl⟩
  obtain ⟨er, her⟩ : ∃ er, (S.claim x.slot x.thread).1.2 = er := ⟨_, rfl⟩
  obtain ⟨S', hS'⟩ : ∃ S', (S.claim x.slot x.thread).2 = S' := ⟨_, rfl⟩
  simp only [hg, her, hS'] at hcl ⊢
  clear hg her hS'
  have QC := Lib.hid (fun w' (hk' : Keeps [] w w') => (hcl w' hk').mono fun e w'' ⟨he, hw⟩ => And.intro he (hw.pre hk'))
  have HH := Lib.hid h
  have HB := Lib.hid hb
  have HL := Lib.hid hl
  have HOF := Lib.hid hoff
  clear hcl hf hk h hb hl hoff hx
  have hwr : IntKind.i64.wrap (x.slot + 1) = x.slot + 1 := by rw [IntKind.wrap_i64]; omega
  by_cases h0 : er = 0
  · subst h0
    rw [if_pos rfl]
    go_enter Tryz.func143, Tryz.ntmps143
    go_wp2_with fail
    go_region_held3 (fun w' => w'.cell? ⟨b, 0, none⟩ = some (PT z.p) ∧ w'.cell? ⟨b, 1, none⟩ = some (.int .i64 x.thread) ∧ w'.cell? ⟨b, 4, none⟩ = some (.int .i64 x.slot)) (first | with_reducible exact HC.out _ (by first | assumption | exact Keeps.drew (by assumption)) | exact ⟨d0, d1, d4⟩ | go_keep) ((first
    | (go_at_call 19; refine (QS.out _ (by first | assumption | exact Keeps.drew (by assumption))).mono ?_; rintro e wc ⟨rfl, hkc⟩)
    | (go_at_call 22; refine (QC.out _ (by first | assumption | exact Keeps.drew (by assumption))).mono ?_; rintro e wd ⟨rfl, hW⟩; obtain ⟨F', hs1, hk1, hn1⟩ := hW; have hbd := Blk.keeps HB.out hk1 HOF.out; have d0 : wd.cell? ⟨b, 0, none⟩ = some (PT z.p) := (hbd.cell 0).trans rfl; have d1 : wd.cell? ⟨b, 1, none⟩ = some (.int .i64 x.thread) := (hbd.cell 1).trans rfl; have d4 : wd.cell? ⟨b, 4, none⟩ = some (.int .i64 x.slot) := (hbd.cell 4).trans rfl; have d5 : wd.cell? ⟨b, 5, none⟩ = some (.int .i64 x.gen) := (hbd.cell 5).trans rfl; have d3 : wd.cell? ⟨b, 3, none⟩ = some (.int .i64 x.state) := (hbd.cell 3).trans rfl; have f5 := hbd.frozen 5; have f3 := hbd.frozen 3; have HBD := Lib.hid hbd; have HWT : Hid (Went w0 w wd z F S') := ⟨F', hs1, hk1, hn1⟩; clear hbd hs1 hk1 hn1)))
    all_goals
      go_wp2_with fail
      go_returns
      refine ⟨rfl, WentB.of HH.out (Blk.tyOf HB.out) (by decide) (by decide) HL.out HWT.out (((Keeps.refl [b] wd).setCell (.inl (by simp)) _).setCell (.inl (by simp)) _), ?_⟩
      have := (HBD.out.set_ 5 (.int .i64 g)).set_ 3 (.int .i64 1)
      simpa [StAt] using this
  · have n0 : (er == 0) = false := by simp [h0]
    rw [if_neg h0]
    by_cases h5 : x.slot + 1 = (S'.H.length : Int)
    · rw [if_pos h5]
      have n5 : (x.slot + 1 == (S'.H.length : Int)) = true := by simp [h5]
      clear h5
      go_enter Tryz.func143, Tryz.ntmps143
      go_wp2_with fail
      go_region_held3 (fun w' => w'.cell? ⟨b, 0, none⟩ = some (PT z.p) ∧ w'.cell? ⟨b, 1, none⟩ = some (.int .i64 x.thread) ∧ w'.cell? ⟨b, 4, none⟩ = some (.int .i64 x.slot)) (first | with_reducible exact HC.out _ (by first | assumption | exact Keeps.drew (by assumption)) | exact ⟨d0, d1, d4⟩ | go_keep) ((first
      | (go_at_call 19; refine (QS.out _ (by first | assumption | exact Keeps.drew (by assumption))).mono ?_; rintro e wc ⟨rfl, hkc⟩)
      | (go_at_call 22; refine (QC.out _ (by first | assumption | exact Keeps.drew (by assumption))).mono ?_; rintro e wd ⟨rfl, hW⟩; obtain ⟨F', hs1, hk1, hn1⟩ := hW; have hbd := Blk.keeps HB.out hk1 HOF.out; have d0 : wd.cell? ⟨b, 0, none⟩ = some (PT z.p) := (hbd.cell 0).trans rfl; have d1 : wd.cell? ⟨b, 1, none⟩ = some (.int .i64 x.thread) := (hbd.cell 1).trans rfl; have d4 : wd.cell? ⟨b, 4, none⟩ = some (.int .i64 x.slot) := (hbd.cell 4).trans rfl; have f4 := hbd.frozen 4; have HBD := Lib.hid hbd; have HWT : Hid (Went w0 w wd z F S') := ⟨F', hs1, hk1, hn1⟩; have HS1 := Lib.hid hs1; clear hbd hs1 hk1 hn1)))
      go_wp2_with fail
      have hb2 : StAt (wd.setCell ⟨b, 4, none⟩ (.int .i64 (x.slot + 1))) z b { x with slot := x.slot + 1 } := by
        have := HBD.out.set_ 4 (.int .i64 (x.slot + 1))
        simpa [StAt] using this
      have hk2 : Keeps [b] wd (wd.setCell ⟨b, 4, none⟩ (.int .i64 (x.slot + 1))) := (Keeps.refl [b] wd).setCell (.inl (by simp)) _
      have hs2 : SP w0 (wd.setCell ⟨b, 4, none⟩ (.int .i64 (x.slot + 1))) z F' S' := HS1.out.away hk2 (fun q hq => by
        simp at hq
        subst hq
        exact ⟨HL.out, HS1.out.out HBD.out (by decide), fun t' ht' => by rw [HBD.out.tyOf] at ht'; injection ht' with ht'; subst ht'; decide⟩)
      obtain ⟨we, hwe⟩ : ∃ we, wd.setCell ⟨b, 4, none⟩ (.int .i64 (x.slot + 1)) = we := ⟨_, rfl⟩
      rw [hwe] at hb2 hk2 hs2 ⊢
      clear hwe d0 d1 d4
      have hkB : Keeps [] we we := Keeps.refl _ _
      have HC := Lib.hid (show ∀ w', Keeps [] we w' → w'.cell? ⟨b, 0, none⟩ = some (PT z.p) ∧ w'.cell? ⟨b, 4, none⟩ = some (.int .i64 (x.slot + 1)) from fun w' hk => ⟨((Blk.keeps hb2 hk (by simp)).cell 0).trans rfl, ((Blk.keeps hb2 hk (by simp)).cell 4).trans rfl⟩)
      have QS := Lib.hid (fun w' (hk : Keeps [] we w') => slots_held hs2 hk)
      have QN := Lib.hid (fun w' (hk : Keeps [] we w') => len_heldS hs2 hk)
      have HB2 := Lib.hid hb2
      have HK0 := Lib.hid hk2
      clear hb2 hk2 hs2
      go_region_held3 (fun w' => w'.cell? ⟨b, 0, none⟩ = some (PT z.p) ∧ w'.cell? ⟨b, 4, none⟩ = some (.int .i64 (x.slot + 1))) (first | with_reducible exact HC.out _ (by first | assumption | exact Keeps.drew (by assumption)) | go_keep) ((first
        | (go_at_call 19; refine (QS.out _ (by first | assumption | exact Keeps.drew (by assumption))).mono ?_; rintro e wc ⟨rfl, hkc⟩)
        | (go_at_call 55; refine (QN.out _ (by first | assumption | exact Keeps.drew (by assumption))).mono ?_; rintro e wc ⟨rfl, hkc⟩)))
      have HK2 : Hid (Keeps [b] wd wc) := HK0.out.trans hkc (by simp)
      have hb3 : StAt wc z b { x with slot := x.slot + 1 } := Blk.keeps HB2.out hkc (by simp)
      have c7 : wc.cell? ⟨b, 7, none⟩ = some (.int .i64 x.e) := (Blk.cell hb3 7).trans rfl
      have c3 : wc.cell? ⟨b, 3, none⟩ = some (.int .i64 x.state) := (Blk.cell hb3 3).trans rfl
      have g7 := Blk.frozen hb3 7
      have g3 := Blk.frozen hb3 3
      have HB3 := Lib.hid hb3
      clear hb3
      all_goals
        go_wp2_with fail
        go_end0
        refine ⟨rfl, WentB.of HH.out (Blk.tyOf HB.out) (by decide) (by decide) HL.out HWT.out (HK2.out.trans (T := [b]) ((((Keeps.refl [b] _).setCell (.inl (by simp)) _).setCell (.inl (by simp)) _)) (by simp)), ?_⟩
        have := (HB3.out.set_ 7 (.int .i64 6)).set_ 3 (.int .i64 3)
        simpa [StAt] using this
    · rw [if_neg h5]
      have n5 : (x.slot + 1 == (S'.H.length : Int)) = false := by simp [h5]
      clear h5
      go_enter Tryz.func143, Tryz.ntmps143
      go_wp2_with fail
      go_region_held3 (fun w' => w'.cell? ⟨b, 0, none⟩ = some (PT z.p) ∧ w'.cell? ⟨b, 1, none⟩ = some (.int .i64 x.thread) ∧ w'.cell? ⟨b, 4, none⟩ = some (.int .i64 x.slot)) (first | with_reducible exact HC.out _ (by first | assumption | exact Keeps.drew (by assumption)) | exact ⟨d0, d1, d4⟩ | go_keep) ((first
      | (go_at_call 19; refine (QS.out _ (by first | assumption | exact Keeps.drew (by assumption))).mono ?_; rintro e wc ⟨rfl, hkc⟩)
      | (go_at_call 22; refine (QC.out _ (by first | assumption | exact Keeps.drew (by assumption))).mono ?_; rintro e wd ⟨rfl, hW⟩; obtain ⟨F', hs1, hk1, hn1⟩ := hW; have hbd := Blk.keeps HB.out hk1 HOF.out; have d0 : wd.cell? ⟨b, 0, none⟩ = some (PT z.p) := (hbd.cell 0).trans rfl; have d1 : wd.cell? ⟨b, 1, none⟩ = some (.int .i64 x.thread) := (hbd.cell 1).trans rfl; have d4 : wd.cell? ⟨b, 4, none⟩ = some (.int .i64 x.slot) := (hbd.cell 4).trans rfl; have f4 := hbd.frozen 4; have HBD := Lib.hid hbd; have HWT : Hid (Went w0 w wd z F S') := ⟨F', hs1, hk1, hn1⟩; have HS1 := Lib.hid hs1; clear hbd hs1 hk1 hn1)))
      go_wp2_with fail
      have hb2 : StAt (wd.setCell ⟨b, 4, none⟩ (.int .i64 (x.slot + 1))) z b { x with slot := x.slot + 1 } := by
        have := HBD.out.set_ 4 (.int .i64 (x.slot + 1))
        simpa [StAt] using this
      have hk2 : Keeps [b] wd (wd.setCell ⟨b, 4, none⟩ (.int .i64 (x.slot + 1))) := (Keeps.refl [b] wd).setCell (.inl (by simp)) _
      have hs2 : SP w0 (wd.setCell ⟨b, 4, none⟩ (.int .i64 (x.slot + 1))) z F' S' := HS1.out.away hk2 (fun q hq => by
        simp at hq
        subst hq
        exact ⟨HL.out, HS1.out.out HBD.out (by decide), fun t' ht' => by rw [HBD.out.tyOf] at ht'; injection ht' with ht'; subst ht'; decide⟩)
      obtain ⟨we, hwe⟩ : ∃ we, wd.setCell ⟨b, 4, none⟩ (.int .i64 (x.slot + 1)) = we := ⟨_, rfl⟩
      rw [hwe] at hb2 hk2 hs2 ⊢
      clear hwe d0 d1 d4
      have hkB : Keeps [] we we := Keeps.refl _ _
      have HC := Lib.hid (show ∀ w', Keeps [] we w' → w'.cell? ⟨b, 0, none⟩ = some (PT z.p) ∧ w'.cell? ⟨b, 4, none⟩ = some (.int .i64 (x.slot + 1)) from fun w' hk => ⟨((Blk.keeps hb2 hk (by simp)).cell 0).trans rfl, ((Blk.keeps hb2 hk (by simp)).cell 4).trans rfl⟩)
      have QS := Lib.hid (fun w' (hk : Keeps [] we w') => slots_held hs2 hk)
      have QN := Lib.hid (fun w' (hk : Keeps [] we w') => len_heldS hs2 hk)
      have HB2 := Lib.hid hb2
      have HK0 := Lib.hid hk2
      clear hb2 hk2 hs2
      go_region_held3 (fun w' => w'.cell? ⟨b, 0, none⟩ = some (PT z.p) ∧ w'.cell? ⟨b, 4, none⟩ = some (.int .i64 (x.slot + 1))) (first | with_reducible exact HC.out _ (by first | assumption | exact Keeps.drew (by assumption)) | go_keep) ((first
        | (go_at_call 19; refine (QS.out _ (by first | assumption | exact Keeps.drew (by assumption))).mono ?_; rintro e wc ⟨rfl, hkc⟩)
        | (go_at_call 55; refine (QN.out _ (by first | assumption | exact Keeps.drew (by assumption))).mono ?_; rintro e wc ⟨rfl, hkc⟩)))
      have HK2 : Hid (Keeps [b] wd wc) := HK0.out.trans hkc (by simp)
      have hb3 : StAt wc z b { x with slot := x.slot + 1 } := Blk.keeps HB2.out hkc (by simp)
      have c7 : wc.cell? ⟨b, 7, none⟩ = some (.int .i64 x.e) := (Blk.cell hb3 7).trans rfl
      have c3 : wc.cell? ⟨b, 3, none⟩ = some (.int .i64 x.state) := (Blk.cell hb3 3).trans rfl
      have g7 := Blk.frozen hb3 7
      have g3 := Blk.frozen hb3 3
      have HB3 := Lib.hid hb3
      clear hb3
      all_goals
        go_wp2_with fail
        go_end0
        refine ⟨rfl, WentB.of HH.out (Blk.tyOf HB.out) (by decide) (by decide) HL.out HWT.out HK2.out, ?_⟩
        exact HB3.out

set_option maxRecDepth 100000 in
set_option maxHeartbeats 8000000 in
theorem st_step (h : SP w0 w z F S) (hf : Fit k S) (hk : k ≤ 1099511627776) (hb : StAt w z b x) (hl : w0.heap.size ≤ b) (hx : x.Ok) :
    Calls Tryz.prog 64 #[PT b] w fun e w' => e = .returned (.int .i64 (x.step S).1) ∧ WentB w0 w w' z F b (x.step S).2.2 ∧ StAt w' z b (x.step S).2.1 := by
  have hoff := hb.off h
  have q0 := hx.q0
  have q3 := hx.q3
  have c0 := hx.c0
  have c1 := hx.c1
  by_cases e0 : x.state = 0
  · have hc := st_claim h hf hk hb hl hx
    rw [show x.step S = (1, x.claim S) from by simp [St.step, e0]]
    have HQ := Lib.hid hc
    have c3 : w.cell? ⟨b, 3, none⟩ = some (.int .i64 0) := by rw [← e0]; exact (Blk.cell hb 3).trans rfl
    clear hc h hf hk hb hl hx hoff e0 q0 q3 c0 c1
    go_enter Tryz.func64, Tryz.ntmps64
    go_wp2_with fail
    refine HQ.out.mono ?_
    rintro e w1 ⟨rfl, h1, h2⟩
    have H1 := Lib.hid (And.intro h1 h2)
    clear h1 h2 HQ
    go_wp2_with fail
    go_ret
    exact ⟨rfl, H1.out⟩
  obtain ⟨th, st, q, sl, g, cl, er⟩ := x
  simp only at e0 q0 q3 c0 c1
  by_cases e1 : q = 1
  · subst e1
    have hcl := fun w' (hk' : Keeps [] w w') => sp_put (h.calm hk') hf hk sl cl 0
    have hwr : IntKind.i64.wrap (cl + 1) = cl + 1 := by rw [IntKind.wrap_i64]; omega
    rw [show (St.mk th st 1 sl g cl er).step S = (1, ⟨th, st, if cl + 1 = 2 then 2 else 1, sl, g, cl + 1, er⟩, (S.put sl cl 0).2) from by simp [St.step]]
    obtain ⟨S', hS'⟩ : ∃ S', (S.put sl cl 0).2 = S' := ⟨_, rfl⟩
    obtain ⟨pr, hpr⟩ : ∃ pr, (S.put sl cl 0).1 = pr := ⟨_, rfl⟩
    simp only [hS', hpr] at hcl ⊢
    clear hS' hpr
    have QC := Lib.hid (fun w' (hk' : Keeps [] w w') => (hcl w' hk').mono fun e w'' ⟨he, hw⟩ => And.intro he (hw.pre hk'))
    have hkB : Keeps [] w w := Keeps.refl _ _
    have HC := Lib.hid (show ∀ w', Keeps [] w w' → w'.cell? ⟨b, 0, none⟩ = some (PT z.p) ∧ w'.cell? ⟨b, 4, none⟩ = some (.int .i64 sl) ∧ w'.cell? ⟨b, 6, none⟩ = some (.int .i64 cl) from fun w' hk => ⟨((Blk.keeps hb hk (by simp)).cell 0).trans rfl, ((Blk.keeps hb hk (by simp)).cell 4).trans rfl, ((Blk.keeps hb hk (by simp)).cell 6).trans rfl⟩)
    have QS := Lib.hid (fun w' (hk : Keeps [] w w') => slots_held h hk)
    have HH := Lib.hid h
    have HB := Lib.hid hb
    have HL := Lib.hid hl
    have HOF := Lib.hid hoff
    have c3 : w.cell? ⟨b, 3, none⟩ = some (.int .i64 1) := (Blk.cell hb 3).trans rfl
    clear hcl hf hk h hb hl hoff hx q0 q3 e0
    by_cases h2 : cl + 1 = 2
    · rw [if_pos h2]
      have n2 : (cl + 1 == 2) = true := by simp [h2]
      clear h2
      go_enter Tryz.func64, Tryz.ntmps64
      go_wp2_with fail
      go_region_held3 (fun w' => w'.cell? ⟨b, 0, none⟩ = some (PT z.p) ∧ w'.cell? ⟨b, 4, none⟩ = some (.int .i64 sl) ∧ w'.cell? ⟨b, 6, none⟩ = some (.int .i64 cl)) (first | with_reducible exact HC.out _ (by first | assumption | exact Keeps.drew (by assumption)) | exact ⟨d0, d4, d6⟩ | go_keep) ((first
      | (go_at_call 19; refine (QS.out _ (by first | assumption | exact Keeps.drew (by assumption))).mono ?_; rintro e wc ⟨rfl, hkc⟩)
      | (go_at_call 104; refine (QC.out _ (by first | assumption | exact Keeps.drew (by assumption))).mono ?_; rintro e wd ⟨rfl, hW⟩; obtain ⟨F', hs1, hk1, hn1⟩ := hW; have hbd := Blk.keeps HB.out hk1 HOF.out; have d0 : wd.cell? ⟨b, 0, none⟩ = some (PT z.p) := (hbd.cell 0).trans rfl; have d4 : wd.cell? ⟨b, 4, none⟩ = some (.int .i64 sl) := (hbd.cell 4).trans rfl; have d6 : wd.cell? ⟨b, 6, none⟩ = some (.int .i64 cl) := (hbd.cell 6).trans rfl; have d3 : wd.cell? ⟨b, 3, none⟩ = some (.int .i64 1) := (hbd.cell 3).trans rfl; have f6 := hbd.frozen 6; have f3 := hbd.frozen 3; have HBD := Lib.hid hbd; have HWT : Hid (Went w0 w wd z F S') := ⟨F', hs1, hk1, hn1⟩; clear hbd hs1 hk1 hn1)))
      all_goals
        go_wp2_with fail
        go_ret
        refine ⟨rfl, WentB.of HH.out (Blk.tyOf HB.out) (by decide) (by decide) HL.out HWT.out (((Keeps.refl [b] wd).setCell (.inl (by simp)) _).setCell (.inl (by simp)) _), ?_⟩
        have := (HBD.out.set_ 6 (.int .i64 (cl + 1))).set_ 3 (.int .i64 2)
        simpa [StAt] using this
    · rw [if_neg h2]
      have n2 : (cl + 1 == 2) = false := by simp [h2]
      clear h2
      go_enter Tryz.func64, Tryz.ntmps64
      go_wp2_with fail
      go_region_held3 (fun w' => w'.cell? ⟨b, 0, none⟩ = some (PT z.p) ∧ w'.cell? ⟨b, 4, none⟩ = some (.int .i64 sl) ∧ w'.cell? ⟨b, 6, none⟩ = some (.int .i64 cl)) (first | with_reducible exact HC.out _ (by first | assumption | exact Keeps.drew (by assumption)) | exact ⟨d0, d4, d6⟩ | go_keep) ((first
      | (go_at_call 19; refine (QS.out _ (by first | assumption | exact Keeps.drew (by assumption))).mono ?_; rintro e wc ⟨rfl, hkc⟩)
      | (go_at_call 104; refine (QC.out _ (by first | assumption | exact Keeps.drew (by assumption))).mono ?_; rintro e wd ⟨rfl, hW⟩; obtain ⟨F', hs1, hk1, hn1⟩ := hW; have hbd := Blk.keeps HB.out hk1 HOF.out; have d0 : wd.cell? ⟨b, 0, none⟩ = some (PT z.p) := (hbd.cell 0).trans rfl; have d4 : wd.cell? ⟨b, 4, none⟩ = some (.int .i64 sl) := (hbd.cell 4).trans rfl; have d6 : wd.cell? ⟨b, 6, none⟩ = some (.int .i64 cl) := (hbd.cell 6).trans rfl; have d3 : wd.cell? ⟨b, 3, none⟩ = some (.int .i64 1) := (hbd.cell 3).trans rfl; have f6 := hbd.frozen 6; have f3 := hbd.frozen 3; have HBD := Lib.hid hbd; have HWT : Hid (Went w0 w wd z F S') := ⟨F', hs1, hk1, hn1⟩; clear hbd hs1 hk1 hn1)))
      all_goals
        go_wp2_with fail
        go_ret
        refine ⟨rfl, WentB.of HH.out (Blk.tyOf HB.out) (by decide) (by decide) HL.out HWT.out ((Keeps.refl [b] wd).setCell (.inl (by simp)) _), ?_⟩
        have := HBD.out.set_ 6 (.int .i64 (cl + 1))
        simpa [StAt] using this
  by_cases e2 : q = 2
  · subst e2
    have hcl := fun w' (hk' : Keeps [] w w') => sp_ready (h.calm hk') hf hk sl g st
    rw [show (St.mk th st 2 sl g cl er).step S = (1, ⟨th, st, 3, sl, g, cl, (S.ready sl g st).1⟩, (S.ready sl g st).2) from by simp [St.step]]
    obtain ⟨S', hS'⟩ : ∃ S', (S.ready sl g st).2 = S' := ⟨_, rfl⟩
    obtain ⟨pr, hpr⟩ : ∃ pr, (S.ready sl g st).1 = pr := ⟨_, rfl⟩
    simp only [hS', hpr] at hcl ⊢
    clear hS' hpr
    have QC := Lib.hid (fun w' (hk' : Keeps [] w w') => (hcl w' hk').mono fun e w'' ⟨he, hw⟩ => And.intro he (hw.pre hk'))
    have hkB : Keeps [] w w := Keeps.refl _ _
    have HC := Lib.hid (show ∀ w', Keeps [] w w' → w'.cell? ⟨b, 0, none⟩ = some (PT z.p) ∧ w'.cell? ⟨b, 2, none⟩ = some (.int .i64 st) ∧ w'.cell? ⟨b, 4, none⟩ = some (.int .i64 sl) ∧ w'.cell? ⟨b, 5, none⟩ = some (.int .i64 g) from fun w' hk => ⟨((Blk.keeps hb hk (by simp)).cell 0).trans rfl, ((Blk.keeps hb hk (by simp)).cell 2).trans rfl, ((Blk.keeps hb hk (by simp)).cell 4).trans rfl, ((Blk.keeps hb hk (by simp)).cell 5).trans rfl⟩)
    have QS := Lib.hid (fun w' (hk : Keeps [] w w') => slots_held h hk)
    have HH := Lib.hid h
    have HB := Lib.hid hb
    have HL := Lib.hid hl
    have HOF := Lib.hid hoff
    have c3 : w.cell? ⟨b, 3, none⟩ = some (.int .i64 2) := (Blk.cell hb 3).trans rfl
    clear hcl hf hk h hb hl hoff hx q0 q3 e0 e1
    go_enter Tryz.func64, Tryz.ntmps64
    go_wp2_with fail
    go_region_held3 (fun w' => w'.cell? ⟨b, 0, none⟩ = some (PT z.p) ∧ w'.cell? ⟨b, 2, none⟩ = some (.int .i64 st) ∧ w'.cell? ⟨b, 4, none⟩ = some (.int .i64 sl) ∧ w'.cell? ⟨b, 5, none⟩ = some (.int .i64 g)) (first | with_reducible exact HC.out _ (by first | assumption | exact Keeps.drew (by assumption)) | exact ⟨d0, d2, d4, d5⟩ | exact ⟨(Blk.cell (Blk.set_ HBD.out 7 _) 0).trans rfl, (Blk.cell (Blk.set_ HBD.out 7 _) 2).trans rfl, (Blk.cell (Blk.set_ HBD.out 7 _) 4).trans rfl, (Blk.cell (Blk.set_ HBD.out 7 _) 5).trans rfl⟩ | exact ⟨(Blk.cell (Blk.set_ HBD.out 3 _) 0).trans rfl, (Blk.cell (Blk.set_ HBD.out 3 _) 2).trans rfl, (Blk.cell (Blk.set_ HBD.out 3 _) 4).trans rfl, (Blk.cell (Blk.set_ HBD.out 3 _) 5).trans rfl⟩ | exact ⟨(Blk.cell (Blk.set_ (Blk.set_ HBD.out 7 _) 3 _) 0).trans rfl, (Blk.cell (Blk.set_ (Blk.set_ HBD.out 7 _) 3 _) 2).trans rfl, (Blk.cell (Blk.set_ (Blk.set_ HBD.out 7 _) 3 _) 4).trans rfl, (Blk.cell (Blk.set_ (Blk.set_ HBD.out 7 _) 3 _) 5).trans rfl⟩ | exact ⟨(Blk.cell (Blk.set_ (Blk.set_ HBD.out 3 _) 7 _) 0).trans rfl, (Blk.cell (Blk.set_ (Blk.set_ HBD.out 3 _) 7 _) 2).trans rfl, (Blk.cell (Blk.set_ (Blk.set_ HBD.out 3 _) 7 _) 4).trans rfl, (Blk.cell (Blk.set_ (Blk.set_ HBD.out 3 _) 7 _) 5).trans rfl⟩ | go_keep) ((first
      | (go_at_call 19; refine (QS.out _ (by first | assumption | exact Keeps.drew (by assumption))).mono ?_; rintro e wc ⟨rfl, hkc⟩)
      | (go_at_call 23; refine (QC.out _ (by first | assumption | exact Keeps.drew (by assumption))).mono ?_; rintro e wd ⟨rfl, hW⟩; obtain ⟨F', hs1, hk1, hn1⟩ := hW; have hbd := Blk.keeps HB.out hk1 HOF.out; have d0 : wd.cell? ⟨b, 0, none⟩ = some (PT z.p) := (hbd.cell 0).trans rfl; have d2 : wd.cell? ⟨b, 2, none⟩ = some (.int .i64 st) := (hbd.cell 2).trans rfl; have d4 : wd.cell? ⟨b, 4, none⟩ = some (.int .i64 sl) := (hbd.cell 4).trans rfl; have d5 : wd.cell? ⟨b, 5, none⟩ = some (.int .i64 g) := (hbd.cell 5).trans rfl; have d7 : wd.cell? ⟨b, 7, none⟩ = some (.int .i64 er) := (hbd.cell 7).trans rfl; have d3 : wd.cell? ⟨b, 3, none⟩ = some (.int .i64 2) := (hbd.cell 3).trans rfl; have f7 := hbd.frozen 7; have f3 := hbd.frozen 3; have HBD := Lib.hid hbd; have HWT : Hid (Went w0 w wd z F S') := ⟨F', hs1, hk1, hn1⟩; clear hbd hs1 hk1 hn1)))
    all_goals
      go_wp2_with fail
      go_ret
      refine ⟨rfl, WentB.of HH.out (Blk.tyOf HB.out) (by decide) (by decide) HL.out HWT.out (((Keeps.refl [b] wd).setCell (.inl (by simp)) _).setCell (.inl (by simp)) _), ?_⟩
      have := (HBD.out.set_ 7 (.int .i64 pr)).set_ 3 (.int .i64 3)
      simpa [StAt] using this
  · have e3 : q = 3 := by omega
    subst e3
    rw [show (St.mk th st 3 sl g cl er).step S = (3, ⟨th, st, 3, sl, g, cl, er⟩, S) from by simp [St.step]]
    have c3 : w.cell? ⟨b, 3, none⟩ = some (.int .i64 3) := (Blk.cell hb 3).trans rfl
    have HW : Hid (WentB w0 w w z F b S ∧ StAt w z b ⟨th, st, 3, sl, g, cl, er⟩) := ⟨WentB.still h (Blk.tyOf hb) (by decide) (by decide) hl (Keeps.refl _ _), hb⟩
    clear h hf hk hb hl hx hoff q0 q3 c0 c1 e0 e1 e2
    go_enter Tryz.func64, Tryz.ntmps64
    go_wp2_with fail
    go_ret
    exact ⟨rfl, HW.out⟩
end
end Go.Proofs.YtdhgiohjdhcedaaGreat
