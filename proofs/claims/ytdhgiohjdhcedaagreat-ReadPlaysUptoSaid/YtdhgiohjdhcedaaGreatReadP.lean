/- Layer 11: a read publishes a word; a step of a read. -/
import Derived.Test.YtdhgiohjdhcedaaGreatReadH
import Derived.Test.YtdhgiohjdhcedaaGreatRdAl
import Derived.Deep.RegionHeld3
namespace Go.Proofs.YtdhgiohjdhcedaaGreat
open Go.RowKit
set_option linter.unusedVariables false
set_option linter.unusedSimpArgs false
section
variable {w0 w w' w'' : World} {z : Sb} {F G G' : List Nat} {S S' : Sp} {k b : Nat} {x x' : Rd} {wv : Value}
/-- Writes of its own, then a call of the space's. -/
theorem WentR.own_call (hl : RD w0 w z F b G x) (hk : Keeps [b] w w') (hl' : RD w0 w' z F b G' x') (hb : b ∈ G) (hG : ∀ q, q ∈ G' → q ∈ G) (hW : Went w0 w' w'' z F S') : WentR w0 w w'' z F G b S' x' := by
  obtain ⟨F', h1, h2, h3⟩ := hW
  have hz := hk.size
  refine ⟨F', G', h1, hl'.step h2 h3, (hk.mono (T := G ++ F) (fun q hq => .inl (by simp at hq; subst hq; simp [hb]))).trans h2 (fun q hq => .inl (by simp [hq])), fun q hq => ?_, fun q hq => .inl (hG q hq)⟩
  rcases h3 q hq with h | h
  · exact .inl h
  · exact .inr (by omega)
set_option maxRecDepth 100000 in
set_option maxHeartbeats 8000000 in
theorem rd_publish0 (h : SP w0 w z F S) (hf : Fit k S) (hk : k ≤ 1099511627776) (hl : RD w0 w z F b G x) (hn0 : x.next = 0) (l : List Int) (ht : x.words = 0 :: l) : Calls Tryz.prog 170 #[PT b] w fun e w' => e = .returned (.int .i64 1) ∧ WentR w0 w w' z F G b (S.put x.f.slot 0 (x.both.wd 0 : Nat)).2 (x.publish 0 l) := by
  obtain ⟨⟨wv, ha, hG⟩, hlow, hoff⟩ := id hl
  have hn : x.words.length = l.length + 1 := by rw [ht]; rfl
  have hs := ha.words
  rw [hn] at hs
  obtain ⟨g, off, c, rfl, hc, hm, hcell⟩ := hs.spot
  have hbne : g ≠ b := ha.ne g (by simp [vblk, Value.ownBlock])
  have t0 : w.cell? ⟨g, off, none⟩ = some (.int .i64 0) := by
    have := hcell 0 (.int .i64 0) (by rw [ht]; rfl)
    simpa using this
  have c7 : w.cell? ⟨b, 7, none⟩ = some (.slice (some ⟨g, off, none⟩) (l.length + 1) c) := (ha.blk.cell 7).trans rfl
  have c0 : w.cell? ⟨b, 0, none⟩ = some (PT z.p) := (ha.blk.cell 0).trans rfl
  have c1 : w.cell? ⟨b, 1, none⟩ = some (.int .i64 x.f.slot) := (ha.blk.cell 1).trans rfl
  have c4 : w.cell? ⟨b, 4, none⟩ = some (.int .u64 (x.f.sig.a : Int)) := (ha.blk.cell 4).trans rfl
  have c8 : w.cell? ⟨b, 8, none⟩ = some (.int .u64 (x.both.a : Int)) := (ha.blk.cell 8).trans rfl
  have f7 := ha.blk.frozen 7
  have f4 := ha.blk.frozen 4
  have q1 : (0 : Int) < ((l.length + 1 : Nat) : Int) := by omega
  have hnc : (1 : Int) ≤ (l.length + 1 : Nat) := by omega
  have hnc2 : ((l.length + 1 : Nat) : Int) ≤ (c : Int) := by omega
  have hdr : (x.words.map (Value.int .i64)).drop 1 = l.map (Value.int .i64) := by rw [ht]; rfl
  obtain ⟨hc1, hc2⟩ := hs.cut1
  rw [hdr] at hc1 hc2
  have HC12 := Lib.hid (And.intro hc1 hc2)
  have HH := Lib.hid h
  have HL := Lib.hid hl
  have HG := Lib.hid hG
  have HA := Lib.hid ha
  have HN0 := Lib.hid hn0
  have hvb : (x.both.wd 0 : Nat) = x.both.a := rfl
  rw [hvb]
  have hcl := fun (wx : World) (Fx : List Nat) (hx : SP w0 wx z Fx S) => sp_put hx hf hk x.f.slot 0 (x.both.a : Int)
  obtain ⟨er, her⟩ : ∃ q, (S.put x.f.slot 0 (x.both.a : Int)).1 = q := ⟨_, rfl⟩
  obtain ⟨S', hS'⟩ : ∃ q, (S.put x.f.slot 0 (x.both.a : Int)).2 = q := ⟨_, rfl⟩
  simp only [her, hS'] at hcl ⊢
  have QL := Lib.hid hcl
  clear hc1 hc2 hdr hcl her hS' hs hcell hlow hoff ht hn h hf hk hl hG ha hn0 hvb
  go_enter Tryz.func170, Tryz.ntmps170
  go_wp2_with fail
  case inl =>
    have hsl : SlR w 3 1 (.slice (some ⟨g, off, none⟩) l.length 0) l.length (l.map (Value.int .i64)) := by have e := HC12.out.1 ‹c = 1›; rw [‹c = 1›] at e; exact e
    have HSL := Lib.hid hsl
    clear hsl
    go_region
    go_wp2_with fail
    have hkw : Keeps [b] w (((w.setCell ⟨b, 7, none⟩ (.slice (some ⟨g, off, none⟩) l.length 0)).setCell ⟨b, 4, none⟩ (.int .u64 (x.both.a : Int))).drew) := (((Keeps.refl [b] w).setCell (.inl (by simp)) _).setCell (.inl (by simp)) _).drew
    have hbB : Blk (((w.setCell ⟨b, 7, none⟩ (.slice (some ⟨g, off, none⟩) l.length 0)).setCell ⟨b, 4, none⟩ (.int .u64 (x.both.a : Int))).drew) b 289 (rdVals z b (.slice (some ⟨g, off, none⟩) l.length 0) { x with words := l, f := { x.f with sig := x.f.sig.with_ 0 (x.both.wd 0) } }) := by
      have := ((HA.out.blk.set_ 7 (.slice (some ⟨g, off, none⟩) l.length 0)).set_ 4 (.int .u64 (x.both.a : Int))).drew
      simpa [rdVals, Sg.with_, Sg.wd] using this
    obtain ⟨wB, hwB⟩ : ∃ q, ((w.setCell ⟨b, 7, none⟩ (.slice (some ⟨g, off, none⟩) l.length 0)).setCell ⟨b, 4, none⟩ (.int .u64 (x.both.a : Int))).drew = q := ⟨_, rfl⟩
    rw [hwB] at hkw hbB ⊢
    have hrd : RD w0 wB z F b (footR b (.slice (some ⟨g, off, none⟩) l.length 0)) { x with words := l, f := { x.f with sig := x.f.sig.with_ 0 (x.both.wd 0) } } := RD.put (HG.out ▸ HL.out) hkw hbB HSL.out (fun q hq => by simpa [vblk, Value.ownBlock] using hq)
    have hbG : b ∈ G := by rw [HG.out]; simp [footR]
    have hsp := HH.out.ard HL.out hkw (fun q hq => by simp at hq; subst hq; exact hbG)
    have hG' : ∀ q, q ∈ footR b (.slice (some ⟨g, off, none⟩) l.length 0) → q ∈ G := fun q hq => by rw [HG.out]; simpa [footR, vblk, Value.ownBlock] using hq
    have hbF : b ∉ F := HL.out.off b hbG
    have QS := Lib.hid (fun w' (hk : Keeps [] wB w') => slots_held hsp hk)
    have QC := Lib.hid (fun w' (hk' : Keeps [] wB w') => (QL.out w' F (hsp.calm hk')).mono fun e w'' ⟨he, hw⟩ => And.intro he (hw.pre hk'))
    have HC := Lib.hid (show ∀ w', Keeps [] wB w' → w'.cell? ⟨b, 0, none⟩ = some (PT z.p) ∧ w'.cell? ⟨b, 1, none⟩ = some (.int .i64 x.f.slot) ∧ w'.cell? ⟨b, 8, none⟩ = some (.int .u64 (x.both.a : Int)) from fun w' hk => ⟨((Blk.keeps hbB hk (by simp)).cell 0).trans rfl, ((Blk.keeps hbB hk (by simp)).cell 1).trans rfl, ((Blk.keeps hbB hk (by simp)).cell 8).trans rfl⟩)
    have HKW := Lib.hid hkw
    have HBB := Lib.hid hbB
    have HRD := Lib.hid hrd
    have HBG := Lib.hid (And.intro hbG (And.intro hG' hbF))
    have hkB : Keeps [] wB wB := Keeps.refl _ _
    clear hkw hbB hrd hbG hsp hG' hbF hwB t0 c7 c0 c1 c4 c8 f7 f4 hbne
    go_region_held3 (fun w' => w'.cell? ⟨b, 0, none⟩ = some (PT z.p) ∧ w'.cell? ⟨b, 1, none⟩ = some (.int .i64 x.f.slot) ∧ w'.cell? ⟨b, 8, none⟩ = some (.int .u64 (x.both.a : Int))) (first | with_reducible exact HC.out _ (by first | with_reducible assumption | exact Keeps.drew (by with_reducible assumption)) | with_reducible exact ⟨d0, d1, d8⟩ | go_keep) ((first
      | (go_at_call 19; refine (QS.out _ (by first | with_reducible assumption | exact Keeps.drew (by with_reducible assumption))).mono ?_; rintro e wc ⟨rfl, hkc⟩)
      | (go_at_call 104; refine (QC.out _ (by first | with_reducible assumption | exact Keeps.drew (by with_reducible assumption))).mono ?_; rintro e wd ⟨rfl, hW⟩; have HW := Lib.hid (WentR.own_call HL.out HKW.out HRD.out HBG.out.1 HBG.out.2.1 hW); obtain ⟨F', _, hk1, _⟩ := id hW; have hbd := Blk.keeps HBB.out hk1 HBG.out.2.2; have d0 : wd.cell? ⟨b, 0, none⟩ = some (PT z.p) := (hbd.cell 0).trans rfl; have d1 : wd.cell? ⟨b, 1, none⟩ = some (.int .i64 x.f.slot) := (hbd.cell 1).trans rfl; have d8 : wd.cell? ⟨b, 8, none⟩ = some (.int .u64 (x.both.a : Int)) := (hbd.cell 8).trans rfl; have d7 : wd.cell? ⟨b, 7, none⟩ = some (.slice (some ⟨g, off, none⟩) l.length 0) := (hbd.cell 7).trans rfl; have HBD := Lib.hid hbd; have f10 := hbd.frozen 10; clear hbd hk1 hW)))
    all_goals
      have d10 : wd.cell? ⟨b, 10, none⟩ = some (.func (.func 170) #[PT b] #[]) := by
        have := (HBD.out.cell 10).trans (show _ = some (fnOf b x.next) from rfl)
        rw [HN0.out] at this
        exact this
      by_cases hl0 : l.length = 0
      · have hq : (((l.length : Nat) : Int) == 0) = true := by simp [hl0]
        have HX : Hid (x.publish 0 l = { { x with words := l, f := { x.f with sig := x.f.sig.with_ 0 (x.both.wd 0) } } with next := 1 }) := by unfold Hid Rd.publish; rw [if_pos hl0]
        clear hl0
        go_wp2_with fail
        go_ret
        refine ⟨rfl, ?_⟩
        rw [HX.out]
        refine HW.out.write (x' := { { x with words := l, f := { x.f with sig := x.f.sig.with_ 0 (x.both.wd 0) } } with next := 1 }) ((Keeps.refl [b] wd).setCell (p := ⟨b, 10, none⟩) (.inl (by simp)) _) rfl (fun wv hb => ?_)
        have := hb.set_ 10 (fnOf b 1)
        simpa [rdVals, fnOf] using this
      · have hq : (((l.length : Nat) : Int) == 0) = false := by simp [hl0]
        have HX : Hid (x.publish 0 l = { x with words := l, f := { x.f with sig := x.f.sig.with_ 0 (x.both.wd 0) } }) := by unfold Hid Rd.publish; rw [if_neg hl0, ← HN0.out]
        clear hl0
        go_wp2_with fail
        go_ret
        exact ⟨rfl, by rw [HX.out]; exact HW.out⟩
  case inr =>
    have hsl : SlR w 3 1 (.slice (some ⟨g, off + 1, none⟩) l.length (c - 1)) l.length (l.map (Value.int .i64)) := HC12.out.2 ‹¬c = 1›
    have HSL := Lib.hid hsl
    clear hsl
    go_region
    go_wp2_with fail
    have hkw : Keeps [b] w (((w.setCell ⟨b, 7, none⟩ (.slice (some ⟨g, off + 1, none⟩) l.length (c - 1))).setCell ⟨b, 4, none⟩ (.int .u64 (x.both.a : Int))).drew) := (((Keeps.refl [b] w).setCell (.inl (by simp)) _).setCell (.inl (by simp)) _).drew
    have hbB : Blk (((w.setCell ⟨b, 7, none⟩ (.slice (some ⟨g, off + 1, none⟩) l.length (c - 1))).setCell ⟨b, 4, none⟩ (.int .u64 (x.both.a : Int))).drew) b 289 (rdVals z b (.slice (some ⟨g, off + 1, none⟩) l.length (c - 1)) { x with words := l, f := { x.f with sig := x.f.sig.with_ 0 (x.both.wd 0) } }) := by
      have := ((HA.out.blk.set_ 7 (.slice (some ⟨g, off + 1, none⟩) l.length (c - 1))).set_ 4 (.int .u64 (x.both.a : Int))).drew
      simpa [rdVals, Sg.with_, Sg.wd] using this
    obtain ⟨wB, hwB⟩ : ∃ q, ((w.setCell ⟨b, 7, none⟩ (.slice (some ⟨g, off + 1, none⟩) l.length (c - 1))).setCell ⟨b, 4, none⟩ (.int .u64 (x.both.a : Int))).drew = q := ⟨_, rfl⟩
    rw [hwB] at hkw hbB ⊢
    have hrd : RD w0 wB z F b (footR b (.slice (some ⟨g, off + 1, none⟩) l.length (c - 1))) { x with words := l, f := { x.f with sig := x.f.sig.with_ 0 (x.both.wd 0) } } := RD.put (HG.out ▸ HL.out) hkw hbB HSL.out (fun q hq => by simpa [vblk, Value.ownBlock] using hq)
    have hbG : b ∈ G := by rw [HG.out]; simp [footR]
    have hsp := HH.out.ard HL.out hkw (fun q hq => by simp at hq; subst hq; exact hbG)
    have hG' : ∀ q, q ∈ footR b (.slice (some ⟨g, off + 1, none⟩) l.length (c - 1)) → q ∈ G := fun q hq => by rw [HG.out]; simpa [footR, vblk, Value.ownBlock] using hq
    have hbF : b ∉ F := HL.out.off b hbG
    have QS := Lib.hid (fun w' (hk : Keeps [] wB w') => slots_held hsp hk)
    have QC := Lib.hid (fun w' (hk' : Keeps [] wB w') => (QL.out w' F (hsp.calm hk')).mono fun e w'' ⟨he, hw⟩ => And.intro he (hw.pre hk'))
    have HC := Lib.hid (show ∀ w', Keeps [] wB w' → w'.cell? ⟨b, 0, none⟩ = some (PT z.p) ∧ w'.cell? ⟨b, 1, none⟩ = some (.int .i64 x.f.slot) ∧ w'.cell? ⟨b, 8, none⟩ = some (.int .u64 (x.both.a : Int)) from fun w' hk => ⟨((Blk.keeps hbB hk (by simp)).cell 0).trans rfl, ((Blk.keeps hbB hk (by simp)).cell 1).trans rfl, ((Blk.keeps hbB hk (by simp)).cell 8).trans rfl⟩)
    have HKW := Lib.hid hkw
    have HBB := Lib.hid hbB
    have HRD := Lib.hid hrd
    have HBG := Lib.hid (And.intro hbG (And.intro hG' hbF))
    have hkB : Keeps [] wB wB := Keeps.refl _ _
    clear hkw hbB hrd hbG hsp hG' hbF hwB t0 c7 c0 c1 c4 c8 f7 f4 hbne
    go_region_held3 (fun w' => w'.cell? ⟨b, 0, none⟩ = some (PT z.p) ∧ w'.cell? ⟨b, 1, none⟩ = some (.int .i64 x.f.slot) ∧ w'.cell? ⟨b, 8, none⟩ = some (.int .u64 (x.both.a : Int))) (first | with_reducible exact HC.out _ (by first | with_reducible assumption | exact Keeps.drew (by with_reducible assumption)) | with_reducible exact ⟨d0, d1, d8⟩ | go_keep) ((first
      | (go_at_call 19; refine (QS.out _ (by first | with_reducible assumption | exact Keeps.drew (by with_reducible assumption))).mono ?_; rintro e wc ⟨rfl, hkc⟩)
      | (go_at_call 104; refine (QC.out _ (by first | with_reducible assumption | exact Keeps.drew (by with_reducible assumption))).mono ?_; rintro e wd ⟨rfl, hW⟩; have HW := Lib.hid (WentR.own_call HL.out HKW.out HRD.out HBG.out.1 HBG.out.2.1 hW); obtain ⟨F', _, hk1, _⟩ := id hW; have hbd := Blk.keeps HBB.out hk1 HBG.out.2.2; have d0 : wd.cell? ⟨b, 0, none⟩ = some (PT z.p) := (hbd.cell 0).trans rfl; have d1 : wd.cell? ⟨b, 1, none⟩ = some (.int .i64 x.f.slot) := (hbd.cell 1).trans rfl; have d8 : wd.cell? ⟨b, 8, none⟩ = some (.int .u64 (x.both.a : Int)) := (hbd.cell 8).trans rfl; have d7 : wd.cell? ⟨b, 7, none⟩ = some (.slice (some ⟨g, off + 1, none⟩) l.length (c - 1)) := (hbd.cell 7).trans rfl; have HBD := Lib.hid hbd; have f10 := hbd.frozen 10; clear hbd hk1 hW)))
    all_goals
      have d10 : wd.cell? ⟨b, 10, none⟩ = some (.func (.func 170) #[PT b] #[]) := by
        have := (HBD.out.cell 10).trans (show _ = some (fnOf b x.next) from rfl)
        rw [HN0.out] at this
        exact this
      by_cases hl0 : l.length = 0
      · have hq : (((l.length : Nat) : Int) == 0) = true := by simp [hl0]
        have HX : Hid (x.publish 0 l = { { x with words := l, f := { x.f with sig := x.f.sig.with_ 0 (x.both.wd 0) } } with next := 1 }) := by unfold Hid Rd.publish; rw [if_pos hl0]
        clear hl0
        go_wp2_with fail
        go_ret
        refine ⟨rfl, ?_⟩
        rw [HX.out]
        refine HW.out.write (x' := { { x with words := l, f := { x.f with sig := x.f.sig.with_ 0 (x.both.wd 0) } } with next := 1 }) ((Keeps.refl [b] wd).setCell (p := ⟨b, 10, none⟩) (.inl (by simp)) _) rfl (fun wv hb => ?_)
        have := hb.set_ 10 (fnOf b 1)
        simpa [rdVals, fnOf] using this
      · have hq : (((l.length : Nat) : Int) == 0) = false := by simp [hl0]
        have HX : Hid (x.publish 0 l = { x with words := l, f := { x.f with sig := x.f.sig.with_ 0 (x.both.wd 0) } }) := by unfold Hid Rd.publish; rw [if_neg hl0, ← HN0.out]
        clear hl0
        go_wp2_with fail
        go_ret
        exact ⟨rfl, by rw [HX.out]; exact HW.out⟩
set_option maxRecDepth 100000 in
set_option maxHeartbeats 8000000 in
theorem rd_publish1 (h : SP w0 w z F S) (hf : Fit k S) (hk : k ≤ 1099511627776) (hl : RD w0 w z F b G x) (hn0 : x.next = 0) (l : List Int) (ht : x.words = 1 :: l) : Calls Tryz.prog 170 #[PT b] w fun e w' => e = .returned (.int .i64 1) ∧ WentR w0 w w' z F G b (S.put x.f.slot 1 (x.both.wd 1 : Nat)).2 (x.publish 1 l) := by
  obtain ⟨⟨wv, ha, hG⟩, hlow, hoff⟩ := id hl
  have hn : x.words.length = l.length + 1 := by rw [ht]; rfl
  have hs := ha.words
  rw [hn] at hs
  obtain ⟨g, off, c, rfl, hc, hm, hcell⟩ := hs.spot
  have hbne : g ≠ b := ha.ne g (by simp [vblk, Value.ownBlock])
  have t0 : w.cell? ⟨g, off, none⟩ = some (.int .i64 1) := by
    have := hcell 0 (.int .i64 1) (by rw [ht]; rfl)
    simpa using this
  have c7 : w.cell? ⟨b, 7, none⟩ = some (.slice (some ⟨g, off, none⟩) (l.length + 1) c) := (ha.blk.cell 7).trans rfl
  have c0 : w.cell? ⟨b, 0, none⟩ = some (PT z.p) := (ha.blk.cell 0).trans rfl
  have c1 : w.cell? ⟨b, 1, none⟩ = some (.int .i64 x.f.slot) := (ha.blk.cell 1).trans rfl
  have c5 : w.cell? ⟨b, 5, none⟩ = some (.int .u64 (x.f.sig.b : Int)) := (ha.blk.cell 5).trans rfl
  have c9 : w.cell? ⟨b, 9, none⟩ = some (.int .u64 (x.both.b : Int)) := (ha.blk.cell 9).trans rfl
  have f7 := ha.blk.frozen 7
  have f5 := ha.blk.frozen 5
  have q1 : (0 : Int) < ((l.length + 1 : Nat) : Int) := by omega
  have hnc : (1 : Int) ≤ (l.length + 1 : Nat) := by omega
  have hnc2 : ((l.length + 1 : Nat) : Int) ≤ (c : Int) := by omega
  have hdr : (x.words.map (Value.int .i64)).drop 1 = l.map (Value.int .i64) := by rw [ht]; rfl
  obtain ⟨hc1, hc2⟩ := hs.cut1
  rw [hdr] at hc1 hc2
  have HC12 := Lib.hid (And.intro hc1 hc2)
  have HH := Lib.hid h
  have HL := Lib.hid hl
  have HG := Lib.hid hG
  have HA := Lib.hid ha
  have HN0 := Lib.hid hn0
  have hvb : (x.both.wd 1 : Nat) = x.both.b := rfl
  rw [hvb]
  have hcl := fun (wx : World) (Fx : List Nat) (hx : SP w0 wx z Fx S) => sp_put hx hf hk x.f.slot 1 (x.both.b : Int)
  obtain ⟨er, her⟩ : ∃ q, (S.put x.f.slot 1 (x.both.b : Int)).1 = q := ⟨_, rfl⟩
  obtain ⟨S', hS'⟩ : ∃ q, (S.put x.f.slot 1 (x.both.b : Int)).2 = q := ⟨_, rfl⟩
  simp only [her, hS'] at hcl ⊢
  have QL := Lib.hid hcl
  clear hc1 hc2 hdr hcl her hS' hs hcell hlow hoff ht hn h hf hk hl hG ha hn0 hvb
  go_enter Tryz.func170, Tryz.ntmps170
  go_wp2_with fail
  case inl =>
    have hsl : SlR w 3 1 (.slice (some ⟨g, off, none⟩) l.length 0) l.length (l.map (Value.int .i64)) := by have e := HC12.out.1 ‹c = 1›; rw [‹c = 1›] at e; exact e
    have HSL := Lib.hid hsl
    clear hsl
    go_region
    go_wp2_with fail
    have hkw : Keeps [b] w (((w.setCell ⟨b, 7, none⟩ (.slice (some ⟨g, off, none⟩) l.length 0)).setCell ⟨b, 5, none⟩ (.int .u64 (x.both.b : Int))).drew) := (((Keeps.refl [b] w).setCell (.inl (by simp)) _).setCell (.inl (by simp)) _).drew
    have hbB : Blk (((w.setCell ⟨b, 7, none⟩ (.slice (some ⟨g, off, none⟩) l.length 0)).setCell ⟨b, 5, none⟩ (.int .u64 (x.both.b : Int))).drew) b 289 (rdVals z b (.slice (some ⟨g, off, none⟩) l.length 0) { x with words := l, f := { x.f with sig := x.f.sig.with_ 1 (x.both.wd 1) } }) := by
      have := ((HA.out.blk.set_ 7 (.slice (some ⟨g, off, none⟩) l.length 0)).set_ 5 (.int .u64 (x.both.b : Int))).drew
      simpa [rdVals, Sg.with_, Sg.wd] using this
    obtain ⟨wB, hwB⟩ : ∃ q, ((w.setCell ⟨b, 7, none⟩ (.slice (some ⟨g, off, none⟩) l.length 0)).setCell ⟨b, 5, none⟩ (.int .u64 (x.both.b : Int))).drew = q := ⟨_, rfl⟩
    rw [hwB] at hkw hbB ⊢
    have hrd : RD w0 wB z F b (footR b (.slice (some ⟨g, off, none⟩) l.length 0)) { x with words := l, f := { x.f with sig := x.f.sig.with_ 1 (x.both.wd 1) } } := RD.put (HG.out ▸ HL.out) hkw hbB HSL.out (fun q hq => by simpa [vblk, Value.ownBlock] using hq)
    have hbG : b ∈ G := by rw [HG.out]; simp [footR]
    have hsp := HH.out.ard HL.out hkw (fun q hq => by simp at hq; subst hq; exact hbG)
    have hG' : ∀ q, q ∈ footR b (.slice (some ⟨g, off, none⟩) l.length 0) → q ∈ G := fun q hq => by rw [HG.out]; simpa [footR, vblk, Value.ownBlock] using hq
    have hbF : b ∉ F := HL.out.off b hbG
    have QS := Lib.hid (fun w' (hk : Keeps [] wB w') => slots_held hsp hk)
    have QC := Lib.hid (fun w' (hk' : Keeps [] wB w') => (QL.out w' F (hsp.calm hk')).mono fun e w'' ⟨he, hw⟩ => And.intro he (hw.pre hk'))
    have HC := Lib.hid (show ∀ w', Keeps [] wB w' → w'.cell? ⟨b, 0, none⟩ = some (PT z.p) ∧ w'.cell? ⟨b, 1, none⟩ = some (.int .i64 x.f.slot) ∧ w'.cell? ⟨b, 9, none⟩ = some (.int .u64 (x.both.b : Int)) from fun w' hk => ⟨((Blk.keeps hbB hk (by simp)).cell 0).trans rfl, ((Blk.keeps hbB hk (by simp)).cell 1).trans rfl, ((Blk.keeps hbB hk (by simp)).cell 9).trans rfl⟩)
    have HKW := Lib.hid hkw
    have HBB := Lib.hid hbB
    have HRD := Lib.hid hrd
    have HBG := Lib.hid (And.intro hbG (And.intro hG' hbF))
    have hkB : Keeps [] wB wB := Keeps.refl _ _
    clear hkw hbB hrd hbG hsp hG' hbF hwB t0 c7 c0 c1 c5 c9 f7 f5 hbne
    go_region_held3 (fun w' => w'.cell? ⟨b, 0, none⟩ = some (PT z.p) ∧ w'.cell? ⟨b, 1, none⟩ = some (.int .i64 x.f.slot) ∧ w'.cell? ⟨b, 9, none⟩ = some (.int .u64 (x.both.b : Int))) (first | with_reducible exact HC.out _ (by first | with_reducible assumption | exact Keeps.drew (by with_reducible assumption)) | with_reducible exact ⟨d0, d1, d8⟩ | go_keep) ((first
      | (go_at_call 19; refine (QS.out _ (by first | with_reducible assumption | exact Keeps.drew (by with_reducible assumption))).mono ?_; rintro e wc ⟨rfl, hkc⟩)
      | (go_at_call 104; refine (QC.out _ (by first | with_reducible assumption | exact Keeps.drew (by with_reducible assumption))).mono ?_; rintro e wd ⟨rfl, hW⟩; have HW := Lib.hid (WentR.own_call HL.out HKW.out HRD.out HBG.out.1 HBG.out.2.1 hW); obtain ⟨F', _, hk1, _⟩ := id hW; have hbd := Blk.keeps HBB.out hk1 HBG.out.2.2; have d0 : wd.cell? ⟨b, 0, none⟩ = some (PT z.p) := (hbd.cell 0).trans rfl; have d1 : wd.cell? ⟨b, 1, none⟩ = some (.int .i64 x.f.slot) := (hbd.cell 1).trans rfl; have d8 : wd.cell? ⟨b, 9, none⟩ = some (.int .u64 (x.both.b : Int)) := (hbd.cell 9).trans rfl; have d7 : wd.cell? ⟨b, 7, none⟩ = some (.slice (some ⟨g, off, none⟩) l.length 0) := (hbd.cell 7).trans rfl; have HBD := Lib.hid hbd; have f10 := hbd.frozen 10; clear hbd hk1 hW)))
    all_goals
      have d10 : wd.cell? ⟨b, 10, none⟩ = some (.func (.func 170) #[PT b] #[]) := by
        have := (HBD.out.cell 10).trans (show _ = some (fnOf b x.next) from rfl)
        rw [HN0.out] at this
        exact this
      by_cases hl0 : l.length = 0
      · have hq : (((l.length : Nat) : Int) == 0) = true := by simp [hl0]
        have HX : Hid (x.publish 1 l = { { x with words := l, f := { x.f with sig := x.f.sig.with_ 1 (x.both.wd 1) } } with next := 1 }) := by unfold Hid Rd.publish; rw [if_pos hl0]
        clear hl0
        go_wp2_with fail
        go_ret
        refine ⟨rfl, ?_⟩
        rw [HX.out]
        refine HW.out.write (x' := { { x with words := l, f := { x.f with sig := x.f.sig.with_ 1 (x.both.wd 1) } } with next := 1 }) ((Keeps.refl [b] wd).setCell (p := ⟨b, 10, none⟩) (.inl (by simp)) _) rfl (fun wv hb => ?_)
        have := hb.set_ 10 (fnOf b 1)
        simpa [rdVals, fnOf] using this
      · have hq : (((l.length : Nat) : Int) == 0) = false := by simp [hl0]
        have HX : Hid (x.publish 1 l = { x with words := l, f := { x.f with sig := x.f.sig.with_ 1 (x.both.wd 1) } }) := by unfold Hid Rd.publish; rw [if_neg hl0, ← HN0.out]
        clear hl0
        go_wp2_with fail
        go_ret
        exact ⟨rfl, by rw [HX.out]; exact HW.out⟩
  case inr =>
    have hsl : SlR w 3 1 (.slice (some ⟨g, off + 1, none⟩) l.length (c - 1)) l.length (l.map (Value.int .i64)) := HC12.out.2 ‹¬c = 1›
    have HSL := Lib.hid hsl
    clear hsl
    go_region
    go_wp2_with fail
    have hkw : Keeps [b] w (((w.setCell ⟨b, 7, none⟩ (.slice (some ⟨g, off + 1, none⟩) l.length (c - 1))).setCell ⟨b, 5, none⟩ (.int .u64 (x.both.b : Int))).drew) := (((Keeps.refl [b] w).setCell (.inl (by simp)) _).setCell (.inl (by simp)) _).drew
    have hbB : Blk (((w.setCell ⟨b, 7, none⟩ (.slice (some ⟨g, off + 1, none⟩) l.length (c - 1))).setCell ⟨b, 5, none⟩ (.int .u64 (x.both.b : Int))).drew) b 289 (rdVals z b (.slice (some ⟨g, off + 1, none⟩) l.length (c - 1)) { x with words := l, f := { x.f with sig := x.f.sig.with_ 1 (x.both.wd 1) } }) := by
      have := ((HA.out.blk.set_ 7 (.slice (some ⟨g, off + 1, none⟩) l.length (c - 1))).set_ 5 (.int .u64 (x.both.b : Int))).drew
      simpa [rdVals, Sg.with_, Sg.wd] using this
    obtain ⟨wB, hwB⟩ : ∃ q, ((w.setCell ⟨b, 7, none⟩ (.slice (some ⟨g, off + 1, none⟩) l.length (c - 1))).setCell ⟨b, 5, none⟩ (.int .u64 (x.both.b : Int))).drew = q := ⟨_, rfl⟩
    rw [hwB] at hkw hbB ⊢
    have hrd : RD w0 wB z F b (footR b (.slice (some ⟨g, off + 1, none⟩) l.length (c - 1))) { x with words := l, f := { x.f with sig := x.f.sig.with_ 1 (x.both.wd 1) } } := RD.put (HG.out ▸ HL.out) hkw hbB HSL.out (fun q hq => by simpa [vblk, Value.ownBlock] using hq)
    have hbG : b ∈ G := by rw [HG.out]; simp [footR]
    have hsp := HH.out.ard HL.out hkw (fun q hq => by simp at hq; subst hq; exact hbG)
    have hG' : ∀ q, q ∈ footR b (.slice (some ⟨g, off + 1, none⟩) l.length (c - 1)) → q ∈ G := fun q hq => by rw [HG.out]; simpa [footR, vblk, Value.ownBlock] using hq
    have hbF : b ∉ F := HL.out.off b hbG
    have QS := Lib.hid (fun w' (hk : Keeps [] wB w') => slots_held hsp hk)
    have QC := Lib.hid (fun w' (hk' : Keeps [] wB w') => (QL.out w' F (hsp.calm hk')).mono fun e w'' ⟨he, hw⟩ => And.intro he (hw.pre hk'))
    have HC := Lib.hid (show ∀ w', Keeps [] wB w' → w'.cell? ⟨b, 0, none⟩ = some (PT z.p) ∧ w'.cell? ⟨b, 1, none⟩ = some (.int .i64 x.f.slot) ∧ w'.cell? ⟨b, 9, none⟩ = some (.int .u64 (x.both.b : Int)) from fun w' hk => ⟨((Blk.keeps hbB hk (by simp)).cell 0).trans rfl, ((Blk.keeps hbB hk (by simp)).cell 1).trans rfl, ((Blk.keeps hbB hk (by simp)).cell 9).trans rfl⟩)
    have HKW := Lib.hid hkw
    have HBB := Lib.hid hbB
    have HRD := Lib.hid hrd
    have HBG := Lib.hid (And.intro hbG (And.intro hG' hbF))
    have hkB : Keeps [] wB wB := Keeps.refl _ _
    clear hkw hbB hrd hbG hsp hG' hbF hwB t0 c7 c0 c1 c5 c9 f7 f5 hbne
    go_region_held3 (fun w' => w'.cell? ⟨b, 0, none⟩ = some (PT z.p) ∧ w'.cell? ⟨b, 1, none⟩ = some (.int .i64 x.f.slot) ∧ w'.cell? ⟨b, 9, none⟩ = some (.int .u64 (x.both.b : Int))) (first | with_reducible exact HC.out _ (by first | with_reducible assumption | exact Keeps.drew (by with_reducible assumption)) | with_reducible exact ⟨d0, d1, d8⟩ | go_keep) ((first
      | (go_at_call 19; refine (QS.out _ (by first | with_reducible assumption | exact Keeps.drew (by with_reducible assumption))).mono ?_; rintro e wc ⟨rfl, hkc⟩)
      | (go_at_call 104; refine (QC.out _ (by first | with_reducible assumption | exact Keeps.drew (by with_reducible assumption))).mono ?_; rintro e wd ⟨rfl, hW⟩; have HW := Lib.hid (WentR.own_call HL.out HKW.out HRD.out HBG.out.1 HBG.out.2.1 hW); obtain ⟨F', _, hk1, _⟩ := id hW; have hbd := Blk.keeps HBB.out hk1 HBG.out.2.2; have d0 : wd.cell? ⟨b, 0, none⟩ = some (PT z.p) := (hbd.cell 0).trans rfl; have d1 : wd.cell? ⟨b, 1, none⟩ = some (.int .i64 x.f.slot) := (hbd.cell 1).trans rfl; have d8 : wd.cell? ⟨b, 9, none⟩ = some (.int .u64 (x.both.b : Int)) := (hbd.cell 9).trans rfl; have d7 : wd.cell? ⟨b, 7, none⟩ = some (.slice (some ⟨g, off + 1, none⟩) l.length (c - 1)) := (hbd.cell 7).trans rfl; have HBD := Lib.hid hbd; have f10 := hbd.frozen 10; clear hbd hk1 hW)))
    all_goals
      have d10 : wd.cell? ⟨b, 10, none⟩ = some (.func (.func 170) #[PT b] #[]) := by
        have := (HBD.out.cell 10).trans (show _ = some (fnOf b x.next) from rfl)
        rw [HN0.out] at this
        exact this
      by_cases hl0 : l.length = 0
      · have hq : (((l.length : Nat) : Int) == 0) = true := by simp [hl0]
        have HX : Hid (x.publish 1 l = { { x with words := l, f := { x.f with sig := x.f.sig.with_ 1 (x.both.wd 1) } } with next := 1 }) := by unfold Hid Rd.publish; rw [if_pos hl0]
        clear hl0
        go_wp2_with fail
        go_ret
        refine ⟨rfl, ?_⟩
        rw [HX.out]
        refine HW.out.write (x' := { { x with words := l, f := { x.f with sig := x.f.sig.with_ 1 (x.both.wd 1) } } with next := 1 }) ((Keeps.refl [b] wd).setCell (p := ⟨b, 10, none⟩) (.inl (by simp)) _) rfl (fun wv hb => ?_)
        have := hb.set_ 10 (fnOf b 1)
        simpa [rdVals, fnOf] using this
      · have hq : (((l.length : Nat) : Int) == 0) = false := by simp [hl0]
        have HX : Hid (x.publish 1 l = { x with words := l, f := { x.f with sig := x.f.sig.with_ 1 (x.both.wd 1) } }) := by unfold Hid Rd.publish; rw [if_neg hl0, ← HN0.out]
        clear hl0
        go_wp2_with fail
        go_ret
        exact ⟨rfl, by rw [HX.out]; exact HW.out⟩
/-- A step of a read. -/
theorem rd_step (h : SP w0 w z F S) (hf : Fit k S) (hk : k ≤ 1099511627776) (hl : RD w0 w z F b G x) (hi : RI x) : Calls Tryz.prog 78 #[PT b] w fun e w' => e = .returned (.int .i64 (x.step S).1) ∧ WentR w0 w w' z F G b (x.step S).2.2 (x.step S).2.1 := by
  obtain ⟨⟨wv, ha, hG⟩, hlow, hoff⟩ := id hl
  have c11 : w.cell? ⟨b, 11, none⟩ = some (.bool x.over) := (ha.blk.cell 11).trans rfl
  cases ho : x.over with
  | true =>
    rw [Rd.step_fin ho]
    rw [ho] at c11
    have HW := Lib.hid (WentR.still h hl (Keeps.refl _ _))
    clear h hf hk hl hi ha hG hlow hoff ho
    go_enter Tryz.func78, Tryz.ntmps78
    go_wp2_with fail
    go_ret
    exact ⟨rfl, HW.out⟩
  | false =>
    rw [ho] at c11
    rcases hi.ways ho with ⟨hn, v, l, hv⟩ | ⟨hn, hv⟩ | ⟨hn, hv⟩ | ⟨hn, hv⟩
    · rw [Rd.step_pub ho hn hv]
      have c10 : w.cell? ⟨b, 10, none⟩ = some (.func (.func 170) #[PT b] #[]) := ha.fn hn
      have hv01 := hi.ok.words v (by rw [hv]; simp)
      rcases hv01 with rfl | rfl
      · have Q := Lib.hid (rd_publish0 h hf hk hl hn l hv)
        clear h hf hk hl hi ha hG hlow hoff ho hv
        go_enter Tryz.func78, Tryz.ntmps78
        go_wp2_with fail
        refine Q.out.mono ?_
        rintro e w1 ⟨rfl, hw⟩
        go_wp2_with fail
        go_ret
        exact ⟨rfl, hw⟩
      · have Q := Lib.hid (rd_publish1 h hf hk hl hn l hv)
        clear h hf hk hl hi ha hG hlow hoff ho hv
        go_enter Tryz.func78, Tryz.ntmps78
        go_wp2_with fail
        refine Q.out.mono ?_
        rintro e w1 ⟨rfl, hw⟩
        go_wp2_with fail
        go_ret
        exact ⟨rfl, hw⟩
    · rw [Rd.step_load ho hn]
      have c10 : w.cell? ⟨b, 10, none⟩ = some (.func (.func 169) #[PT b] #[]) := ha.fn hn
      have Q := Lib.hid (rd_load h hf hk hl hn)
      clear h hf hk hl hi ha hG hlow hoff ho hv
      go_enter Tryz.func78, Tryz.ntmps78
      go_wp2_with fail
      refine Q.out.mono ?_
      rintro e w1 ⟨rfl, hw⟩
      go_wp2_with fail
      go_ret
      exact ⟨rfl, hw⟩
    · rw [Rd.step_gate ho hn]
      have c10 : w.cell? ⟨b, 10, none⟩ = some (.func (.func 217) #[PT b] #[]) := ha.fn hn
      have Q := Lib.hid (rd_gate h hf hk hl hn)
      obtain ⟨rv, hrv⟩ : ∃ rv : Int, (if S.gate.number % 2 = 1 then 2 else 1) = rv := ⟨_, rfl⟩
      simp only [hrv] at Q ⊢
      clear hrv
      clear h hf hk hl hi ha hG hlow hoff ho hv
      go_enter Tryz.func78, Tryz.ntmps78
      go_wp2_with fail
      refine Q.out.mono ?_
      rintro e w1 ⟨rfl, hw⟩
      go_wp2_with fail
      go_ret
      exact ⟨rfl, hw⟩
    · rw [Rd.step_head ho hn]
      have c10 : w.cell? ⟨b, 10, none⟩ = some (.func (.func 232) #[PT b] #[]) := ha.fn hn
      have Q := Lib.hid (rd_head h hf hk hl)
      clear h hf hk hl hi ha hG hlow hoff ho hv
      go_enter Tryz.func78, Tryz.ntmps78
      go_wp2_with fail
      refine Q.out.mono ?_
      rintro e w1 ⟨rfl, hw⟩
      go_wp2_with fail
      go_ret
      exact ⟨rfl, hw⟩
end
end Go.Proofs.YtdhgiohjdhcedaaGreat
