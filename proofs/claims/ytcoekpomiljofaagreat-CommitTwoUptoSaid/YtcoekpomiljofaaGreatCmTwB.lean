/- CommitTwo: two commits, two judges, one space and blocks of the law's own in one bundle. -/
import Derived.Test.YtcoekpomiljofaaGreatCmTw
import Derived.Test.YtcoekpomiljofaaGreatCmSide
namespace Go.Proofs.YtcoekpomiljofaaGreat.tw
open Go.RowKit Pol fd al
set_option linter.unusedVariables false
set_option linter.unusedSimpArgs false
theorem CmS.adds {w0 w w' : World} {z : Sb} {jb cb n k : Nat} {S : Sp} {c : Cf} {d : Int} {x : Cm} {X Y : List Nat} (h : CmS w0 w z jb cb n k S c d x X) (hk : Keeps [] w w') (hY : ∀ q, q ∈ Y → w.heap.size ≤ q ∧ ∃ t, tyOf w' q = some t ∧ t ∉ spFix) : CmS w0 w' z jb cb n k S c d x (Y ++ X) := by
  have hz := h.keep.size
  obtain ⟨F, H, dp, hc, ho⟩ := h.ex
  have ho' := ho.step hk (by simp) (fun q hq => .inl hq)
  refine ⟨⟨F, H, dp, hc.calm hk, fun q hq => ?_⟩, h.fit, h.wu, h.cc, h.len, h.ok, h.d0, h.d1⟩
  rw [List.mem_append] at hq
  rcases hq with hq | hq
  · obtain ⟨h1, t, h2, h3⟩ := hY q hq
    refine ⟨by omega, tyOf_lt h2, fun hx => ?_, fun t' e => by rw [h2] at e; injection e with e; exact e ▸ h3⟩
    simp only [List.mem_cons, List.mem_append] at hx
    rcases hx with rfl | hx | hx
    · have := Blk.lt hc.j; omega
    · have := hc.cm.lt _ hx; omega
    · have := hc.sp.lt _ hx; omega
  · exact ho' q hq
/-- Both. -/
structure Tc (w0 w : World) (z : Sb) (jb cb jb2 cb2 k : Nat) (S : Sp) (c : Cf) (x y : Cm) (X : List Nat) : Prop where
  ex : ∃ H2 dp2, CmS w0 w z jb cb 8 k S c 0 x (jb2 :: (H2 ++ X)) ∧ JAt w jb2 c 0 ∧ CmN w0 w z [] jb2 cb2 H2 dp2 (stgVal dp2 y.st) y ∧ jb2 ∉ H2 ∧ (∀ q, q ∈ X → q ≠ jb2 ∧ q ∉ H2)
  ok : y.Ok 8
section
variable {w0 w w' : World} {z : Sb} {F H : List Nat} {jb cb jb2 cb2 k : Nat} {S : Sp} {c : Cf} {x y : Cm} {X : List Nat}
theorem Tc.swap (h : Tc w0 w z jb cb jb2 cb2 k S c x y X) : Tc w0 w z jb2 cb2 jb cb k S c y x X := by
  obtain ⟨⟨H2, dp2, hs, hj2, hm2, hjn, hX⟩, hok⟩ := h
  obtain ⟨F, H, dp, ht, ho⟩ := hs.ex
  have hj0 := ho jb2 (by simp)
  have hH2 : ∀ q, q ∈ H2 → q ∉ jb :: (H ++ F) := fun q hq => (ho q (by simp [hq])).2.2.1
  refine ⟨⟨H, dp, ⟨⟨F, H2, dp2, ⟨ht.sp, hj2, hm2.beside (fun q hq hf => hH2 q hq (by simp [hf])), hjn, hj0.1⟩, fun q hq => ?_⟩, hs.fit, hs.wu, hs.cc, hs.len, hok, by decide, by decide⟩, ht.j, ht.cm.bare, ht.jH, fun q hq => ?_⟩, hs.ok⟩
  · simp only [List.mem_cons, List.mem_append] at hq
    rcases hq with rfl | hq | hq
    · refine ⟨ht.jlow, Blk.lt ht.j, fun hx => ?_, fun t e => by
        have hty := Blk.tyOf ht.j
        rw [hty] at e
        injection e with e
        subst e
        decide⟩
      simp only [List.mem_cons, List.mem_append] at hx
      rcases hx with e | hx | hx
      · exact hj0.2.2.1 (by simp [e])
      · exact hH2 _ hx (by simp)
      · exact ht.jF hx
    · refine ⟨ht.cm.low q hq, ht.cm.lt q hq, fun hx => ?_, fun t e => by
        obtain ⟨t', h1, h2⟩ := ht.cm.ty q hq
        rw [h1] at e
        injection e with e
        exact e ▸ h2⟩
      simp only [List.mem_cons, List.mem_append] at hx
      rcases hx with rfl | hx | hx
      · exact hj0.2.2.1 (by simp [hq])
      · exact hH2 _ hx (by simp [hq])
      · exact ht.cm.off q hq hx
    · obtain ⟨h1, h2, h3, h4⟩ := ho q (by simp [hq])
      refine ⟨h1, h2, fun hx => ?_, h4⟩
      simp only [List.mem_cons, List.mem_append] at hx
      rcases hx with hx | hx | hx
      · exact (hX q hq).1 hx
      · exact (hX q hq).2 hx
      · exact h3 (by simp [hx])
  · have h3 := (ho q (by simp [hq])).2.2.1
    exact ⟨fun e => h3 (by simp [e]), fun hx => h3 (by simp [hx])⟩
theorem Tc.calm (h : Tc w0 w z jb cb jb2 cb2 k S c x y X) (hk : Keeps [] w w') : Tc w0 w' z jb cb jb2 cb2 k S c x y X := by
  obtain ⟨⟨H2, dp2, hs, hj2, hm2, hjn, hX⟩, hok⟩ := h
  exact ⟨⟨H2, dp2, hs.calm hk, Blk.keeps hj2 hk (by simp), hm2.calm hk, hjn, hX⟩, hok⟩
theorem Tc.one (h : Tc w0 w z jb cb jb2 cb2 k S c x y X) : CmRun w0 w z jb cb 8 k S c 0 x := by
  obtain ⟨⟨H2, dp2, hs, _⟩, _⟩ := h
  exact hs.run
theorem Tc.two (h : Tc w0 w z jb cb jb2 cb2 k S c x y X) : CmRun w0 w z jb2 cb2 8 k S c 0 y := h.swap.one
theorem Tc.keep (h : Tc w0 w z jb cb jb2 cb2 k S c x y X) : Keeps [] w0 w := by
  obtain ⟨⟨H2, dp2, hs, _⟩, _⟩ := h
  exact hs.keep
theorem Tc.fit (h : Tc w0 w z jb cb jb2 cb2 k S c x y X) : Fit k S := by
  obtain ⟨⟨H2, dp2, hs, _⟩, _⟩ := h
  exact hs.fit
theorem Tc.view (h : Tc w0 w z jb cb jb2 cb2 k S c x y X) : Calls Tryz.prog 25 #[PT z.p] w fun e w' => ∃ a1 c1 a2 c2, e = .returned (.agg #[.slice (some ⟨a1, 0, none⟩) S.cells.length c1, .int .i64 S.gate.number, .int .i64 S.gate.owner, .slice (some ⟨a2, 0, none⟩) 8 c2]) ∧ OwnC w' a1 c1 S.cells ∧ OwnS w' a2 c2 8 (slL S.H S.W) ∧ w.heap.size ≤ a1 ∧ w.heap.size ≤ a2 ∧ Keeps [] w w' := by
  obtain ⟨⟨H2, dp2, hs, _⟩, _⟩ := h
  exact hs.view
/-- A step of the first one. -/
theorem Tc.step (h : Tc w0 w z jb cb jb2 cb2 k S c x y X) (hk : k + 1 ≤ 1099511627776) (hd : (x.step S 0).2.2.2 = 0) :
    Calls Tryz.prog 22 #[PT cb] w fun e w' => e = .returned (.int .i64 (x.step S 0).1) ∧ Tc w0 w' z jb cb jb2 cb2 (k + 1) (x.step S 0).2.2.1 c (x.step S 0).2.1 y X ∧ KeptX X w w' := by
  obtain ⟨⟨H2, dp2, hs, hj2, hm2, hjn, hX⟩, hok⟩ := h
  refine (hs.step hk).mono fun e w' ⟨he, h1, Y, h2, h3⟩ => ?_
  rw [hd] at h1
  exact ⟨he, ⟨⟨H2, dp2, h1, Blk.keeps hj2 h2 (h3 _ (by simp)), hm2.keeps h2 (fun q hq => h3 q (by simp [hq])) (by simp), hjn, hX⟩, hok⟩, Y, h2, fun q hq => h3 q (by simp [hq])⟩
/-- A call of the space's. -/
theorem Tc.by_ (h : Tc w0 w z jb cb jb2 cb2 k S c x y X) : ∃ F, SP w0 w z F S ∧ ∀ w' S', Went w0 w w' z F S' → Fit (k + 1) S' → S'.wu → S'.c = c → S'.H.length = 8 → Tc w0 w' z jb cb jb2 cb2 (k + 1) S' c x y X ∧ KeptX X w w' := by
  obtain ⟨⟨H2, dp2, hs, hj2, hm2, hjn, hX⟩, hok⟩ := h
  obtain ⟨F, h0, hb⟩ := hs.by_
  refine ⟨F, h0, fun w' S' h1 h2 h3 h4 h5 => ?_⟩
  obtain ⟨g1, Y, g2, g3⟩ := hb w' S' h1 h2 h3 h4 h5
  exact ⟨⟨⟨H2, dp2, g1, Blk.keeps hj2 g2 (g3 _ (by simp)), hm2.keeps g2 (fun q hq => g3 q (by simp [hq])) (by simp), hjn, hX⟩, hok⟩, Y, g2, fun q hq => g3 q (by simp [hq])⟩
theorem Tc.turn (h : Tc w0 w z jb cb jb2 cb2 k S c x y X) (t : Int) : Calls Tryz.prog 21 #[PT z.p, .int .i64 t] w fun e w' => e = .returned (.tuple #[]) ∧ Tc w0 w' z jb cb jb2 cb2 (k + 1) (S.begin t) c x y X ∧ KeptX X w w' := by
  have hf := h.fit
  obtain ⟨⟨H2, dp2, hc, _⟩, _⟩ := id h
  obtain ⟨F, hs, hby⟩ := h.by_
  exact (sp_turn hs t).mono fun e w' ⟨he, hw⟩ => ⟨he, hby w' (S.begin t) hw (hf.begin t).succ hc.wu hc.cc hc.len⟩
/-- The second one is made. -/
theorem Tc.new (h : CmS w0 w z jb cb 8 k S c 0 x (jb2 :: X)) (hj2 : JAt w jb2 c 0) (hX : ∀ q, q ∈ X → q ≠ jb2) {sl ge th st : Int} {ws : List Pr} (he : mayE c sl th st ws = 0) (hk : Keeps [] w w') {F : List Nat} (hm : CmN w0 w' z F jb2 cb2 H 0 (stgVal 0 .take) (Cm.new sl ge th st ws)) (hfr : ∀ q, q ∈ H → w.heap.size ≤ q) : Tc w0 w' z jb cb jb2 cb2 k S c x (Cm.new sl ge th st ws) X := by
  have hl := mayE_len he
  have hr : 1 ≤ th ∧ th ≤ 8 ∧ 0 ≤ sl ∧ sl < c.slots := mayE_rng he
  have hsl := h.fit.slots
  have hsc := h.fit.c.2.1
  rw [h.cc] at hsl hsc
  have hn := h.len
  have hjl := Blk.lt hj2
  obtain ⟨F1, H1, dp1, ht1, ho1⟩ := id h.ex
  refine ⟨⟨H, 0, ?_, Blk.keeps hj2 hk (by simp), hm.bare, fun hx => by have := hfr _ hx; omega, fun q hq => ⟨hX q hq, fun hx => ?_⟩⟩, ⟨by omega, by omega, hr.2.2.1, (by show sl < ((8 : Nat) : Int); omega), hr.1, hr.2.1, hl.1, hl.2, by simp [Cm.new], by simp [Cm.new], by simp [Cm.new], by simp [Cm.new], by simp [Cm.new]⟩⟩
  · have ha := CmS.adds h hk (Y := H) (fun q hq => ⟨hfr q hq, hm.ty q hq⟩)
    have e : ∀ q, q ∈ jb2 :: (H ++ X) → q ∈ H ++ jb2 :: X := fun q hq => by
      simp only [List.mem_cons, List.mem_append] at hq ⊢
      rcases hq with h | h | h
      · exact .inr (.inl h)
      · exact .inl h
      · exact .inr (.inr h)
    exact ha.sub e
  · have := hfr q hx
    have := (ho1 q (by simp [hq])).2.1
    omega
theorem Tc.sub {Y : List Nat} (h : Tc w0 w z jb cb jb2 cb2 k S c x y X) (hY : ∀ q, q ∈ Y → q ∈ X) : Tc w0 w z jb cb jb2 cb2 k S c x y Y := by
  obtain ⟨⟨H2, dp2, hs, hj2, hm2, hjn, hX⟩, hok⟩ := h
  exact ⟨⟨H2, dp2, hs.sub (fun q hq => by
    simp only [List.mem_cons, List.mem_append] at hq ⊢
    exact hq.imp id (fun h => h.imp id (hY q))), hj2, hm2, hjn, fun q hq => hX q (hY q hq)⟩, hok⟩
/-- A new block beside. -/
theorem Tc.add {b : Nat} {t : TypeId} (h : Tc w0 w z jb cb jb2 cb2 k S c x y X) (hk : Keeps [] w w') (hb : w.heap.size ≤ b) (ht : tyOf w' b = some t) (hn : t ∉ spFix) : Tc w0 w' z jb cb jb2 cb2 k S c x y (b :: X) := by
  obtain ⟨⟨H2, dp2, hs, hj2, hm2, hjn, hX⟩, hok⟩ := h
  have hjl := Blk.lt hj2
  refine ⟨⟨H2, dp2, (CmS.add hs hk hb ht hn).sub (fun q hq => by
    simp only [List.mem_cons, List.mem_append] at hq ⊢
    rcases hq with h | h | h | h
    · exact .inr (.inl h)
    · exact .inr (.inr (.inl h))
    · exact .inl h
    · exact .inr (.inr (.inr h))), Blk.keeps hj2 hk (by simp), hm2.calm hk, hjn, fun q hq => ?_⟩, hok⟩
  rw [List.mem_cons] at hq
  rcases hq with rfl | hq
  · exact ⟨by omega, fun hx => by have := hm2.lt _ hx; omega⟩
  · exact hX q hq
theorem Tw.gate_rng {p q : Wh} {rx ry : Nat} (h : Tw c p q rx ry S x y) : 0 ≤ S.gate.number ∧ S.gate.number ≤ 4 := by
  have key : ∀ n o : Int, S.gate = ⟨n, o⟩ → 0 ≤ n ∧ n ≤ 4 → 0 ≤ S.gate.number ∧ S.gate.number ≤ 4 := fun n o e h => by rw [e]; exact h
  rcases h.at_ with h | h
  · cases h with
    | none hx hy hg hC hL => exact key _ _ hg (by decide)
    | one hx hy hg => exact key _ _ hg (by decide)
    | mid hx hy hg hC hL => exact key _ _ hg (by decide)
    | two hx hy hg => exact key _ _ hg (by decide)
    | fin hx hy hg hC hL => exact key _ _ hg (by decide)
  · cases h with
    | none hx hy hg hC hL => exact key _ _ hg (by decide)
    | one hx hy hg => exact key _ _ hg (by decide)
    | mid hx hy hg hC hL => exact key _ _ hg (by decide)
    | two hx hy hg => exact key _ _ hg (by decide)
    | fin hx hy hg hC hL => exact key _ _ hg (by decide)
/-- The law's rows and the box of the gate. -/
structure Rws (w : World) (p q : Wh) (gv nv cv gw nw cw zg : Nat) (g : Gt) : Prop where
  v : w.ownsRow 0 62 2 (.slice (some ⟨gv, 0, none⟩) nv cv) nv (prCells p.ws)
  v2 : w.ownsRow 0 62 2 (.slice (some ⟨gw, 0, none⟩) nw cw) nw (prCells q.ws)
  b : Blk w zg 48 #[.int .i64 g.number, .int .i64 g.owner]
theorem Rws.kept {p q : Wh} {gv nv cv gw nw cw zg : Nat} {g : Gt} (h : Rws w p q gv nv cv gw nw cw zg g) (hk : KeptX [zg, gv, gw] w w') : Rws w' p q gv nv cv gw nw cw zg g :=
  ⟨hk.own h.v (fun q hq => by simp [Value.ownBlock] at hq; simp [← hq]), hk.own h.v2 (fun q hq => by simp [Value.ownBlock] at hq; simp [← hq]), hk.blk h.b (by simp)⟩
/-- A step of the first one, all told. -/
theorem step_x {p q : Wh} {rx ry b n i gv nv cv gw nw cw zg : Nat} {g : Gt} (hpq : Pq p q) (hc : c.tag = 1) (h : Tc w0 w z jb cb jb2 cb2 k S c x y [zg, gv, gw]) (hr : Rws w p q gv nv cv gw nw cw zg g) (tw : Tw c p q rx ry S x y) (hth : S.met.thread = p.th) (hm : Meas b n i S x y (rx + ry)) (hb : b ≤ 1) (hi : i < n ∨ i % 2 ≠ b) (hk : k + 1 ≤ 1099511627776) (hg : S.gate = g) :
    Calls Tryz.prog 22 #[PT cb] w fun e w' => ∃ an S' x' rx', e = .returned (.int .i64 an) ∧ (an = 2 ↔ (g.number % 2 = 1 ∧ g.owner ≠ p.th ∧ x'.number = 0)) ∧ Tc w0 w' z jb cb jb2 cb2 (k + 1) S' c x' y [zg, gv, gw] ∧ Rws w' p q gv nv cv gw nw cw zg g ∧ Tw c p q rx' ry S' x' y ∧ Meas b n (i + 1) S' x' y (rx' + ry) := by
  obtain ⟨s1, s2, rx', s3, s4⟩ := tw.step (d := 0) hpq hc hth
  refine (h.step hk s1).mono fun e w' ⟨he, h1, h2⟩ => ⟨_, _, _, rx', he, ?_, h1, hr.kept h2, s3, hm.go hb hpq tw hi s4⟩
  rw [hg] at s2
  exact s2
theorem Rws.swap {p q : Wh} {gv nv cv gw nw cw zg : Nat} {g : Gt} (h : Rws w p q gv nv cv gw nw cw zg g) : Rws w q p gw nw cw gv nv cv zg g := ⟨h.v2, h.v, h.b⟩
/-- A step of the second one. -/
theorem step_y {p q : Wh} {rx ry n i gv nv cv gw nw cw zg : Nat} {g : Gt} (hpq : Pq p q) (hc : c.tag = 1) (h : Tc w0 w z jb cb jb2 cb2 k S c x y [zg, gv, gw]) (hr : Rws w p q gv nv cv gw nw cw zg g) (tw : Tw c p q rx ry S x y) (hth : S.met.thread = q.th) (hm : Meas 1 n i S x y (rx + ry)) (hi : i < n ∨ i % 2 ≠ 0) (hk : k + 1 ≤ 1099511627776) (hg : S.gate = g) :
    Calls Tryz.prog 22 #[PT cb2] w fun e w' => ∃ an S' y' ry', e = .returned (.int .i64 an) ∧ (an = 2 ↔ (g.number % 2 = 1 ∧ g.owner ≠ q.th ∧ y'.number = 0)) ∧ Tc w0 w' z jb cb jb2 cb2 (k + 1) S' c x y' [zg, gv, gw] ∧ Rws w' p q gv nv cv gw nw cw zg g ∧ Tw c p q rx ry' S' x y' ∧ Meas 1 n (i + 1) S' x y' (rx + ry') := by
  have hm' := hm.swap (by decide)
  rw [Nat.add_comm rx ry] at hm'
  have e : ∀ q, q ∈ [zg, gw, gv] → q ∈ [zg, gv, gw] := fun q hq => by
    simp only [List.mem_cons, List.not_mem_nil, or_false] at hq ⊢
    omega
  have e' : ∀ q, q ∈ [zg, gv, gw] → q ∈ [zg, gw, gv] := fun q hq => by
    simp only [List.mem_cons, List.not_mem_nil, or_false] at hq ⊢
    omega
  refine (step_x hpq.swap hc (h.swap.sub e) hr.swap tw.swap hth hm' (by decide) hi hk hg).mono ?_
  rintro e w' ⟨an, S', y', ry', h1, h2, h3, h4, h5, h6⟩
  have h7 := h6.swap (by decide)
  rw [Nat.add_comm ry' rx] at h7
  exact ⟨an, S', y', ry', h1, h2, (h3.swap).sub e', h4.swap, h5.swap, h7⟩
/-- A turn. -/
theorem turn_all {p q : Wh} {rx ry n i gv nv cv gw nw cw zg : Nat} {g : Gt} (h : Tc w0 w z jb cb jb2 cb2 k S c x y [zg, gv, gw]) (hr : Rws w p q gv nv cv gw nw cw zg g) (tw : Tw c p q rx ry S x y) (hm : Meas 1 n i S x y (rx + ry)) (t : Int) :
    Calls Tryz.prog 21 #[PT z.p, .int .i64 t] w fun e w' => e = .returned (.tuple #[]) ∧ Tc w0 w' z jb cb jb2 cb2 (k + 1) (S.begin t) c x y [zg, gv, gw] ∧ Rws w' p q gv nv cv gw nw cw zg g ∧ Tw c p q rx ry (S.begin t) x y ∧ Meas 1 n i (S.begin t) x y (rx + ry) :=
  (h.turn t).mono fun e w' ⟨he, h1, h2⟩ => ⟨he, h1, hr.kept h2, tw.begin t, hm⟩
end
end Go.Proofs.YtcoekpomiljofaaGreat.tw
