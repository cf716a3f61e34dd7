/- quashlaw08.does: Fill: the same answer, the same end; the argument stays. -/
import Derived.Test.YtcoekpomiljofaaGreatRawF
import Derived.Test.YtcoekpomiljofaaGreatRpNote
import Derived.Test.YtcoekpomiljofaaGreatSrc
import Derived.Test.YtcoekpomiljofaaGreatLocal2
import Derived.Deep.RegionHeld3
import Derived.Deep.DeepCutAuto
import Derived.Deep.QuietTactic
import Derived.BigQuiet
namespace Go.Proofs.YtcoekpomiljofaaGreat
open Go.RowKit
set_option linter.unusedVariables false
namespace Do08
theorem ownsRow_new (w : World) (e size k : Nat) (hk : w.heap.size = k) : (w.alloc (.cells #[] e)).ownsRow 0 e size (.slice (some ⟨k, 0, none⟩) 0 0) 0 [] := by
  subst hk
  exact World.ownsRow_made _ _ _ (Nat.zero_le _) (by decide) (by simp)
/-- What two appends behind a box leave. -/
theorem twice {w w1 w2 : World} {T e : TypeId} {cs : Array Value} {o2 o3 : Obj} {v1 : Value} {g2 cap2 n2 : Nat} {xs2 : List Value}
    (hg1 : ((w.alloc (.cells cs T)).alloc o2).grownBy w1 (some (w.heap.size + 1))) (hat1 : v1.ownBlock = some (w.heap.size + 1) ∨ v1.ownBlock = some ((w.alloc (.cells cs T)).alloc o2).heap.size)
    (hg2 : (w1.alloc o3).grownBy w2 v1.ownBlock) (hat2 : v1.ownBlock = some g2 ∨ g2 = (w1.alloc o3).heap.size) (hown2 : w2.ownsRow 0 e 1 (.slice (some ⟨g2, 0, none⟩) n2 cap2) n2 xs2) :
    Blk w2 w.heap.size T cs ∧ Keeps [] w w2 ∧ w.heap.size < g2 ∧ n2 ≤ cap2 := by
  have s1 := hg1.size
  simp only [World.size_alloc] at hat1 hat2 s1
  have hv : ∀ k, v1.ownBlock = some k → w.heap.size < k := by
    intro k hk
    rcases hat1 with e | e <;> rw [e] at hk <;> injection hk with hk <;> omega
  refine ⟨?_, ?_, ?_, ?_⟩
  · have b0 : Blk ((w.alloc (.cells cs T)).alloc o2) w.heap.size T cs := (Blk.new w T cs).alloc o2
    have b1 : Blk w1 w.heap.size T cs := b0.grown hg1 (by simp)
    exact (b1.alloc o3).grown hg2 (fun e => by have := hv _ e.symm; omega)
  · have k1 : Keeps [] w w1 := (((Keeps.refl [] w).alloc _).alloc _).grown hg1 (by simp)
    exact (k1.alloc _).grown hg2 (fun k hk => .inr (Nat.le_of_lt (hv k hk)))
  · rcases hat2 with e | e
    · exact hv _ e
    · omega
  · rcases hown2.2 with ⟨e, _⟩ | ⟨_, c, _, e, _, _, h, _⟩
    · cases e
    · simp at e; omega
/-- What a Fill leaves besides: the list with its mark, the argument, the step's box. -/
structure Fil (w wx : World) (cs : Array Value) (g2 cap2 : Nat) (A : Option Addr) (xs zs : List Int) : Prop where
  box : Blk wx w.heap.size 100 cs
  row : wx.ownsRow 0 2 1 (.slice (some ⟨g2, 0, none⟩) (xs.length + 1) cap2) (xs.length + 1) (zs.map (Value.int .i64))
  len : zs.length = xs.length + 1
  arg : Slc wx A xs
  new : w.heap.size < g2
theorem Fil.keeps {w wx wy : World} {cs : Array Value} {g2 cap2 : Nat} {A : Option Addr} {xs zs : List Int} {X : List Nat} (h : Fil w wx cs g2 cap2 A xs zs) (hk : Keeps X wx wy) (h1 : w.heap.size ∉ X) (h2 : g2 ∉ X) (h3 : ∀ b off, A = some ⟨b, off, none⟩ → 0 < xs.length → b ∉ X) : Fil w wy cs g2 cap2 A xs zs := by
  refine ⟨h.box.keeps hk h1, own_keeps h.row hk (fun k hkk => by simp [Value.ownBlock] at hkk; subst hkk; exact h2), h.len, ⟨h.arg.1, ?_⟩, h.new⟩
  rcases h.arg.2 with h4 | ⟨b', off', e, hb', hc⟩
  · exact .inl h4
  · by_cases h0 : xs = []
    · exact .inl h0
    · exact .inr ⟨b', off', e, Nat.lt_of_lt_of_le hb' hk.size, fun k y hy => (keeps_cell (p := ⟨b', off' + k, none⟩) hk hb' (h3 b' off' e (List.length_pos_iff.2 h0))).trans (hc k y hy)⟩
section
variable {w0 w w' : World} {z : Sb} {F : List Nat} {y : Rb} {G : List Nat} {S : Sp} {k : Nat}
/-- Writes into a row of ints beside. -/
theorem two_away {w3 : World} {q : Nat} {F' : List Nat} {S' : Sp} {cs : Array Value} (h : Two w0 w3 z F' y G S' S) (hb : Blk w3 q 2 cs) (h1 : q ∉ F') (h2 : q ∉ G) (h0 : w0.heap.size ≤ q) (hk : Keeps [q] w3 w') : Two w0 w' z F' y G S' S := by
  have ht := hb.tyOf
  refine ⟨h.sp.away hk (fun v hv => ?_), h.rp.away hk (fun v hv => ?_), h.far⟩
  · simp only [List.mem_singleton] at hv
    subst hv
    exact ⟨h0, h1, fun t e => by rw [ht] at e; injection e with e; subst e; decide⟩
  · simp only [List.mem_singleton] at hv
    subst hv
    exact ⟨h0, h2, fun t e => by rw [ht] at e; injection e with e; subst e; decide⟩
theorem b_in (h : RP w0 w y G S) : y.b ∈ G := by
  obtain ⟨lb, v, hs, hF⟩ := h.ex
  rw [hF]
  simp [footY]
theorem blk_own {w : World} {base e size n g cap : Nat} {xs : List Value} (h : w.ownsRow base e size (.slice (some ⟨g, 0, none⟩) n cap) n xs) : ∃ cs, Blk w g e cs := by
  rcases h.2 with ⟨e, _⟩ | ⟨_, _, cur, e, _, hg, _⟩
  · cases e
  · simp at e
    obtain ⟨rfl, rfl⟩ := e
    exact ⟨cur, hg⟩
set_option maxRecDepth 100000 in
set_option maxHeartbeats 8000000 in
theorem fill_any (h : Two w0 w z F y G S S) (m : Bool) (i n x : Int) (A : Option Addr) (c : Nat) (xs : List Int) (hA : Slc w A xs) (hA0 : ∀ b off, A = some ⟨b, off, none⟩ → 0 < xs.length → b ∉ F ∧ b ∉ G) (hn : xs.length ≤ 1048576) (q1 q2 q3 q4 q5 q6 q7 q8 q9 q10 : Value) :
    Calls Tryz.prog 37 #[PT z.p, PT y.p, .agg #[.bool m, .int .i64 4, .int .i64 i, .int .i64 n, .int .i64 x, .slice A xs.length c, q1, q2, q3, q4, q5, q6, q7, q8, q9, q10]] w fun e w' => e = .returned (.bool true) ∧ TwoWent w0 w w' z F y G (S.fill xs).2 := by
  have H0 := Lib.hid h
  have HA := Lib.hid hA
  have HN := Lib.hid hA0
  have hni : (xs.length : Int) ≤ 1048576 := by omega
  have h1 : ∀ u ∈ xs.map (Value.int .i64), u.oneCell' = true := by simp [Value.oneCell']
  have H1 := Lib.hid h1
  obtain ⟨i0, hi, hz0, hz1, hz2⟩ := info_parts RowI.Tryz.infoI
  have hmx : Hid (0 + xs.length ≤ maxLen) := by unfold Hid maxLen; omega
  have hby : Hid ((0 + xs.length) * 8 ≤ 140737488355328) := by unfold Hid; omega
  have hmx2 : Hid (0 + xs.length + 1 ≤ maxLen) := by unfold Hid maxLen; omega
  have hby2 : Hid ((0 + xs.length + 1) * 8 ≤ 140737488355328) := by unfold Hid; omega
  have hsr : Hid (0 < xs.length → ∃ ad, A = some ad ∧ ∀ j u, (xs.map (Value.int .i64))[j]? = some u → ((w.alloc (.cells #[.bool m, .int .i64 4, .int .i64 i, .int .i64 n, .int .i64 x, .slice A xs.length c, q1, q2, q3, q4, q5, q6, q7, q8, q9, q10] 100)).alloc (.cells #[] 2)).cell? (ad.add j) = some u) := slc_src (hA.keeps (((Keeps.refl [] w).alloc _).alloc _))
  clear h hA hA0 h1 hn
  go_enter Tryz.func37, Tryz.ntmps37
  go_wp2_with (first
    | (at_builtin; refine wpList_append_src (o := ⟨some 99, _, _, _, _, _⟩) rfl (.tmp 96) (.tmp 98) 55 rfl 2 i0 _ 1 8 Tryz.underlying55 hi hz0 hz1 hz2 rfl (by decide) (.slice (some ⟨w.heap.size + 1, 0, none⟩) 0 0) 0 [] rfl (ownsRow_new _ _ _ _ (World.size_alloc _ _)) A xs.length c (xs.map (Value.int .i64)) rfl (by simp) hsr.out H1.out hmx.out hby.out ?_; intro v1 w1 hown1 hg1 hat1)
    | (at_builtin; refine wpList_append_lies _ (o := ⟨some 101, _, _, _, _, _⟩) rfl (.tmp 99) (.tmp 100) 55 rfl 0 2 i0 _ 1 8 Tryz.underlying55 hi hz0 hz1 hz2 rfl (by decide) v1 (0 + xs.length) ([] ++ xs.map (Value.int .i64)) rfl (hown1.alloc _) ⟨w1.heap.size, 0, none⟩ 1 1 [.int .i64 77] rfl rfl (World.news_of_block (new_at _ _ _ rfl)) (by simp [Value.oneCell']) (by decide) hmx2.out hby2.out (Nat.zero_le _) _ rfl ?_; intro g2 cap2 w2 hown2 hg2 hat2 hlt2; have ht := twice hg1 hat1 hg2 hat2 hown2; have HT := Lib.hid ht; have b5 : w2.cell? ⟨w.heap.size, 5, none⟩ = some (.slice A xs.length c) := (ht.1.cell 5).trans rfl; have HO := Lib.hid hown2; have hc2 : (xs.length : Int) ≤ (cap2 : Int) := (by have := ht.2.2.2; omega); have hc3 := ht.2.2.2; clear ht hown1 hg1 hat1 hown2 hg2 hat2 hlt2))
  clear hi hz0 hz1 hz2
  have hsrc : Src w2 (some ⟨g2, 0, none⟩) xs := by
    intro _
    refine ⟨_, rfl, fun j v hv => HO.out.cells (g := g2) rfl j v ?_⟩
    rw [List.nil_append, List.getElem?_append_left (by have := (List.getElem?_eq_some_iff.1 hv).1; exact this)]
    exact hv
  have hT2 : Two w0 w2 z F y G S S := H0.out.calm HT.out.2.1
  have hF2 : Fil w w2 #[.bool m, .int .i64 4, .int .i64 i, .int .i64 n, .int .i64 x, .slice A xs.length c, q1, q2, q3, q4, q5, q6, q7, q8, q9, q10] g2 cap2 A xs (xs ++ [77]) := ⟨HT.out.1, by simpa using HO.out, by simp, HA.out.keeps HT.out.2.1, HT.out.2.2.1⟩
  have hgF : g2 ∉ F ∧ g2 ∉ G := ⟨fun hx => by have := H0.out.sp.lt _ hx; have := HT.out.2.2.1; omega, fun hx => by have := H0.out.rp.lt _ hx; have := HT.out.2.2.1; omega⟩
  have hbF : w.heap.size ∉ F ∧ w.heap.size ∉ G := ⟨fun hx => by have := H0.out.sp.lt _ hx; omega, fun hx => by have := H0.out.rp.lt _ hx; omega⟩
  have QF := Lib.hid (sp_fill hT2.sp (some ⟨g2, 0, none⟩) xs cap2 hsrc (by unfold maxLen; omega))
  obtain ⟨fe, hfe⟩ : ∃ q, (S.fill xs).1 = q := ⟨_, rfl⟩
  obtain ⟨S2, hS2⟩ : ∃ q, (S.fill xs).2 = q := ⟨_, rfl⟩
  rw [hfe, hS2] at QF
  try rw [hS2]
  have HQ := Lib.hid (And.intro hfe hS2)
  have HT2 := Lib.hid hT2
  have HF2 := Lib.hid hF2
  have HGF := Lib.hid (And.intro hgF hbF)
  clear hsrc hT2 hF2 hgF hbF hfe hS2 HO
  refine QF.out.mono ?_
  rintro e w3 ⟨rfl, hW⟩
  obtain ⟨F', hT3, hk3, hn3⟩ := HT2.out.left hW
  have hF3 := HF2.out.keeps hk3 HGF.out.2.1 HGF.out.1.1 (fun b off e h0 hx => (HN.out b off e h0).1 hx)
  have HT3 := Lib.hid (And.intro hT3 (And.intro hk3 hn3))
  have HF3 := Lib.hid hF3
  clear hW hT3 hk3 hn3 hF3 b5 QF
  have s5 : w3.cell? ⟨w.heap.size, 5, none⟩ = some (.slice A xs.length c) := (HF3.out.box.cell 5).trans rfl
  have s6 : w3.cell? ⟨g2, xs.length, none⟩ = some (.int .i64 77) := (HF3.out.row.cellAt xs.length (by omega)).trans (by simp)
  have g0 : (0 : Int) ≤ (xs.length : Int) := by omega
  have g1 : (xs.length : Int) < (xs.length : Int) + 1 := by omega
  obtain ⟨cs3, hcs3⟩ := blk_own HF3.out.row
  have hgF' : g2 ∉ F' := fun hx => by
    rcases HT3.out.2.2 g2 hx with h1 | h1
    · exact HGF.out.1.1 h1
    · have := own_lt HF2.out.row (k := g2) rfl
      omega
  have HAW := Lib.hid (fun w' (hk : Keeps [g2] w3 w') => two_away HT3.out.1 hcs3 hgF' HGF.out.1.2 (Nat.le_trans H0.out.sp.keep.size (Nat.le_of_lt HF3.out.new)) hk)
  clear hcs3 hgF'
  go_wp2_with fail
  go_loopw [14, 15] (fun sv iv wr => ∃ (j : Nat) (zs : List Int), j ≤ xs.length ∧ sv = .bool true ∧ iv = .int .i64 j ∧ Fil w wr #[.bool m, .int .i64 4, .int .i64 i, .int .i64 n, .int .i64 x, .slice A xs.length c, q1, q2, q3, q4, q5, q6, q7, q8, q9, q10] g2 cap2 A xs zs ∧ (∀ t, j ≤ t → t < xs.length → zs[t]? = xs[t]?) ∧ Keeps [g2] w3 wr) (fun _ iv _ => xs.length - (intOf iv).toNat)
  case atStart => exact ⟨0, xs ++ [77], Nat.zero_le _, rfl, rfl, HF3.out, fun t _ ht => List.getElem?_append_left ht, Keeps.refl _ _⟩
  case round =>
    obtain ⟨j, zs, hj, rfl, rfl, hf, hzx, hkr⟩ := hrel
    have HFL := Lib.hid hf
    have HZX := Lib.hid hzx
    have HKR := Lib.hid hkr
    have s5' : wr.cell? ⟨w.heap.size, 5, none⟩ = some (.slice A xs.length c) := (hf.box.cell 5).trans rfl
    clear hf hzx hkr s5 s6
    have j0 : (0 : Int) ≤ (j : Int) := by omega
    have hwj : IntKind.i64.wrap ((j : Int) + 1) = (j : Int) + 1 := by rw [IntKind.wrap_i64]; omega
    by_cases hlt : j < xs.length
    · as_aux_lemma =>
      have j1 : (j : Int) < (xs.length : Int) := by omega
      have j2 : (j : Int) < (xs.length : Int) + 1 := by omega
      obtain ⟨u, hu⟩ : ∃ u, xs[j]? = some u := ⟨_, List.getElem?_eq_getElem hlt⟩
      have hzu := (HZX.out j (Nat.le_refl _) hlt).trans hu
      have d1 : wr.cell? ⟨g2, j, none⟩ = some (.int .i64 u) := (HFL.out.row.cellAt j (by omega)).trans (by rw [List.getElem?_map, hzu]; rfl)
      obtain ⟨b, off, rfl, hbw⟩ : ∃ b off, A = some ⟨b, off, none⟩ ∧ b < w.heap.size := by
        rcases HA.out.2 with h1 | ⟨b, off, h1, h2, _⟩
        · rw [h1] at hlt; simp at hlt
        · exact ⟨b, off, h1, h2⟩
      have d2 : wr.cell? ⟨b, off + j, none⟩ = some (.int .i64 u) := by
        rcases HFL.out.arg.2 with h1 | ⟨b', off', e, _, hcx⟩
        · rw [h1] at hlt; simp at hlt
        · injection e with e
          injection e with e1 e2
          subst e1 e2
          exact hcx j u hu
      have d3 := HFL.out.row.frozenAt j
      have hst : Hid (∀ N, Fil w ((wr.drewN N).setCell ⟨g2, j, none⟩ (.int .i64 (bits .xor .i64 u 1))) #[.bool m, .int .i64 4, .int .i64 i, .int .i64 n, .int .i64 x, .slice (some ⟨b, off, none⟩) xs.length c, q1, q2, q3, q4, q5, q6, q7, q8, q9, q10] g2 cap2 (some ⟨b, off, none⟩) xs (zs.set j (bits .xor .i64 u 1)) ∧ Keeps [g2] w3 ((wr.drewN N).setCell ⟨g2, j, none⟩ (.int .i64 (bits .xor .i64 u 1)))) := fun N => by
        have hkd : Keeps [] wr (wr.drewN N) := (Keeps.refl [] wr).drewN N
        have hf := HFL.out.keeps hkd (by simp) (by simp) (fun _ _ _ _ => by simp)
        have hk2 : Keeps [g2] (wr.drewN N) ((wr.drewN N).setCell ⟨g2, j, none⟩ (.int .i64 (bits .xor .i64 u 1))) := (Keeps.refl _ _).setCell (.inl (by simp)) _
        have hnew := hf.new
        have hne : w.heap.size ≠ g2 := by omega
        refine ⟨⟨hf.box.keeps hk2 (by simpa using hne), ?_, by rw [List.length_set]; exact hf.len, ⟨hf.arg.1, ?_⟩, hf.new⟩, (HKR.out.trans hkd (by simp)).trans hk2 (fun q hq => .inl hq)⟩
        · rw [List.map_set]
          exact (hf.row.stored j _).1
        · rcases hf.arg.2 with h4 | ⟨b', off', e, hb', hc⟩
          · exact .inl h4
          · have hbg : b' ≠ g2 := by
              injection e with e
              injection e with e1 e2
              omega
            exact .inr ⟨b', off', e, Nat.lt_of_lt_of_le hb' hk2.size, fun k y hy => (keeps_cell (p := ⟨b', off' + k, none⟩) hk2 hb' (by simpa using hbg)).trans (hc k y hy)⟩
      have HZX2 : Hid (∀ t, j + 1 ≤ t → t < xs.length → (zs.set j (bits .xor .i64 u 1))[t]? = xs[t]?) := fun t h1 h2 => by
        rw [List.getElem?_set_ne (by omega)]
        exact HZX.out t (by omega) h2
      clear hu hzu hbw
      go_wp2_with fail
      go_quiet (fail)
      go_wp2_with fail
      exact ⟨⟨j + 1, _, by omega, by simp, by simp, (hst.out _).1, HZX2.out, (hst.out _).2⟩, by simp [intOf]; omega⟩
    · have hTr := HAW.out wr HKR.out
      have QD : Hid (∀ w' vv, Keeps [] wr w' → vv = #[PT y.r, .slice A xs.length c] → Calls Tryz.prog 88 vv w' fun e w'' => e = .returned (.int .i64 fe) ∧ RWent w0 wr w'' y G S2) := fun w' vv hk hv => by
        subst hv
        have hq := Rpn.rp_fill (hTr.rp.calm hk) A xs c (HFL.out.arg.keeps hk) (fun h0 ad e hx => by
          rcases HA.out.2 with h1 | ⟨b, off, h1, h2, _⟩
          · rw [h1] at h0; simp at h0
          · rw [h1] at e
            injection e with e
            subst e
            have hb := b_in hTr.rp
            rw [← (show b = y.b from hx)] at hb
            exact (HN.out b off h1 h0).2 hb)
        rw [HQ.out.1, HQ.out.2] at hq
        exact hq.mono fun e w'' ⟨he, hw⟩ => ⟨he, RWent.pre hk hw⟩
      have HC := Lib.hid (show ∀ w', Keeps [] wr w' → w'.cell? ⟨y.p, 7, none⟩ = some (PT y.r) ∧ w'.cell? ⟨w.heap.size, 5, none⟩ = some (.slice A xs.length c) from fun w' hk => ⟨(hTr.rp.calm hk).cells.2.2.2.2.1, ((HFL.out.box.keeps hk (by simp)).cell 5).trans rfl⟩)
      have HTR := Lib.hid hTr
      have hkB : Keeps [] wr wr := Keeps.refl _ _
      have j3 : ¬ (j : Int) < (xs.length : Int) := by omega
      clear hTr hlt hj
      go_wp2_with fail
      go_region_held3 (fun w' => w'.cell? ⟨y.p, 7, none⟩ = some (PT y.r) ∧ w'.cell? ⟨w.heap.size, 5, none⟩ = some (.slice A xs.length c)) (first | with_reducible exact HC.out _ (by first | with_reducible assumption | with_reducible exact Keeps.drew (by with_reducible assumption)) | with_reducible exact HDF | go_keep) ((go_at_call 88; (with_reducible refine (QD.out _ _ (by first | with_reducible assumption | with_reducible exact Keeps.drew (by with_reducible assumption)) (by first | with_reducible rfl | rfl)).mono ?_); rintro e wf ⟨rfl, hR⟩; obtain ⟨_, hR1, hkq, _⟩ := id hR; have be := HFL.out.box.keeps hkq HGF.out.2.2; have HDF : wf.cell? ⟨y.p, 7, none⟩ = some (PT y.r) ∧ wf.cell? ⟨w.heap.size, 5, none⟩ = some (.slice A xs.length c) := ⟨hR1.cells.2.2.2.2.1, (be.cell 5).trans rfl⟩; clear hR1 hkq be; have HR := Lib.hid hR; clear hR))
      all_goals
        go_wp2_with fail
        go_ret
        rw [HQ.out.2]
        refine ⟨rfl, Two.both (Keeps.refl [] w) (((HT.out.2.1.mono (T := F) (by simp)).trans HT3.out.2.1 (fun q hq => .inl hq)).trans HKR.out (fun q hq => .inr ?_)) (fun q hq => (HT3.out.2.2 q hq).imp id (fun h => Nat.le_trans HT.out.2.1.size h)) HTR.out HR.out⟩
        simp only [List.mem_singleton] at hq
        subst hq
        exact Nat.le_of_lt HF3.out.new
end
end Do08
end Go.Proofs.YtcoekpomiljofaaGreat
