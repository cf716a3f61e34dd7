/- SpacePlays' walk. -/
import Derived.Test.YtcoekpomiljofaaGreatDuo08
import Derived.Test.YtcoekpomiljofaaGreatSpaceAw8
import Derived.Test.YtcoekpomiljofaaGreatOneStruct
import Derived.Test.YtcoekpomiljofaaGreatRpNew
import Derived.Test.YtcoekpomiljofaaGreatIs
import Derived.Deep.RegionHeld3
import Derived.Deep.QuietTactic
import Derived.BigQuiet
import Derived.WalkKit
namespace Go.Proofs.YtcoekpomiljofaaGreat.spacePlays
open Go.RowKit
set_option linter.unusedVariables false
theorem qs {P : Program} {f : FuncId} {args : Array Value} {w : World} {n : Nat} {v : Value} (h : Calls P f args (w.drewN n) fun e w' => e = .returned v ∧ w.drewN n = w') : Calls P f args (w.drewN n) fun e w'' => e = .returned v ∧ ∃ m, w'' = w.drewN m := h.mono fun _ _ ⟨he, hm⟩ => ⟨he, n, hm.symm⟩
section
variable {w0 w : World} {z : Sb} {F G : List Nat} {y : Rb} {S : Sp} {k : Nat}
theorem q_view (h : Two w0 w z F y G S S) (hf : Fit k S) : ∀ w', Keeps [] w w' → Calls Tryz.prog 25 #[PT z.p] w' fun e w'' => (∃ a1 c1 a2 c2, e = .returned (.agg #[.slice (some ⟨a1, 0, none⟩) S.cells.length c1, .int .i64 S.gate.number, .int .i64 S.gate.owner, .slice (some ⟨a2, 0, none⟩) S.H.length c2]) ∧ ∀ w3, Keeps [] w'' w3 → Calls Tryz.prog 41 #[PT y.p, .agg #[.slice (some ⟨a1, 0, none⟩) S.cells.length c1, .int .i64 S.gate.number, .int .i64 S.gate.owner, .slice (some ⟨a2, 0, none⟩) S.H.length c2]] w3 fun e w4 => e = .returned (.bool true) ∧ Keeps [] w w4) ∧ Keeps [] w w'' := fun w' hk' => (sp_view (h.sp.calm hk') hf).mono fun e w'' ⟨a1, c1, a2, c2, he, h1, h2, _, _, h5⟩ => ⟨⟨a1, c1, a2, c2, he, fun w3 hk3 => (is_yes (h.rp.calm ((hk'.trans h5 (by simp)).trans hk3 (by simp))) hf a1 c1 a2 c2 (h1.keeps hk3 (by simp)) (h2.keeps hk3 (by simp))).mono fun e w4 ⟨he, h6⟩ => ⟨he, ((hk'.trans h5 (by simp)).trans hk3 (by simp)).trans h6 (by simp)⟩⟩, hk'.trans h5 (by simp)⟩
theorem q_log (h : Two w0 w z F y G S S) (hl : S.met.log.length ≤ 2199023255552) {A : Option Addr} {c : Nat} (LX : LogSlc w A S.met.log) : ∀ w', Keeps [] w w' → Calls Tryz.prog 29 #[PT z.m] w' fun e w'' => (∃ A2 c2, e = .returned (.slice A2 S.met.log.length c2) ∧ ∀ w3, Keeps [] w'' w3 → Calls Tryz.prog 44 #[.slice A2 S.met.log.length c2, .slice A S.met.log.length c] w3 fun e w4 => e = .returned (.bool true) ∧ Keeps [] w w4) ∧ Keeps [] w w'' := fun w' hk' => (sp_log (h.sp.calm hk') hl).mono fun e w'' ⟨v2, he, h1, h2⟩ => by
    obtain ⟨A2, c2, rfl, _, L2⟩ := LogSlc.of_own h1 hl
    exact ⟨⟨A2, c2, he, fun w3 hk3 => (same_yes w3 A2 A S.met.log c2 c (L2.keeps hk3) ((LX.keeps (hk'.trans h2 (by simp))).keeps hk3)).mono fun e w4 ⟨he, h6⟩ => ⟨he, ((hk'.trans h2 (by simp)).trans hk3 (by simp)).trans h6 (by simp)⟩⟩, hk'.trans h2 (by simp)⟩
theorem q_events (h : Two w0 w z F y G S S) (hf : Fit k S) (hk : k ≤ 1099511627776) : ∀ w', Keeps [] w w' → Calls Tryz.prog 43 #[PT z.p] w' fun e w'' => (∃ A2 c2, e = .returned (.slice A2 S.ev.length c2) ∧ ∀ w3, Keeps [] w'' w3 → Calls Tryz.prog 42 #[PT y.p, .slice A2 S.ev.length c2] w3 fun e w4 => e = .returned (.bool true) ∧ Keeps [] w w4) ∧ Keeps [] w w'' := fun w' hk' => (sp_events (h.sp.calm hk') hf hk).mono fun e w'' ⟨v2, he, h1, h2⟩ => by
    obtain ⟨A2, c2, rfl⟩ := Rpn.own_form' h1
    exact ⟨⟨A2, c2, he, fun w3 hk3 => (Rpn.told_yes (h.rp.calm ((hk'.trans h2 (by simp)).trans hk3 (by simp))) hf hk (own_keeps h1 hk3 (by simp))).mono fun e w4 ⟨he, h6⟩ => ⟨he, ((hk'.trans h2 (by simp)).trans hk3 (by simp)).trans h6 (by simp)⟩⟩, hk'.trans h2 (by simp)⟩
theorem q_meter (h : RP w0 w y G S) (hl : S.met.log.length ≤ 2199023255552) : ∃ A c, LogSlc w A S.met.log ∧ w.cell? ⟨y.m, 0, none⟩ = some (.int .i64 S.met.steps) ∧ w.cell? ⟨y.m, 2, none⟩ = some (.int .i64 S.met.done) ∧ w.cell? ⟨y.m, 3, none⟩ = some (.int .i64 S.met.most) ∧ w.cell? ⟨y.m, 4, none⟩ = some (.slice A S.met.log.length c) := by
  obtain ⟨lb, v, hs, _⟩ := h.ex
  obtain ⟨vx, hmx⟩ := hs.met
  obtain ⟨A, c, rfl, _, LX⟩ := LogSlc.of_own hmx.own hl
  exact ⟨A, c, LX, (hmx.blk.cell 0).trans rfl, (hmx.blk.cell 2).trans rfl, (hmx.blk.cell 3).trans rfl, (hmx.blk.cell 4).trans rfl⟩
theorem q_gate (h : RP w0 w y G S) : w.cell? ⟨y.p, 8, none⟩ = some (PT y.g) ∧ w.cell? ⟨y.g, 1, none⟩ = some (.int .i64 S.gate.number) ∧ w.cell? ⟨y.g, 2, none⟩ = some (.int .i64 S.gate.owner) := by
  obtain ⟨lb, v, hs, _⟩ := h.ex
  obtain ⟨_, g1, g2⟩ := RG.cells hs.gate
  exact ⟨h.cells.2.2.2.2.2.1, g1, g2⟩
end
/-- What stands when a round begins. -/
def Rd8 (w wr : World) (z : Sb) (y : Rb) (z2 : Sb) (y2 : Rb) (cf df : Cf) (k : Nat) (zc : Nat) : Prop :=
  ∃ S T, Duo w wr z y S z2 y2 T ∧ Fit k S ∧ Fit k T ∧ S.c = cf ∧ T.c = df ∧ Blk wr zc 30 cf.vals
set_option maxRecDepth 100000 in
set_option maxHeartbeats 16000000 in
theorem walk (cf df : Cf) (A : Option Addr) (n c : Nat) (ops : List Op08) (w : World) (hs : LstOp08 w A n c ops) :
    Calls Tryz.prog 5 #[.agg #[.int .i64 cf.cells, .int .i64 cf.slots, .int .i64 cf.bits, .int .i64 cf.tag, .int .i64 cf.bias, .int .i64 cf.defer], .agg #[.int .i64 df.cells, .int .i64 df.slots, .int .i64 df.bits, .int .i64 df.tag, .int .i64 df.bias, .int .i64 df.defer], .slice A n c] w fun e w' => e = .returned (.bool true) ∧ Below w.heap.size w w' := by
  have HSC := Lib.hid hs
  have hn := hs.2.2.1
  clear hs
  have kB : Keeps [] w ((w.alloc (.cells cf.vals 30)).alloc (.cells df.vals 30)) := by simp
  have hb : Blk ((w.alloc (.cells cf.vals 30)).alloc (.cells df.vals 30)) w.heap.size 30 cf.vals := (Blk.new _ _ _).alloc _
  have hb2 : Blk ((w.alloc (.cells cf.vals 30)).alloc (.cells df.vals 30)) (w.heap.size + 1) 30 df.vals := new_at _ _ _ (by simp)
  have HKB := Lib.hid kB
  have HBB := Lib.hid (And.intro hb hb2)
  clear kB hb hb2
  go_enter Tryz.func5, Tryz.ntmps5
  go_wp2_with fail
  refine (awake8 _).mono ?_
  rintro e w1 ⟨rfl, hk1⟩
  have HK1 : Hid (Keeps [] w w1) := HKB.out.trans hk1 (by simp)
  obtain ⟨zc, hzc⟩ : ∃ q, w.heap.size = q := ⟨_, rfl⟩
  obtain ⟨zd, hzd⟩ : ∃ q, w.heap.size + 1 = q := ⟨_, rfl⟩
  rw [hzd] at HBB
  try rw [hzd]
  rw [hzc] at HBB
  try rw [hzc]
  have HB1 : Hid (Blk w1 zc 30 cf.vals ∧ Blk w1 zd 30 df.vals) := ⟨HBB.out.1.keeps hk1 (by simp), HBB.out.2.keeps hk1 (by simp)⟩
  clear hk1 HKB HBB hzd
  by_cases hc : cf.ok
  · by_cases hd : df.ok
    · as_aux_lemma =>
      obtain ⟨d0, d1, d2, d3, d4, d5⟩ := cf_cells HB1.out.1
      go_wp2_with fail
      refine (sp_new w1 cf hc).mono ?_
      rintro e w2 ⟨z, F, rfl, hs1⟩
      have hk2 := hs1.keep
      have HK2 : Hid (Keeps [] w w2) := HK1.out.trans hk2 (by simp)
      have HB2 : Hid (Blk w2 zc 30 cf.vals ∧ Blk w2 zd 30 df.vals) := ⟨HB1.out.1.keeps hk2 (by simp), HB1.out.2.keeps hk2 (by simp)⟩
      have HS1 := Lib.hid (hs1.base HK1.out)
      clear hs1
      clear hk2 d0 d1 d2 d3 d4 d5
      obtain ⟨d0, d1, d2, d3, d4, d5⟩ := cf_cells HB2.out.2
      go_wp2_with fail
      refine (sp_new w2 df hd).mono ?_
      rintro e w3 ⟨z2, F2, rfl, hs2⟩
      have hk3 := hs2.keep
      have HK3 : Hid (Keeps [] w w3) := HK2.out.trans hk3 (by simp)
      have HB3 : Hid (Blk w3 zc 30 cf.vals ∧ Blk w3 zd 30 df.vals) := ⟨HB2.out.1.keeps hk3 (by simp), HB2.out.2.keeps hk3 (by simp)⟩
      have HL3 : Hid (∀ q, q ∈ F → q < w2.heap.size) := HS1.out.lt
      replace HS1 := Lib.hid (HS1.out.calm hk3)
      have HL4 : Hid (∀ q, q ∈ F2 → w2.heap.size ≤ q) := hs2.low
      have HS2 := Lib.hid (hs2.base HK2.out)
      clear hs2
      clear hk3 d0 d1 d2 d3 d4 d5
      obtain ⟨d0, d1, d2, d3, d4, d5⟩ := cf_cells HB3.out.1
      go_wp2_with fail
      refine (rp_new w3 cf hc).mono ?_
      rintro e w4 ⟨y, G, rfl, hr1⟩
      have hk4 := hr1.keep
      have HK4 : Hid (Keeps [] w w4) := HK3.out.trans hk4 (by simp)
      have HB4 : Hid (Blk w4 zc 30 cf.vals ∧ Blk w4 zd 30 df.vals) := ⟨HB3.out.1.keeps hk4 (by simp), HB3.out.2.keeps hk4 (by simp)⟩
      have HM : Hid ((∀ q, q ∈ F → q < w3.heap.size) ∧ (∀ q, q ∈ F2 → q < w3.heap.size) ∧ ∀ q, q ∈ G → w3.heap.size ≤ q) := ⟨HS1.out.lt, HS2.out.lt, hr1.low⟩
      replace HS1 := Lib.hid (HS1.out.calm hk4)
      replace HS2 := Lib.hid (HS2.out.calm hk4)
      have HR1 := Lib.hid (hr1.base HK3.out)
      clear hr1
      clear hk4 d0 d1 d2 d3 d4 d5
      obtain ⟨d0, d1, d2, d3, d4, d5⟩ := cf_cells HB4.out.2
      go_wp2_with fail
      refine (rp_new w4 df hd).mono ?_
      rintro e w5 ⟨y2, G2, rfl, hr2⟩
      have hk5 := hr2.keep
      have HK5 : Hid (Keeps [] w w5) := HK4.out.trans hk5 (by simp)
      have hz4 := HR1.out.lt
      have HDU : Hid (Duo w w5 z y (Sp.new cf) z2 y2 (Sp.new df)) := Duo.start (HS1.out.calm hk5) (HS2.out.calm hk5) (HR1.out.calm hk5) (hr2.base HK4.out)
        (fun q hq => ⟨fun hx => by have h1 := HL3.out q hq; have h2 := HL4.out q hx; omega, fun hx => by have h1 := HM.out.1 q hq; have h2 := HM.out.2.2 q hx; omega, fun hx => by have h1 := HS1.out.lt q hq; have h2 := hr2.low q hx; omega⟩)
        (fun q hq => ⟨fun hx => by have h1 := HM.out.2.1 q hq; have h2 := HM.out.2.2 q hx; omega, fun hx => by have h1 := HS2.out.lt q hq; have h2 := hr2.low q hx; omega⟩)
        (fun q hq hx => by have h1 := hz4 q hq; have h2 := hr2.low q hx; omega)
      have HB5 : Hid (Blk w5 zc 30 cf.vals) := HB4.out.1.keeps hk5 (by simp)
      obtain ⟨F1, G1, ht1⟩ := HDU.out.two
      obtain ⟨F3, G3, ht2⟩ := HDU.out.swap.two
      have HQ1 := Lib.hid (sp_gate ht1.sp)
      have HQ2 := Lib.hid (sp_slots ht1.sp)
      have HQ3 := Lib.hid (sp_gate ht2.sp)
      have HQ4 := Lib.hid (sp_slots ht2.sp)
      clear ht1 ht2 hz4 hr2 hk5 d0 d1 d2 d3 d4 d5 HS1 HS2 HR1 HM HL3 HL4 HB1 HB2 HB3 HB4
      go_wp2_with fail
      refine HQ1.out.mono ?_
      rintro e wq ⟨rfl, rfl⟩
      go_wp2_with fail
      refine HQ2.out.mono ?_
      rintro e wq ⟨rfl, rfl⟩
      go_wp2_with fail
      refine HQ3.out.mono ?_
      rintro e wq ⟨rfl, rfl⟩
      go_wp2_with fail
      refine HQ4.out.mono ?_
      rintro e wq ⟨rfl, rfl⟩
      clear HQ1 HQ2 HQ3 HQ4
      go_wp2_with fail
      go_loopw [18] (fun iv wr => ∃ k, k ≤ n ∧ iv = .int .i64 k ∧ Rd8 w wr z y z2 y2 cf df k zc) (fun iv _ => n - (intOf iv).toNat)
      case atStart => exact ⟨0, Nat.zero_le _, rfl, _, _, HDU.out, Fit.new hc, Fit.new hd, rfl, rfl, HB5.out⟩
      case round =>
        obtain ⟨k, hk, rfl, S, T, hdd, hf1, hf2, hc1, hc2, hbk⟩ := hrel
        have HD := Lib.hid hdd
        have HBK := Lib.hid hbk
        have HF := Lib.hid (And.intro hf1 (And.intro hf2 (And.intro hc1 hc2)))
        clear hdd hf1 hf2 hc1 hc2 hbk
        have k0 : (0 : Int) ≤ (k : Int) := by omega
        have hwi : IntKind.i64.wrap ((k : Int) + 1) = (k : Int) + 1 := by rw [IntKind.wrap_i64]; omega
        by_cases hlt : k < n
        · as_aux_lemma =>
          have k1 : (k : Int) < (n : Int) := by omega
          obtain ⟨ab, off, p, rfl, hp, hcell⟩ := HSC.out.at_ hlt
          have hop9 := hcell wr HD.out.keep
          have hop0 := hcell w (Keeps.refl _ _)
          have HP := Lib.hid (And.intro hop0.sl hop0.ln)
          have c0 := hop9.c0
          have c1 := hop9.c1
          have c2 := hop9.c2
          have c3 := hop9.c3
          have c4 := hop9.c4
          have c5 := hop9.c5
          have c6 := hop9.c6
          have c7 := hop9.c7
          have c8 := hop9.c8
          have c9' := hop9.c9
          have c10 := hop9.c10
          have c11 := hop9.c11
          have c12 := hop9.c12
          have c13 := hop9.c13
          have c14 := hop9.c14
          have c15 := hop9.c15
          clear hop9 hop0 hcell hp
          cases hop : p.other
          · as_aux_lemma =>
            rw [hop] at c0
            have hq := (HD.out.step HF.out.1 (by omega) p HP.out.1 HP.out.2)
            obtain ⟨S9, hS9⟩ : ∃ q, (S.play p) = q := ⟨_, rfl⟩
            obtain ⟨T9, hT9⟩ : ∃ q, T = q := ⟨_, rfl⟩
            have HF9 : Hid (Fit (k + 1) S9 ∧ Fit (k + 1) T9 ∧ S9.c = cf ∧ T9.c = df) := by
              rw [← hS9, ← hT9]
              exact ⟨HF.out.1.play p, HF.out.2.1.succ, (play_c S p).trans HF.out.2.2.1, HF.out.2.2.2⟩
            obtain ⟨other, kind, i, nn, x, A9, c9, xs, v⟩ := p
            unfold Op08.vals at hq
            dsimp only at hq hop c0 c1 c2 c3 c4 c5 c6 c7 c8 c9' c10 c11 c12 c13 c14 c15
            subst hop
            have HQ := Lib.hid hq
            clear hq
            go_wp2_with fail
            refine HQ.out.mono ?_
            rintro e w5 ⟨rfl, hd2, hbb⟩
            have HB9 := Lib.hid (hbb _ _ HBK.out)
            have hd9 : Duo w w5 z y S9 z2 y2 T9 := by
              rw [← hS9, ← hT9]
              exact hd2
            clear HQ hd2 hS9 hT9 c0 c1 c2 c3 c4 c5 c6 c7 c8 c9' c10 c11 c12 c13 c14 c15 HD HF HP
            obtain ⟨F9, G9, htw⟩ := hd9.two
            obtain ⟨A1, c1, LX, m0, m2, m3, m4⟩ := q_meter htw.rp (by have := HF9.out.1.log; omega)
            have zc0 := htw.sp.cells.1
            have yc6 := htw.rp.cells.2.2.2.1
            have QS : Hid (∀ N, Calls Tryz.prog 38 #[PT z.p] (w5.drewN N) fun e w' => e = .returned (.int .i64 S9.met.steps) ∧ w5.drewN N = w') := fun N => sp_step (htw.sp.calm ((Keeps.refl [] w5).drewN N))
            have QDn : Hid (∀ N, Calls Tryz.prog 31 #[PT z.m] (w5.drewN N) fun e w' => e = .returned (.int .i64 S9.met.done) ∧ w5.drewN N = w') := fun N => sp_done (htw.sp.calm ((Keeps.refl [] w5).drewN N))
            have QMo : Hid (∀ N, Calls Tryz.prog 39 #[PT z.m] (w5.drewN N) fun e w' => e = .returned (.int .i64 S9.met.most) ∧ w5.drewN N = w') := fun N => sp_most (htw.sp.calm ((Keeps.refl [] w5).drewN N))
            have HD9 := Lib.hid hd9
            clear htw LX m4 hd9 A1 c1 hbb HBK
            go_wp2_with fail
            go_quiet ((first | (go_at_call 38; exact qs (QS.out _)) | (go_at_call 31; exact qs (QDn.out _)) | (go_at_call 39; exact qs (QMo.out _))))
            go_wp2_with fail
            exact ⟨⟨k + 1, by omega, by simp, ⟨S9, T9, HD9.out.calm ((Keeps.refl [] _).drewN _), HF9.out.1, HF9.out.2.1, HF9.out.2.2.1, HF9.out.2.2.2, HB9.out.keeps ((Keeps.refl [] _).drewN _) (by simp)⟩⟩, by simp [intOf]; omega⟩
          · as_aux_lemma =>
            rw [hop] at c0
            have hq := (HD.out.swap.step HF.out.2.1 (by omega) p HP.out.1 HP.out.2)
            obtain ⟨S9, hS9⟩ : ∃ q, S = q := ⟨_, rfl⟩
            obtain ⟨T9, hT9⟩ : ∃ q, (T.play p) = q := ⟨_, rfl⟩
            have HF9 : Hid (Fit (k + 1) S9 ∧ Fit (k + 1) T9 ∧ S9.c = cf ∧ T9.c = df) := by
              rw [← hS9, ← hT9]
              exact ⟨HF.out.1.succ, HF.out.2.1.play p, HF.out.2.2.1, (play_c T p).trans HF.out.2.2.2⟩
            obtain ⟨other, kind, i, nn, x, A9, c9, xs, v⟩ := p
            unfold Op08.vals at hq
            dsimp only at hq hop c0 c1 c2 c3 c4 c5 c6 c7 c8 c9' c10 c11 c12 c13 c14 c15
            subst hop
            have HQ := Lib.hid hq
            clear hq
            go_wp2_with fail
            refine HQ.out.mono ?_
            rintro e w5 ⟨rfl, hd2, hbb⟩
            have HB9 := Lib.hid (hbb _ _ HBK.out)
            have hd9 : Duo w w5 z y S9 z2 y2 T9 := by
              rw [← hS9, ← hT9]
              exact hd2.swap
            clear HQ hd2 hS9 hT9 c0 c1 c2 c3 c4 c5 c6 c7 c8 c9' c10 c11 c12 c13 c14 c15 HD HF HP
            obtain ⟨F9, G9, htw⟩ := hd9.two
            obtain ⟨A1, c1, LX, m0, m2, m3, m4⟩ := q_meter htw.rp (by have := HF9.out.1.log; omega)
            have zc0 := htw.sp.cells.1
            have yc6 := htw.rp.cells.2.2.2.1
            have QS : Hid (∀ N, Calls Tryz.prog 38 #[PT z.p] (w5.drewN N) fun e w' => e = .returned (.int .i64 S9.met.steps) ∧ w5.drewN N = w') := fun N => sp_step (htw.sp.calm ((Keeps.refl [] w5).drewN N))
            have QDn : Hid (∀ N, Calls Tryz.prog 31 #[PT z.m] (w5.drewN N) fun e w' => e = .returned (.int .i64 S9.met.done) ∧ w5.drewN N = w') := fun N => sp_done (htw.sp.calm ((Keeps.refl [] w5).drewN N))
            have QMo : Hid (∀ N, Calls Tryz.prog 39 #[PT z.m] (w5.drewN N) fun e w' => e = .returned (.int .i64 S9.met.most) ∧ w5.drewN N = w') := fun N => sp_most (htw.sp.calm ((Keeps.refl [] w5).drewN N))
            have HD9 := Lib.hid hd9
            clear htw LX m4 hd9 A1 c1 hbb HBK
            go_wp2_with fail
            go_quiet ((first | (go_at_call 38; exact qs (QS.out _)) | (go_at_call 31; exact qs (QDn.out _)) | (go_at_call 39; exact qs (QMo.out _))))
            go_wp2_with fail
            exact ⟨⟨k + 1, by omega, by simp, ⟨S9, T9, HD9.out.calm ((Keeps.refl [] _).drewN _), HF9.out.1, HF9.out.2.1, HF9.out.2.2.1, HF9.out.2.2.2, HB9.out.keeps ((Keeps.refl [] _).drewN _) (by simp)⟩⟩, by simp [intOf]; omega⟩
        · as_aux_lemma =>
          have hge : ¬ (k : Int) < (n : Int) := by omega
          obtain ⟨F1, G1, h1⟩ := HD.out.two
          obtain ⟨F2, G2, h2⟩ := HD.out.swap.two
          have hk9 : k ≤ 1099511627776 := by omega
          have hf1 := HF.out.1
          have hf2 := HF.out.2.1
          have hll1 : S.met.log.length ≤ 2199023255552 := by have := hf1.log; omega
          have hll2 : T.met.log.length ≤ 2199023255552 := by have := hf2.log; omega
          obtain ⟨A1, c1, LX1, _, _, _, m41⟩ := q_meter h1.rp hll1
          obtain ⟨A2, c2, LX2, _, _, _, m42⟩ := q_meter h2.rp hll2
          obtain ⟨g8, g1, g2⟩ := q_gate h1.rp
          have QV1 := Lib.hid (q_view h1 hf1)
          have QV2 := Lib.hid (q_view h2 hf2)
          have QE1 := Lib.hid (q_events h1 hf1 hk9)
          have QE2 := Lib.hid (q_events h2 hf2 hk9)
          have QL1 := Lib.hid (q_log h1 hll1 (c := c1) LX1)
          have QL2 := Lib.hid (q_log h2 hll2 (c := c2) LX2)
          have QG : Hid (∀ w', Keeps [] wr w' → Calls Tryz.prog 20 #[PT z.q] w' fun e w'' => e = .returned (.agg #[.int .i64 S.gate.number, .int .i64 S.gate.owner]) ∧ Keeps [] wr w'') := fun w' hk => (g_now (h1.sp.calm hk)).mono fun e w'' ⟨he, h⟩ => ⟨he, hk.trans h (by simp)⟩
          have hsl : (S.H.length : Int) = cf.slots := by have h1 := hf1.slots; have h2 := hf1.c.2.1; rw [HF.out.2.2.1] at h1 h2; omega
          have QLn : Hid (∀ w', Keeps [] wr w' → Calls Tryz.prog 40 #[PT z.t.q] w' fun e w'' => e = .returned (.int .i64 cf.slots) ∧ Keeps [] wr w'') := fun w' hk => hsl ▸ len_heldS h1.sp hk
          have hzc : wr.cell? ⟨zc, 1, none⟩ = some (.int .i64 cf.slots) := (HBK.out.cell 1).trans rfl
          have HC0 : ∀ w', Keeps [] wr w' → w'.cell? ⟨z.p, 0, none⟩ = some (PT z.m) ∧ w'.cell? ⟨y.p, 6, none⟩ = some (PT y.m) ∧ w'.cell? ⟨y.p, 8, none⟩ = some (PT y.g) ∧ w'.cell? ⟨y.g, 1, none⟩ = some (.int .i64 S.gate.number) ∧ w'.cell? ⟨y.g, 2, none⟩ = some (.int .i64 S.gate.owner) ∧ w'.cell? ⟨y.m, 4, none⟩ = some (.slice A1 S.met.log.length c1) ∧ w'.cell? ⟨zc, 1, none⟩ = some (.int .i64 cf.slots) ∧ w'.cell? ⟨z2.p, 0, none⟩ = some (PT z2.m) ∧ w'.cell? ⟨y2.p, 6, none⟩ = some (PT y2.m) ∧ w'.cell? ⟨y2.m, 4, none⟩ = some (.slice A2 T.met.log.length c2) := fun w' hk => ⟨(h1.sp.calm hk).cells.1, (h1.rp.calm hk).cells.2.2.2.1, keeps_cell0 hk g8, keeps_cell0 hk g1, keeps_cell0 hk g2, keeps_cell0 hk m41, keeps_cell0 hk hzc, (h2.sp.calm hk).cells.1, (h2.rp.calm hk).cells.2.2.2.1, keeps_cell0 hk m42⟩
          have q1 : ∀ w, (Op.equalIn 10000 48 (.agg #[.int .i64 S.gate.number, .int .i64 S.gate.owner]) (.agg #[.int .i64 S.gate.number, .int .i64 S.gate.owner])).run Tryz.prog w = .ok true w := fun w => by have := RowG.eq_run w S.gate S.gate; rw [decide_eq_true rfl] at this; exact this
          have HKZ := Lib.hid HD.out.keep
          obtain ⟨gn, hgn⟩ : ∃ q, S.gate.number = q := ⟨_, rfl⟩
          obtain ⟨gow, hgow⟩ : ∃ q, S.gate.owner = q := ⟨_, rfl⟩
          obtain ⟨l1, hl1⟩ : ∃ q, S.met.log.length = q := ⟨_, rfl⟩
          obtain ⟨l2, hl2⟩ : ∃ q, T.met.log.length = q := ⟨_, rfl⟩
          obtain ⟨cs, hcs⟩ : ∃ q, cf.slots = q := ⟨_, rfl⟩
          rw [hgn, hgow] at QG q1
          rw [hgn, hgow, hl1, hl2, hcs] at HC0
          rw [hcs] at QLn
          rw [hl1] at QL1
          rw [hl2] at QL2
          rw [hgn, hgow] at QV1
          have HC := Lib.hid HC0
          have hkB : Keeps [] wr wr := Keeps.refl _ _
          clear h1 h2 hf1 hf2 hll1 hll2 LX1 LX2 m41 m42 g8 g1 g2 hsl hzc HC0 HD HF HBK hgn hgow hl1 hl2 hcs
          go_wp2_with fail
          go_region_held3 (fun w' => w'.cell? ⟨z.p, 0, none⟩ = some (PT z.m) ∧ w'.cell? ⟨y.p, 6, none⟩ = some (PT y.m) ∧ w'.cell? ⟨y.p, 8, none⟩ = some (PT y.g) ∧ w'.cell? ⟨y.g, 1, none⟩ = some (.int .i64 gn) ∧ w'.cell? ⟨y.g, 2, none⟩ = some (.int .i64 gow) ∧ w'.cell? ⟨y.m, 4, none⟩ = some (.slice A1 l1 c1) ∧ w'.cell? ⟨zc, 1, none⟩ = some (.int .i64 cs) ∧ w'.cell? ⟨z2.p, 0, none⟩ = some (PT z2.m) ∧ w'.cell? ⟨y2.p, 6, none⟩ = some (PT y2.m) ∧ w'.cell? ⟨y2.m, 4, none⟩ = some (.slice A2 l2 c2)) (first | with_reducible exact HC.out _ (by first | with_reducible assumption | with_reducible exact Keeps.drew (by with_reducible assumption)) | go_keep) ((first
                | (go_at_call 20; (with_reducible refine (QG.out _ (by first | with_reducible assumption | with_reducible exact Keeps.drew (by with_reducible assumption))).mono ?_); rintro e wg ⟨rfl, hkg⟩)
                | (go_at_call 40; (with_reducible refine (QLn.out _ (by first | with_reducible assumption | with_reducible exact Keeps.drew (by with_reducible assumption))).mono ?_); rintro e wn ⟨rfl, hkn⟩)
                | (go_at_call 25; (with_reducible refine (QV1.out _ (by first | with_reducible assumption | with_reducible exact Keeps.drew (by with_reducible assumption))).mono ?_); rintro e wv1 ⟨⟨a11, b11, a21, b21, rfl, hIs⟩, hkv1⟩; have HIS1 := Lib.hid hIs; clear hIs)
                | (go_at_call 41; (with_reducible refine (HIS1.out _ (by first | with_reducible exact Keeps.refl _ _ | with_reducible exact Keeps.drew (Keeps.refl _ _) | with_reducible exact Keeps.drew (Keeps.drew (Keeps.refl _ _)))).mono ?_); rintro e wi1 ⟨rfl, hki1⟩)
                | (go_at_call 43; (with_reducible refine (QE1.out _ (by first | with_reducible assumption | with_reducible exact Keeps.drew (by with_reducible assumption))).mono ?_); rintro e we1 ⟨⟨E1, d1, rfl, hTo⟩, hke1⟩; have HTO1 := Lib.hid hTo; clear hTo)
                | (go_at_call 42; (with_reducible refine (HTO1.out _ (by first | with_reducible exact Keeps.refl _ _ | with_reducible exact Keeps.drew (Keeps.refl _ _) | with_reducible exact Keeps.drew (Keeps.drew (Keeps.refl _ _)))).mono ?_); rintro e wt1 ⟨rfl, hkt1⟩)
                | (go_at_call 29; (with_reducible refine (QL1.out _ (by first | with_reducible assumption | with_reducible exact Keeps.drew (by with_reducible assumption))).mono ?_); rintro e wl1 ⟨⟨B1, f1, rfl, hSa⟩, hkl1⟩; have HSA1 := Lib.hid hSa; clear hSa)
                | (go_at_call 44; (with_reducible refine (HSA1.out _ (by first | with_reducible exact Keeps.refl _ _ | with_reducible exact Keeps.drew (Keeps.refl _ _) | with_reducible exact Keeps.drew (Keeps.drew (Keeps.refl _ _)))).mono ?_); rintro e ws1 ⟨rfl, hks1⟩)
                | (go_at_call 25; (with_reducible refine (QV2.out _ (by first | with_reducible assumption | with_reducible exact Keeps.drew (by with_reducible assumption))).mono ?_); rintro e wv2 ⟨⟨a12, b12, a22, b22, rfl, hIs⟩, hkv2⟩; have HIS2 := Lib.hid hIs; clear hIs)
                | (go_at_call 41; (with_reducible refine (HIS2.out _ (by first | with_reducible exact Keeps.refl _ _ | with_reducible exact Keeps.drew (Keeps.refl _ _) | with_reducible exact Keeps.drew (Keeps.drew (Keeps.refl _ _)))).mono ?_); rintro e wi2 ⟨rfl, hki2⟩)
                | (go_at_call 43; (with_reducible refine (QE2.out _ (by first | with_reducible assumption | with_reducible exact Keeps.drew (by with_reducible assumption))).mono ?_); rintro e we2 ⟨⟨E2, d2, rfl, hTo⟩, hke2⟩; have HTO2 := Lib.hid hTo; clear hTo)
                | (go_at_call 42; (with_reducible refine (HTO2.out _ (by first | with_reducible exact Keeps.refl _ _ | with_reducible exact Keeps.drew (Keeps.refl _ _) | with_reducible exact Keeps.drew (Keeps.drew (Keeps.refl _ _)))).mono ?_); rintro e wt2 ⟨rfl, hkt2⟩)
                | (go_at_call 29; (with_reducible refine (QL2.out _ (by first | with_reducible assumption | with_reducible exact Keeps.drew (by with_reducible assumption))).mono ?_); rintro e wl2 ⟨⟨B2, f2, rfl, hSa⟩, hkl2⟩; have HSA2 := Lib.hid hSa; clear hSa)
                | (go_at_call 44; (with_reducible refine (HSA2.out _ (by first | with_reducible exact Keeps.refl _ _ | with_reducible exact Keeps.drew (Keeps.refl _ _) | with_reducible exact Keeps.drew (Keeps.drew (Keeps.refl _ _)))).mono ?_); rintro e ws2 ⟨rfl, hks2⟩)))
          all_goals
            go_wp2_with fail
            go_ret
            exact ⟨rfl, (HKZ.out.trans (by first | with_reducible assumption | with_reducible exact Keeps.drew (by with_reducible assumption)) (by simp)).below (by simp) (Nat.le_refl _)⟩
    · as_aux_lemma =>
      obtain ⟨d0, d1, d2, d3, d4, d5⟩ := cf_cells HB1.out.1
      go_wp2_with fail
      refine (sp_new w1 cf hc).mono ?_
      rintro e w2 ⟨z, F, rfl, hs1⟩
      have hk2 := hs1.keep
      have HK2 : Hid (Keeps [] w w2) := HK1.out.trans hk2 (by simp)
      have HB2 : Hid (Blk w2 zc 30 cf.vals ∧ Blk w2 zd 30 df.vals) := ⟨HB1.out.1.keeps hk2 (by simp), HB1.out.2.keeps hk2 (by simp)⟩
      have HS1 := Lib.hid (hs1.base HK1.out)
      clear hs1
      clear hk2 d0 d1 d2 d3 d4 d5
      obtain ⟨d0, d1, d2, d3, d4, d5⟩ := cf_cells HB2.out.2
      go_wp2_with fail
      refine (sp_new_bad w2 df hd).mono ?_
      rintro e w3 ⟨rfl, hk3⟩
      have HK3 : Hid (Keeps [] w w3) := HK2.out.trans hk3 (by simp)
      have HB3 : Hid (Blk w3 zc 30 cf.vals ∧ Blk w3 zd 30 df.vals) := ⟨HB2.out.1.keeps hk3 (by simp), HB2.out.2.keeps hk3 (by simp)⟩
      have HL3 : Hid (∀ q, q ∈ F → q < w2.heap.size) := HS1.out.lt
      replace HS1 := Lib.hid (HS1.out.calm hk3)
      clear hk3 d0 d1 d2 d3 d4 d5
      obtain ⟨d0, d1, d2, d3, d4, d5⟩ := cf_cells HB3.out.1
      go_wp2_with fail
      refine (rp_new w3 cf hc).mono ?_
      rintro e w4 ⟨y, G, rfl, hr1⟩
      have hk4 := hr1.keep
      have HK4 : Hid (Keeps [] w w4) := HK3.out.trans hk4 (by simp)
      have HB4 : Hid (Blk w4 zc 30 cf.vals ∧ Blk w4 zd 30 df.vals) := ⟨HB3.out.1.keeps hk4 (by simp), HB3.out.2.keeps hk4 (by simp)⟩
      clear hk4 d0 d1 d2 d3 d4 d5
      obtain ⟨d0, d1, d2, d3, d4, d5⟩ := cf_cells HB4.out.2
      go_wp2_with fail
      refine (rp_new_bad w4 df hd).mono ?_
      rintro e w5 ⟨rfl, hk5⟩
      have HK5 : Hid (Keeps [] w w5) := HK4.out.trans hk5 (by simp)
      clear hk5 d0 d1 d2 d3 d4 d5
      go_wp2_with fail
      go_ret
      exact ⟨rfl, HK5.out.below (by simp) (hzc ▸ Nat.le_refl _)⟩
  · by_cases hd : df.ok
    · as_aux_lemma =>
      obtain ⟨d0, d1, d2, d3, d4, d5⟩ := cf_cells HB1.out.1
      go_wp2_with fail
      refine (sp_new_bad w1 cf hc).mono ?_
      rintro e w2 ⟨rfl, hk2⟩
      have HK2 : Hid (Keeps [] w w2) := HK1.out.trans hk2 (by simp)
      have HB2 : Hid (Blk w2 zc 30 cf.vals ∧ Blk w2 zd 30 df.vals) := ⟨HB1.out.1.keeps hk2 (by simp), HB1.out.2.keeps hk2 (by simp)⟩
      clear hk2 d0 d1 d2 d3 d4 d5
      obtain ⟨d0, d1, d2, d3, d4, d5⟩ := cf_cells HB2.out.2
      go_wp2_with fail
      refine (sp_new w2 df hd).mono ?_
      rintro e w3 ⟨z2, F2, rfl, hs2⟩
      have hk3 := hs2.keep
      have HK3 : Hid (Keeps [] w w3) := HK2.out.trans hk3 (by simp)
      have HB3 : Hid (Blk w3 zc 30 cf.vals ∧ Blk w3 zd 30 df.vals) := ⟨HB2.out.1.keeps hk3 (by simp), HB2.out.2.keeps hk3 (by simp)⟩
      have HL4 : Hid (∀ q, q ∈ F2 → w2.heap.size ≤ q) := hs2.low
      have HS2 := Lib.hid (hs2.base HK2.out)
      clear hs2
      clear hk3 d0 d1 d2 d3 d4 d5
      obtain ⟨d0, d1, d2, d3, d4, d5⟩ := cf_cells HB3.out.1
      go_wp2_with fail
      refine (rp_new_bad w3 cf hc).mono ?_
      rintro e w4 ⟨rfl, hk4⟩
      have HK4 : Hid (Keeps [] w w4) := HK3.out.trans hk4 (by simp)
      have HB4 : Hid (Blk w4 zc 30 cf.vals ∧ Blk w4 zd 30 df.vals) := ⟨HB3.out.1.keeps hk4 (by simp), HB3.out.2.keeps hk4 (by simp)⟩
      clear hk4 d0 d1 d2 d3 d4 d5
      obtain ⟨d0, d1, d2, d3, d4, d5⟩ := cf_cells HB4.out.2
      go_wp2_with fail
      refine (rp_new w4 df hd).mono ?_
      rintro e w5 ⟨y2, G2, rfl, hr2⟩
      have hk5 := hr2.keep
      have HK5 : Hid (Keeps [] w w5) := HK4.out.trans hk5 (by simp)
      clear hk5 d0 d1 d2 d3 d4 d5
      go_wp2_with fail
      go_ret
      exact ⟨rfl, HK5.out.below (by simp) (hzc ▸ Nat.le_refl _)⟩
    · as_aux_lemma =>
      obtain ⟨d0, d1, d2, d3, d4, d5⟩ := cf_cells HB1.out.1
      go_wp2_with fail
      refine (sp_new_bad w1 cf hc).mono ?_
      rintro e w2 ⟨rfl, hk2⟩
      have HK2 : Hid (Keeps [] w w2) := HK1.out.trans hk2 (by simp)
      have HB2 : Hid (Blk w2 zc 30 cf.vals ∧ Blk w2 zd 30 df.vals) := ⟨HB1.out.1.keeps hk2 (by simp), HB1.out.2.keeps hk2 (by simp)⟩
      clear hk2 d0 d1 d2 d3 d4 d5
      obtain ⟨d0, d1, d2, d3, d4, d5⟩ := cf_cells HB2.out.2
      go_wp2_with fail
      refine (sp_new_bad w2 df hd).mono ?_
      rintro e w3 ⟨rfl, hk3⟩
      have HK3 : Hid (Keeps [] w w3) := HK2.out.trans hk3 (by simp)
      have HB3 : Hid (Blk w3 zc 30 cf.vals ∧ Blk w3 zd 30 df.vals) := ⟨HB2.out.1.keeps hk3 (by simp), HB2.out.2.keeps hk3 (by simp)⟩
      clear hk3 d0 d1 d2 d3 d4 d5
      obtain ⟨d0, d1, d2, d3, d4, d5⟩ := cf_cells HB3.out.1
      go_wp2_with fail
      refine (rp_new_bad w3 cf hc).mono ?_
      rintro e w4 ⟨rfl, hk4⟩
      have HK4 : Hid (Keeps [] w w4) := HK3.out.trans hk4 (by simp)
      have HB4 : Hid (Blk w4 zc 30 cf.vals ∧ Blk w4 zd 30 df.vals) := ⟨HB3.out.1.keeps hk4 (by simp), HB3.out.2.keeps hk4 (by simp)⟩
      clear hk4 d0 d1 d2 d3 d4 d5
      obtain ⟨d0, d1, d2, d3, d4, d5⟩ := cf_cells HB4.out.2
      go_wp2_with fail
      refine (rp_new_bad w4 df hd).mono ?_
      rintro e w5 ⟨rfl, hk5⟩
      have HK5 : Hid (Keeps [] w w5) := HK4.out.trans hk5 (by simp)
      clear hk5 d0 d1 d2 d3 d4 d5
      go_wp2_with fail
      go_ret
      exact ⟨rfl, HK5.out.below (by simp) (hzc ▸ Nat.le_refl _)⟩
end Go.Proofs.YtcoekpomiljofaaGreat.spacePlays
