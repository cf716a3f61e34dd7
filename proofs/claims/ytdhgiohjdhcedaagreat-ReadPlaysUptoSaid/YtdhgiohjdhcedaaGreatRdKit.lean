/- Layer 11: reads as machines beside a space and the document's; quashlaw11.told. -/
import Derived.Test.YtdhgiohjdhcedaaGreatRdocT
import Derived.Test.YtdhgiohjdhcedaaGreatRig
import Derived.Test.YtdhgiohjdhcedaaGreatAw11
import Derived.Test.YtdhgiohjdhcedaaGreatSame11
import Derived.Deep.RegionHeld3
namespace Go.Proofs.YtdhgiohjdhcedaaGreat
open Go.RowKit
set_option linter.unusedVariables false
set_option linter.unusedSimpArgs false
open PR
/-- Reads as machines. -/
abbrev rk : Kit Rd where
  PM := fun z w G a x => ∃ wv, RdAt w z a wv x ∧ G = footR a wv
  PD := fun y w G a x => G = [a] ∧ DocAt w y a x
  TX := 167
  TY := 169
  TO := 173
  xy := by decide
  xf := by decide
  yf := by decide
  of := by decide
  lm := fun w0 z a x w w' G X h hk hX ha => by
    obtain ⟨wv, h1, rfl⟩ := h
    exact ⟨wv, h1.keeps hk hX, rfl⟩
  ld := fun w0 y a x w w' G X h hk hX ha => ⟨h.1, h.2.keeps hk (hX a (by rw [h.1]; simp))⟩
  tm := fun z w G a x h q hq => by
    obtain ⟨wv, h1, rfl⟩ := h
    simp only [footR, List.mem_cons] at hq
    rcases hq with rfl | hq
    · exact ⟨_, h1.blk.tyOf, by decide⟩
    · exact ⟨_, h1.words.ty q hq, by decide⟩
  td := fun y w G a x h q hq => by
    rw [h.1] at hq
    simp at hq
    subst hq
    exact ⟨_, h.2.ty, by decide⟩
/-- What steps of a read keep. -/
structure RJ (n : Int) (x : Rd) : Prop where
  ri : RI x
  ji : JI n x
  c0 : 0 ≤ x.cell
  c1 : x.cell ≤ 255
section
variable {w w' w0 : World} {y : Rb} {G F : List Nat} {z : Sb} {S T : Sp} {a b k i xb yb : Nat} {x : Rd} {n : Int} {O : Option (Nat × Array Value)} {M N : Nat → Option (Nat × Rd)}
theorem RJ.step (h : RJ n x) (S : Sp) : RJ n (x.step S).2.1 := ⟨h.ri.step S, h.ji.step h.ri S, by rw [(h.ri.same S).1]; exact h.c0, by rw [(h.ri.same S).1]; exact h.c1⟩
theorem RJ.new {f : Fr} {cell : Int} (n0 : 1 ≤ n) (n1 : n ≤ 128) (hs : f.sig.ok) (c0 : 0 ≤ cell) (c1 : cell ≤ 255) : RJ n (Rd.new n f cell) := ⟨RI.new n f cell hs (ownSg_ok n0 n1 cell), JI.new hs (ownSg_ok n0 n1 cell), c0, c1⟩
theorem rk_step (h : Rig rk w0 w z y xb yb O S T M N) (hm : M i = some (a, x)) (hf : Fit k S) (hk : k ≤ 1099511627776) (hi : RI x) :
    Calls Tryz.prog 78 #[PT a] w fun e w' => e = .returned (.int .i64 (x.step S).1) ∧ Rig rk w0 w' z y xb yb O (x.step S).2.2 T (upd' M i (some (a, (x.step S).2.1))) N := by
  obtain ⟨G, hs⟩ := h
  have hq := hs.at_ (.m i)
  rw [parts_m, hm] at hq
  have hR : RD w0 w z (G .s) a (G (.m i)) x := ⟨hq, (hs.apart (.m i)).low, fun q hq hg => hs.dif (.m i) .s (by simp) q hq hg⟩
  refine (rd_step (hs.at_ .s) hf hk hR hi).mono fun e w' ⟨he, F', G', h1, h2, h3, h4, h5⟩ => ⟨he, ?_⟩
  exact mach hs hm h3 (fun q hq => by rw [List.mem_append] at hq; exact hq.symm) h1 h4 h2.ex h5 (fun q hq hg => h2.off q hg hq)
theorem rk_dstep (h : Rig rk w0 w z y xb yb O S T M N) (hm : N i = some (a, x)) (hf : Fit k T) (hk : k ≤ 1099511627776) (hj : RJ T.c.bits x) :
    Calls Tryz.prog 79 #[PT a] w fun e w' => e = .returned (.int .i64 (x.step T).1) ∧ Rig rk w0 w' z y xb yb O S (x.step T).2.2 M (upd' N i (some (a, (x.step T).2.1))) := by
  obtain ⟨G, hs⟩ := h
  have hq := hs.at_ (.d i)
  rw [parts_d, hm] at hq
  obtain ⟨hg, hd⟩ : G (.d i) = [a] ∧ DocAt w y a x := hq
  have ha : a ∈ G (.d i) := by rw [hg]; simp
  have hlow := (hs.apart (.d i)).low a ha
  have hoff : a ∉ G .r := hs.dif (.d i) .r (by simp) a ha
  refine (doc_step (hs.at_ .r) hf hk hd hlow hoff hj.ri hj.ji hj.c0 hj.c1).mono fun e w' ⟨he, h1, G', h2, h3, h4⟩ => ⟨he, ?_⟩
  refine dmach hs hm h3 (fun q hq => by rw [List.mem_cons] at hq; exact hq.elim (fun e => .inr (e ▸ ha)) .inl) h2 h4 (G' := [a]) ⟨rfl, h1⟩ (fun q hq => .inl (by rw [hg]; exact hq)) (fun q hq hg2 => ?_)
  simp at hg2
  subst hg2
  rcases h4 q hq with h5 | h5
  · exact hoff h5
  · have := hs.lt (.d i) q ha; omega
theorem rk_raw (h : Rig rk w0 w z y xb yb O S S M N) (hf : Fit k S) (hk : k ≤ 1099511627776) (kd m i n x q0 q1 q2 q3 q4 : Int) : Calls Tryz.prog 80 #[PT z.p, PT y.p, .agg #[.int .i64 kd, .int .i64 m, .int .i64 i, .int .i64 n, .int .i64 x, .int .i64 q0, .int .i64 q1, .int .i64 q2, .int .u64 q3, .int .u64 q4]] w fun e w' => e = .returned (.bool true) ∧ Rig rk w0 w' z y xb yb O (S.raw kd i n x) (S.raw kd i n x) M N := by
  obtain ⟨G, hs⟩ := h
  exact (Raw11.any (two hs) hf hk kd m i n x q0 q1 q2 q3 q4).mono fun e w' ⟨he, hw⟩ => ⟨he, both hs hw⟩
theorem rk_same (h : Rig rk w0 w z y xb yb O S S M N) (hf : Fit k S) (hk : k ≤ 1099511627776) : Calls Tryz.prog 82 #[PT z.p, PT y.p] w fun e w' => e = .returned (.bool true) ∧ Keeps [] w w' := by
  obtain ⟨G, hs⟩ := h
  exact Same11.any (two hs) hf hk
set_option maxRecDepth 100000 in
set_option maxHeartbeats 4000000 in
theorem told11_yes {wv : Value} (ha : RdAt w z a wv x) (hb : DocAt w y b x) (hi : RI x) : Calls Tryz.prog 81 #[PT a, PT b] w fun e w' => e = .returned (.bool true) ∧ Keeps [] w w' := by
  have HA := Lib.hid ha
  have HB := Lib.hid (And.intro hb hi)
  clear ha hb hi
  go_enter Tryz.func81, Tryz.ntmps81
  go_wp2_with fail
  refine (rd_value HA.out).mono ?_
  rintro e w1 ⟨rfl, hk1⟩
  have HK1 := Lib.hid hk1
  clear hk1
  obtain ⟨vv, hvv⟩ : ∃ v, (if x.e = 0 then x.x else 0) = v := ⟨_, rfl⟩
  try rw [hvv]
  go_wp2_with fail
  refine (doc_value (HB.out.1.keeps HK1.out (by simp)) HB.out.2).mono ?_
  rintro e w2 ⟨rfl, hk2⟩
  rw [hvv]
  have HK2 := Lib.hid (HK1.out.trans hk2 (by simp))
  clear hk2 hvv
  have HC : Hid (∀ w', Keeps [] w2 w' → w'.cell? ⟨b, 1, none⟩ = some (.int .i64 x.f.slot) ∧ w'.cell? ⟨b, 2, none⟩ = some (.int .i64 x.f.gen) ∧ w'.cell? ⟨b, 3, none⟩ = some (.int .i64 x.f.seen) ∧ w'.cell? ⟨b, 4, none⟩ = some (.int .u64 (x.f.sig.a : Int)) ∧ w'.cell? ⟨b, 5, none⟩ = some (.int .u64 (x.f.sig.b : Int))) := fun w' hk => by
    obtain ⟨⟨X, E, hbl, _⟩⟩ := HB.out.1.keeps (HK2.out.trans hk (by simp)) (by simp)
    exact ⟨(hbl.cell 1).trans rfl, (hbl.cell 2).trans rfl, (hbl.cell 3).trans rfl, (hbl.cell 4).trans rfl, (hbl.cell 5).trans rfl⟩
  have QD : Hid (∀ w', Keeps [] w2 w' → Calls Tryz.prog 163 #[PT a] w' fun e w'' => e = .returned (.bool x.over) ∧ Keeps [] w2 w'') := fun w' hk => (rd_done (HA.out.keeps (HK2.out.trans hk (by simp)) (by simp))).mono fun e w'' ⟨he, h2⟩ => ⟨he, h2 ▸ hk⟩
  have QE : Hid (∀ w', Keeps [] w2 w' → Calls Tryz.prog 176 #[PT b] w' fun e w'' => e = .returned (.bool x.over) ∧ Keeps [] w2 w'') := fun w' hk => (doc_done (HB.out.1.keeps (HK2.out.trans hk (by simp)) (by simp))).mono fun e w'' ⟨he, h2⟩ => ⟨he, h2 ▸ hk⟩
  have QF : Hid (∀ w', Keeps [] w2 w' → Calls Tryz.prog 165 #[PT a] w' fun e w'' => e = .returned (.agg #[.int .i64 x.f.slot, .int .i64 x.f.gen, .int .i64 x.f.seen, .int .u64 (x.f.sig.a : Int), .int .u64 (x.f.sig.b : Int)]) ∧ Keeps [] w2 w'') := fun w' hk => (rd_from (HA.out.keeps (HK2.out.trans hk (by simp)) (by simp))).mono fun e w'' ⟨he, h2⟩ => ⟨he, hk.trans h2 (by simp)⟩
  have hkB : Keeps [] w2 w2 := Keeps.refl _ _
  have hfe := from_eq
  go_wp2_with fail
  go_region_held3 (fun w' => w'.cell? ⟨b, 1, none⟩ = some (.int .i64 x.f.slot) ∧ w'.cell? ⟨b, 2, none⟩ = some (.int .i64 x.f.gen) ∧ w'.cell? ⟨b, 3, none⟩ = some (.int .i64 x.f.seen) ∧ w'.cell? ⟨b, 4, none⟩ = some (.int .u64 (x.f.sig.a : Int)) ∧ w'.cell? ⟨b, 5, none⟩ = some (.int .u64 (x.f.sig.b : Int))) (first | with_reducible exact HC.out _ (by first | with_reducible assumption | with_reducible exact Keeps.drew (by with_reducible assumption)) | go_keep) ((first
    | (go_at_call 163; (with_reducible refine (QD.out _ (by first | with_reducible assumption | with_reducible exact Keeps.drew (by with_reducible assumption))).mono ?_); rintro e wd ⟨rfl, hkd⟩)
    | (go_at_call 176; (with_reducible refine (QE.out _ (by first | with_reducible assumption | with_reducible exact Keeps.drew (by with_reducible assumption))).mono ?_); rintro e we ⟨rfl, hke⟩)
    | (go_at_call 165; (with_reducible refine (QF.out _ (by first | with_reducible assumption | with_reducible exact Keeps.drew (by with_reducible assumption))).mono ?_); rintro e wf ⟨rfl, hkf⟩)))
  all_goals
    go_wp2_with fail
    go_ret
    exact ⟨rfl, HK2.out.trans (by first | with_reducible assumption | with_reducible exact Keeps.drew (by with_reducible assumption)) (by simp)⟩
theorem rk_told {j : Nat} (h : Rig rk w0 w z y xb yb O S T M N) (e1 : M j = some (a, x)) (e2 : N j = some (b, x)) (hJ : RJ n x) (hk : Keeps [] w w') : Calls Tryz.prog 81 #[PT a, PT b] w' fun e w'' => e = .returned (.bool true) ∧ Keeps [] w w'' := by
  obtain ⟨_, wv, ha, _⟩ := (h.calm hk).m_of e1
  obtain ⟨_, _, hb⟩ := (h.calm hk).d_of e2
  exact (told11_yes ha hb hJ.ri).mono fun e w'' ⟨he, h2⟩ => ⟨he, hk.trans h2 (by simp)⟩
end
end Go.Proofs.YtdhgiohjdhcedaaGreat
