/- LookPlays: the law's bundle at its start; machines made anew; raw steps. -/
import Derived.Test.YtmlnedilbneekaaGreatLpC
import Derived.Test.YtmlnedilbneekaaGreatVcSm
import Derived.Deep.RegionHeld3
import Derived.Deep.QuietTactic
import Derived.BigQuiet
import Derived.Test.YtmlnedilbneekaaGreatSame12
namespace Go.Proofs.YtmlnedilbneekaaGreat
open Go.RowKit
set_option linter.unusedVariables false
namespace LP
open PR Ld
section
variable {w0 w w1 w' : World} {z : Sb} {y : Rb} {n gb k : Nat} {O : Option (Nat × Array Value)} {S S' T T' : Sp} {M N M' N' : ML} {A B A' B' : MD} {i j a b : Nat} {x x' : Lk} {v v' : Dm}
theorem rigA_at {z : Sb} {y : Rb} {M N : ML} {A B : MD} {j : Nat} (h : j < 2) : (rigA z y M N A B)[2 + j]? = some (pv (M j)) ∧ (rigA z y M N A B)[4 + j]? = some (pv (N j)) ∧ (rigA z y M N A B)[6 + j]? = some (pv (A j)) ∧ (rigA z y M N A B)[8 + j]? = some (pv (B j)) := by
  have : j = 0 ∨ j = 1 := by omega
  rcases this with rfl | rfl <;> exact ⟨rfl, rfl, rfl, rfl⟩
theorem Rg.cells (h : Rg w0 w z y n gb O S T M N A B) {j : Nat} (hj : j < 2) : w.cell? ⟨gb, 2 + j, none⟩ = some (pv (M j)) ∧ w.cell? ⟨gb, 4 + j, none⟩ = some (pv (N j)) ∧ w.cell? ⟨gb, 6 + j, none⟩ = some (pv (A j)) ∧ w.cell? ⟨gb, 8 + j, none⟩ = some (pv (B j)) := by
  have hr := h.rig
  obtain ⟨h1, h2, h3, h4⟩ := rigA_at (z := z) (y := y) (M := M) (N := N) (A := A) (B := B) hj
  exact ⟨(hr.cell _).trans h1, (hr.cell _).trans h2, (hr.cell _).trans h3, (hr.cell _).trans h4⟩
theorem Rg.x_of (h : Rg w0 w z y n gb O S T M N A B) (hm : M i = some (a, x)) : ∃ tv wv vv, LkAt w z a tv wv vv x := by
  obtain ⟨G, hs⟩ := h
  have hq := hs.at_ (.x i)
  rw [parts_x, hm] at hq
  obtain ⟨tv, wv, vv, h1, _⟩ := hq
  exact ⟨tv, wv, vv, h1⟩
theorem Rg.a_of (h : Rg w0 w z y n gb O S T M N A B) (hm : A i = some (a, v)) : ∃ lv dv, DmAt w z a lv dv v := by
  obtain ⟨G, hs⟩ := h
  have hq := hs.at_ (.a i)
  rw [parts_a, hm] at hq
  obtain ⟨lv, dv, h1, _⟩ := hq
  exact ⟨lv, dv, h1⟩
theorem Rg.dl_of (h : Rg w0 w z y n gb O S T M N A B) (hm : N i = some (a, x)) : ∃ vv, Ld.At w y n a x vv := by
  obtain ⟨G, hs⟩ := h
  have hq := hs.at_ (.d i)
  rw [parts_d] at hq
  obtain ⟨vv, AA, c, L, dv, hp⟩ := hq
  exact ⟨vv, (hp.lk _ _ hm).1⟩
theorem Rg.dd_of (h : Rg w0 w z y n gb O S T M N A B) (hm : B i = some (a, v)) : ∃ AA c L dv, DAt w y a v AA c L dv := by
  obtain ⟨G, hs⟩ := h
  have hq := hs.at_ (.d i)
  rw [parts_d] at hq
  obtain ⟨vv, AA, c, L, dv, hp⟩ := hq
  exact ⟨AA, c, L, dv, (hp.dm _ _ hm).1⟩
theorem same_held {wv wu : World} {v1 v2 : Value} {l : List Vc} (hl : l.length ≤ 1099511627776) (h1 : wv.ownsRow 0 113 4 v1 l.length (vcCells l)) (h2 : wu.ownsRow 0 113 4 v2 l.length (vcCells l)) (hk1 : Keeps [] wv w) (hk2 : Keeps [] wu w) : Calls Tryz.prog 54 #[v1, v2] w fun e w' => e = .returned (.bool true) ∧ Keeps [] wu w' :=
  (vc_same_yes w v1 v2 l l.length rfl hl (own_keeps h1 hk1 (by simp)) (own_keeps h2 hk2 (by simp))).mono fun e w' ⟨he, h⟩ => ⟨he, hk2.trans h (by simp)⟩
set_option maxRecDepth 100000 in
set_option maxHeartbeats 4000000 in
theorem told_yes (h : Rg w0 w z y n gb O S T M N A B) (hn : T.c.slots = (n : Int)) (hj : j < 2) (hp : Pair (Lk.Ok k) M N) (hq : Pair (fun v : Dm => v.doomed.length ≤ k) A B) (hk : k ≤ 1099511627776) :
    Calls Tryz.prog 9 #[PT gb, .int .i64 (j : Int)] w fun e w' => e = .returned (.bool true) ∧ Keeps [] w w' := by
  have HR := Lib.hid h
  have HN := Lib.hid hn
  have HP := Lib.hid hp
  have HQ := Lib.hid hq
  have HKK := Lib.hid hk
  have j0 : (0 : Int) ≤ (j : Int) := by omega
  have j1 : (j : Int) < 2 := by omega
  have HJ := Lib.hid hj
  clear h hn hp hq hk hj
  go_enter Tryz.func9, Tryz.ntmps9
  go_upto_region 1 with fail
  go_cut [48] (fun v wx => v = .bool false ∧ Keeps [] w wx)
  case first =>
    rcases HP.out j with ⟨e1, e2⟩ | ⟨a, b, x, e1, e2, hok⟩
    · have cx : w.cell? ⟨gb, 2 + j, none⟩ = some (.pointer none) := by have := (HR.out.cells HJ.out).1; rw [e1] at this; exact this
      go_quiet (fail)
      go_wp2_with fail
      go_meet
      exact ⟨rfl, (Keeps.refl [] w).drewN _⟩
    · have hv := hok.vs
      obtain ⟨tv, wv, v1, hx⟩ := HR.out.x_of e1
      obtain ⟨vv, hy⟩ := HR.out.dl_of e2
      obtain ⟨F, hrp⟩ := HR.out.rp
      have QA : Hid (∀ w', Keeps [] w w' → Calls Tryz.prog 31 #[PT a] w' fun e w'' => e = .returned (.bool x.turns.isEmpty) ∧ Keeps [] w w'') := fun w' hk => (lk_done (hx.keeps hk (by simp))).mono fun e w'' ⟨he, h2⟩ => ⟨he, h2 ▸ hk⟩
      have QB : Hid (∀ w', Keeps [] w w' → Calls Tryz.prog 53 #[PT b] w' fun e w'' => e = .returned (.bool x.turns.isEmpty) ∧ Keeps [] w w'') := fun w' hk => (Ld.done (hy.calm hk) (hrp.calm hk) HN.out).mono fun e w'' ⟨he, h2⟩ => ⟨he, hk.trans h2 (by simp)⟩
      have QV : Hid (∀ w', Keeps [] w w' → Calls Tryz.prog 33 #[PT a] w' fun e w'' => (∃ v2, e = .returned v2 ∧ ∀ w3, Keeps [] w'' w3 → Calls Tryz.prog 54 #[v2, vv] w3 fun e w4 => e = .returned (.bool true) ∧ Keeps [] w w4) ∧ Keeps [] w w'') := fun w' hk => (lk_victims (hx.keeps hk (by simp)) (by have := HKK.out; omega)).mono fun e w'' ⟨v2, he, h1, h2⟩ => ⟨⟨v2, he, fun w3 hk3 => same_held (by have := HKK.out; omega) (own_base h1 (by simp)) hy.own hk3 ((hk.trans h2 (by simp)).trans hk3 (by simp))⟩, hk.trans h2 (by simp)⟩
      have HC : Hid (∀ w', Keeps [] w w' → w'.cell? ⟨gb, 2 + j, none⟩ = some (PT a) ∧ w'.cell? ⟨gb, 4 + j, none⟩ = some (PT b) ∧ w'.cell? ⟨b, 14, none⟩ = some vv) := fun w' hk => by
        obtain ⟨c1, c2, _, _⟩ := (HR.out.calm hk).cells HJ.out
        rw [e1] at c1
        rw [e2] at c2
        obtain ⟨⟨own, at_, wn, p0, p1, _, hbb⟩, _⟩ := hy.calm hk
        exact ⟨c1, c2, (hbb.cell 14).trans rfl⟩
      have hkB : Keeps [] w w := Keeps.refl _ _
      clear hx hy hrp hv hok e1 e2
      go_region_held3 (fun w' => w'.cell? ⟨gb, 2 + j, none⟩ = some (PT a) ∧ w'.cell? ⟨gb, 4 + j, none⟩ = some (PT b) ∧ w'.cell? ⟨b, 14, none⟩ = some vv) (first | with_reducible exact HC.out _ (by first | with_reducible assumption | with_reducible exact Keeps.drew (by with_reducible assumption)) | go_keep) ((first
        | (go_at_call 31; (with_reducible refine (QA.out _ (by first | with_reducible assumption | with_reducible exact Keeps.drew (by with_reducible assumption))).mono ?_); rintro e wa ⟨rfl, hka⟩)
        | (go_at_call 53; (with_reducible refine (QB.out _ (by first | with_reducible assumption | with_reducible exact Keeps.drew (by with_reducible assumption))).mono ?_); rintro e wb ⟨rfl, hkb⟩)
        | (go_at_call 33; (with_reducible refine (QV.out _ (by first | with_reducible assumption | with_reducible exact Keeps.drew (by with_reducible assumption))).mono ?_); rintro e wv ⟨⟨v2, rfl, hSa⟩, hkv⟩; have HSA := Lib.hid hSa; clear hSa)
        | (go_at_call 54; (with_reducible refine (HSA.out _ (by first | with_reducible exact Keeps.refl _ _ | with_reducible exact Keeps.drew (Keeps.refl _ _) | with_reducible assumption | with_reducible exact Keeps.drew (by with_reducible assumption))).mono ?_); rintro e ws ⟨rfl, hks⟩)))
      all_goals
        go_wp2_with fail
        go_meet
        exact ⟨rfl, by first | with_reducible assumption | with_reducible exact Keeps.drew (by with_reducible assumption)⟩
  case rest =>
    obtain ⟨rfl, hkc⟩ := hcut
    have HKC := Lib.hid hkc
    have HR2 := Lib.hid (HR.out.calm hkc)
    clear hkc HR
    go_upto_region 3 with fail
    rcases HQ.out j with ⟨e1, e2⟩ | ⟨a, b, x, e1, e2, hok⟩
    · have cx : wc.cell? ⟨gb, 6 + j, none⟩ = some (.pointer none) := by have := (HR2.out.cells HJ.out).2.2.1; rw [e1] at this; exact this
      go_quiet (fail)
      go_wp2_with fail
      go_ret
      exact ⟨rfl, HKC.out.drewN _⟩
    · obtain ⟨lv, v1, hx⟩ := HR2.out.a_of e1
      obtain ⟨AA, c, L, dv, hy⟩ := HR2.out.dd_of e2
      have QA : Hid (∀ w', Keeps [] wc w' → Calls Tryz.prog 37 #[PT a] w' fun e w'' => e = .returned (.bool x.left.isEmpty) ∧ Keeps [] wc w'') := fun w' hk => (dm_done (hx.keeps hk (by simp))).mono fun e w'' ⟨he, h2⟩ => ⟨he, h2 ▸ hk⟩
      have QB : Hid (∀ w', Keeps [] wc w' → Calls Tryz.prog 55 #[PT b] w' fun e w'' => e = .returned (.bool x.left.isEmpty) ∧ Keeps [] wc w'') := fun w' hk => (ddone (hy.calm hk)).mono fun e w'' ⟨he, h2⟩ => ⟨he, hk.trans h2 (by simp)⟩
      have QV : Hid (∀ w', Keeps [] wc w' → Calls Tryz.prog 38 #[PT a] w' fun e w'' => (∃ v2, e = .returned v2 ∧ ∀ w3, Keeps [] w'' w3 → Calls Tryz.prog 54 #[v2, dv] w3 fun e w4 => e = .returned (.bool true) ∧ Keeps [] wc w4) ∧ Keeps [] wc w'') := fun w' hk => (dm_doomed (hx.keeps hk (by simp)) (by have := HKK.out; omega)).mono fun e w'' ⟨v2, he, h1, h2⟩ => ⟨⟨v2, he, fun w3 hk3 => same_held (by have := HKK.out; omega) (own_base h1 (by simp)) hy.own hk3 ((hk.trans h2 (by simp)).trans hk3 (by simp))⟩, hk.trans h2 (by simp)⟩
      have HC : Hid (∀ w', Keeps [] wc w' → w'.cell? ⟨gb, 6 + j, none⟩ = some (PT a) ∧ w'.cell? ⟨gb, 8 + j, none⟩ = some (PT b) ∧ w'.cell? ⟨b, 4, none⟩ = some dv) := fun w' hk => by
        obtain ⟨_, _, c1, c2⟩ := (HR2.out.calm hk).cells HJ.out
        rw [e1] at c1
        rw [e2] at c2
        obtain ⟨⟨at_, _, _, hbb⟩, _, _, _⟩ := hy.calm hk
        exact ⟨c1, c2, (hbb.cell 4).trans rfl⟩
      have hkB : Keeps [] wc wc := Keeps.refl _ _
      clear hx hy hok e1 e2
      go_region_held3 (fun w' => w'.cell? ⟨gb, 6 + j, none⟩ = some (PT a) ∧ w'.cell? ⟨gb, 8 + j, none⟩ = some (PT b) ∧ w'.cell? ⟨b, 4, none⟩ = some dv) (first | with_reducible exact HC.out _ (by first | with_reducible assumption | with_reducible exact Keeps.drew (by with_reducible assumption)) | go_keep) ((first
        | (go_at_call 37; (with_reducible refine (QA.out _ (by first | with_reducible assumption | with_reducible exact Keeps.drew (by with_reducible assumption))).mono ?_); rintro e wa ⟨rfl, hka⟩)
        | (go_at_call 55; (with_reducible refine (QB.out _ (by first | with_reducible assumption | with_reducible exact Keeps.drew (by with_reducible assumption))).mono ?_); rintro e wb ⟨rfl, hkb⟩)
        | (go_at_call 38; (with_reducible refine (QV.out _ (by first | with_reducible assumption | with_reducible exact Keeps.drew (by with_reducible assumption))).mono ?_); rintro e wv ⟨⟨v2, rfl, hSa⟩, hkv⟩; have HSA := Lib.hid hSa; clear hSa)
        | (go_at_call 54; (with_reducible refine (HSA.out _ (by first | with_reducible exact Keeps.refl _ _ | with_reducible exact Keeps.drew (Keeps.refl _ _) | with_reducible assumption | with_reducible exact Keeps.drew (by with_reducible assumption))).mono ?_); rintro e ws ⟨rfl, hks⟩)))
      all_goals
        go_wp2_with fail
        go_ret
        exact ⟨rfl, HKC.out.trans (by first | with_reducible assumption | with_reducible exact Keeps.drew (by with_reducible assumption)) (by simp)⟩
end
end LP
end Go.Proofs.YtmlnedilbneekaaGreat

namespace Go.Proofs.YtmlnedilbneekaaGreat
open Go.RowKit
set_option linter.unusedVariables false
namespace LP
open PR Ld
section
variable {w0 w w1 w2 w' : World} {z : Sb} {y : Rb} {n gb k : Nat} {O : Option (Nat × Array Value)} {S S' T T' : Sp} {M N M' N' : ML} {A B A' B' : MD} {i j a b : Nat} {x x' : Lk} {v v' : Dm} {gm : List Nat}
theorem Rg.done_cell (h : Rg w0 w z y n gb O S T M N A B) : w.cell? ⟨y.m, 2, none⟩ = some (.int .i64 T.met.done) := by
  obtain ⟨_, hr⟩ := h.rp
  obtain ⟨lb, v, hs, _⟩ := hr.ex
  obtain ⟨vx, hmx⟩ := hs.met
  exact (hmx.blk.cell 2).trans rfl
theorem Rg.done_call (h : Rg w0 w z y n gb O S T M N A B) : Calls Tryz.prog 19 #[PT z.m] w fun e w' => e = .returned (.int .i64 S.met.done) ∧ w = w' := by
  obtain ⟨_, hs⟩ := h.sp
  exact sp_done hs
theorem Rg.pc (h : Rg w0 w z y n gb O S T M N A B) : w.cell? ⟨gb, 0, none⟩ = some (PT z.p) ∧ w.cell? ⟨gb, 1, none⟩ = some (PT y.p) := ⟨(h.rig.cell 0).trans rfl, (h.rig.cell 1).trans rfl⟩
theorem raw_any (h : Rg w0 w z y n gb O S S M N A B) (hf : Fit k S) (hk : k ≤ 1099511627776) (kd m i n1 x q0 q1 : Int) (q2 : Value) : Calls Tryz.prog 52 #[PT z.p, PT y.p, .agg #[.int .i64 kd, .int .i64 m, .int .i64 i, .int .i64 n1, .int .i64 x, .int .u64 q0, .int .u64 q1, q2]] w fun e w' => e = .returned (.bool true) ∧ Rg w0 w' z y n gb O (S.raw kd i n1 x) (S.raw kd i n1 x) M N A B := by
  obtain ⟨G, hs⟩ := h
  exact (Raw12.any (two hs) hf hk kd m i n1 x q0 q1 q2).mono fun e w' ⟨he, hw⟩ => ⟨he, both hs hw⟩
theorem same_any (h : Rg w0 w z y n gb O S S M N A B) (hf : Fit k S) (hk : k ≤ 1099511627776) : Calls Tryz.prog 10 #[PT z.p, PT y.p] w fun e w' => e = .returned (.bool true) ∧ Keeps [] w w' := by
  obtain ⟨G, hs⟩ := h
  exact Same12.any (two hs) hf hk
theorem At_one {n m : Nat} {x x' : Lk} {vv vv' : Value} (h : Ld.At w y n b x vv) (h' : Ld.At w y m b x' vv') : vv = vv' := by
  obtain ⟨⟨own, at_, wn, p0, p1, _, h1⟩, _⟩ := h
  obtain ⟨⟨own', at_', wn', p0', p1', _, h2⟩, _⟩ := h'
  have e1 := h1.cell 14
  have e2 := h2.cell 14
  rw [e1] at e2
  exact Option.some.inj e2
/-- The bundle at its start. -/
theorem start {F G : List Nat} (hs : SP w0 w z F S) (hr : RP w0 w y G T) (hd : ∀ x, x ∈ F → x ∉ G) :
    Rg w0 (w.alloc (.cells (rigA z y (fun _ => none) (fun _ => none) (fun _ => none) (fun _ => none)) 43)) z y n w.heap.size none S T (fun _ => none) (fun _ => none) (fun _ => none) (fun _ => none) := by
  have k1 : Keeps [] w (w.alloc (.cells (rigA z y (fun _ => none) (fun _ => none) (fun _ => none) (fun _ => none)) 43)) := (Keeps.refl _ _).alloc _
  have bx := Blk.new w 43 (rigA z y (fun _ => none) (fun _ => none) (fun _ => none) (fun _ => none))
  have s2 := hs.calm k1
  have r2 := hr.calm k1
  have hb := hs.keep.size
  have hlF := hs.lt
  have hlG := hr.lt
  refine ⟨fun p => match p with
    | .s => F
    | .r => G
    | .g => [w.heap.size]
    | _ => [], fun p => ?_, parts_lies _ _ _ _ _ _ _ _ _ _ _ _, fun p => ?_, fun p q hpq => ?_, hs.keep.trans k1 (by simp)⟩
  · cases p with
    | s => exact s2
    | r => exact r2
    | g => exact ⟨rfl, bx⟩
    | o => exact rfl
    | x i => exact rfl
    | a i => exact rfl
    | d i => exact PD_none
  · cases p with
    | s => exact s2.apart
    | r => exact r2.apart
    | g => exact apart_blk bx hb (by decide)
    | o => exact Apart.nil
    | x i => exact Apart.nil
    | a i => exact Apart.nil
    | d i => exact Apart.nil
  · intro c h1 h2
    cases p <;> cases q <;> first | exact hpq rfl | skip
    all_goals
      simp only [List.mem_cons, List.not_mem_nil, or_false] at h1 h2
    all_goals first
      | exact hd c h1 h2
      | exact hd c h2 h1
      | (have := hlF c h1; omega)
      | (have := hlF c h2; omega)
      | (have := hlG c h1; omega)
      | (have := hlG c h2; omega)
/-- Looks of number j are made anew. -/
theorem renewL {p q : Option (Nat × Lk)} (h : Rg w0 w z y n gb O S T M N A B) (hk : Keeps [] w w1) (hp : Fresh w w1 (PX z) gm p) (hq : ∀ b x, q = some (b, x) → Ld.At w1 y n b x (.slice none 0 0) ∧ w.heap.size ≤ b ∧ b ∉ gm)
    (hk2 : Keeps [gb] w1 w2) (hb : Blk w2 gb 43 (rigA z y (upd' M j p) (upd' N j q) A B)) : Rg w0 w2 z y n gb O S T (upd' M j p) (upd' N j q) A B := by
  obtain ⟨G, hs⟩ := h
  have hgg := (hs.at_ .g).1
  have hgl : gb < w.heap.size := hs.lt .g gb (by rw [hgg]; simp)
  have hsz := hk.size
  have hsz2 := hk2.size
  have hbase := hs.keep.size
  have kk : Keeps [gb] w w2 := (hk.mono (T := [gb]) (by simp)).trans hk2 (fun u hu => .inl hu)
  have hgm := hp.low
  have hga : Apart w0 w [gb] := (hs.apart .g).sub (by rw [hgg]; simp)
  have hga1 : Apart w0 w1 [gb] := hga.keeps hk (by simp)
  obtain ⟨gd, hgd⟩ : ∃ gd : List Nat, (∀ b x, q = some (b, x) → gd = [b]) ∧ (q = none → gd = []) := by
    cases q with
    | none => exact ⟨[], by simp, by simp⟩
    | some u => exact ⟨[u.1], fun b x e => by injection e with e; rw [e], by simp⟩
  have hgdl : ∀ u, u ∈ gd → w.heap.size ≤ u ∧ u ∉ gm ∧ tyOf w2 u = some 135 := fun u hu => by
    cases hqc : q with
    | none => rw [hgd.2 hqc] at hu; simp at hu
    | some c =>
      rw [hgd.1 c.1 c.2 hqc] at hu
      simp at hu
      subst hu
      obtain ⟨h1, h2, h3⟩ := hq c.1 c.2 hqc
      exact ⟨h2, h3, (h1.keeps hk2 (by simp; omega) (fun u hu => by simp [Value.ownBlock] at hu)).ty⟩
  have hpx : parts w0 z y n gb O S T (upd' M j p) (upd' N j q) A B (.x j) w2 gm := by
    rw [parts_x, upd_at]
    cases p with
    | none => exact hp
    | some c => exact PX_lies (w0 := w0) z c.1 c.2 w1 w2 gm [gb] hp.1 hk2 (fun u hu hx => by simp at hx; have := hgm u hu; omega) hga1
  have hold := PD_lies y n (N j) (B j) w w2 (G (.d j)) [gb] (hs.at_ (.d j)) kk (fun u hu hx => by
    simp at hx
    exact hs.dif (.d j) .g (by simp) u hu (by rw [hgg, hx]; simp)) hga
  have hvs : ∀ b x, B j = some (b, x) → ∀ AA c L dv, Ld.DAt w2 y b x AA c L dv → True := fun _ _ _ _ _ _ _ _ => trivial
  have hpd : parts w0 z y n gb O S T (upd' M j p) (upd' N j q) A B (.d j) w2 (G (.d j) ++ gd) := by
    rw [parts_d, upd_at]
    obtain ⟨vv0, AA, c, L, dv, p1, p2, p3, p4⟩ := hs.at_ (.d j)
    obtain ⟨k1, k2, k3, k4, k5, k6, k7, k8, k9⟩ := hold
    have hlt0 : ∀ b x, B j = some (b, x) → 0 < L.length → ∀ u off, AA = some ⟨u, off, none⟩ → u < w.heap.size := fun b x e hL u off hA => (p2 b x e).1.lst.lt hL hA
    refine ⟨.slice none 0 0, AA, c, L, dv, fun b x e => ?_, fun b x e => ?_, fun b x e hL u off hA => ?_, fun b x b' x' e e' => ⟨by simp [vblk, Value.ownBlock], fun hL u off hA => ⟨?_, by simp [vblk, Value.ownBlock]⟩⟩⟩
    · obtain ⟨h1, h2, h3⟩ := hq b x e
      exact ⟨h1.keeps hk2 (by simp; omega) (fun u hu => by simp [Value.ownBlock] at hu), by rw [hgd.1 b x e]; simp, by simp [vblk, Value.ownBlock]⟩
    · obtain ⟨q1, q2, q3⟩ := p2 b x e
      refine ⟨q1.keeps kk (fun hx => ?_) (fun u hu hx => ?_) (fun hL u off hA hx => ?_), by simp [q2], fun u hu => by simp [q3 u hu]⟩
      · simp at hx; exact hs.dif (.d j) .g (by simp) b q2 (by rw [hgg, hx]; simp)
      · simp at hx; exact hs.dif (.d j) .g (by simp) u (q3 u hu) (by rw [hgg, hx]; simp)
      · simp at hx
        rcases (p3 b x e hL u off hA).1 with h5 | h5
        · have := hga.low gb (by simp); omega
        · exact hs.dif (.d j) .g (by simp) u h5 (by rw [hgg, hx]; simp)
    · obtain ⟨q1, q2, q3⟩ := p3 b x e hL u off hA
      exact ⟨q1.imp id (fun h => by simp [h]), q2, q3⟩
    · obtain ⟨h1, h2, h3⟩ := hq b x e
      have := hlt0 b' x' e' hL u off hA
      omega
  have am : Apart w0 w2 gm := ⟨fun u hu => by have := hgm u hu; omega, fun u hu => by
    cases p with
    | none => rw [show gm = [] from hp] at hu; simp at hu
    | some c =>
      rw [parts_x, upd_at] at hpx
      obtain ⟨tv, wv, vv, h6, h7⟩ := hpx
      rw [h7] at hu
      simp only [footL, List.mem_cons, List.mem_append] at hu
      rcases hu with rfl | hu | hu | hu
      · exact ⟨_, h6.blk.tyOf, by decide⟩
      · exact ⟨_, h6.turns.ty u hu, by decide⟩
      · exact ⟨_, own_in h6.words u hu, by decide⟩
      · exact ⟨_, own_in h6.vs u hu, by decide⟩⟩
  have ad : Apart w0 w2 (G (.d j) ++ gd) := ((hs.apart (.d j)).keeps kk (fun u hu hx => by simp at hx; exact hs.dif (.d j) .g (by simp) u hu (by rw [hgg, hx]; simp))).app ⟨fun u hu => by have := (hgdl u hu).1; omega, fun u hu => ⟨_, (hgdl u hu).2.2, by decide⟩⟩
  refine ⟨upd' (upd' G (.x j) gm) (.d j) (G (.d j) ++ gd), hs.step (fun u => u = .g ∨ u = .x j ∨ u = .d j) kk (fun u hu => ?_) (fun u hu => ?_) (fun u hu => ?_) (fun u c hu hc huc => ?_)⟩
  · simp at hu; subst hu; exact ⟨.g, .inl rfl, by rw [hgg]; simp⟩
  · refine ⟨?_, by rw [upd_off _ _ _ (fun e => hu (by simp [e])), upd_off _ _ _ (fun e => hu (by simp [e]))]⟩
    cases u with
    | x m =>
      have : m ≠ j := fun e => hu (by simp [e])
      simp only [parts_x]
      rw [upd_off _ _ _ this]
    | d m =>
      have : m ≠ j := fun e => hu (by simp [e])
      simp only [parts_d]
      rw [upd_off _ _ _ this]
    | g => exact absurd (.inl rfl) hu
    | _ => rfl
  · rcases hu with rfl | rfl | rfl
    · rw [upd_off _ _ _ (by simp), upd_off _ _ _ (by simp)]
      exact ⟨⟨hgg, hb⟩, parts_lies _ _ _ _ _ _ _ _ _ _ _ _ _, by rw [hgg]; exact apart_blk hb (hga.low gb (by simp)) (by decide), fun u hu => .inl ⟨.g, .inl rfl, hu⟩⟩
    · rw [upd_off _ _ _ (by simp), upd_at]
      exact ⟨hpx, parts_lies _ _ _ _ _ _ _ _ _ _ _ _ _, am, fun u hu => .inr (hgm u hu)⟩
    · rw [upd_at]
      exact ⟨hpd, parts_lies _ _ _ _ _ _ _ _ _ _ _ _ _, ad, fun u hu => by
        rw [List.mem_append] at hu
        rcases hu with hu | hu
        · exact .inl ⟨.d j, .inr (.inr rfl), hu⟩
        · exact .inr (hgdl u hu).1⟩
  · have eg : upd' (upd' G (.x j) gm) (.d j) (G (.d j) ++ gd) .g = G .g := by rw [upd_off _ _ _ (by simp), upd_off _ _ _ (by simp)]
    have ex : upd' (upd' G (.x j) gm) (.d j) (G (.d j) ++ gd) (.x j) = gm := by rw [upd_off _ _ _ (by simp), upd_at]
    have ed : upd' (upd' G (.x j) gm) (.d j) (G (.d j) ++ gd) (.d j) = G (.d j) ++ gd := by rw [upd_at]
    have hlg := hs.lt .g
    have hld := hs.lt (.d j)
    have d1 : ∀ u, u ∈ G .g → u ∉ gm := fun u hu hm => by have := hlg u hu; have := hgm u hm; omega
    have d2 : ∀ u, u ∈ G .g → u ∉ G (.d j) ++ gd := fun u hu hm => by
      rw [List.mem_append] at hm
      rcases hm with hm | hm
      · exact hs.dif .g (.d j) (by simp) u hu hm
      · have := hlg u hu; have := (hgdl u hm).1; omega
    have d3 : ∀ u, u ∈ gm → u ∉ G (.d j) ++ gd := fun u hu hm => by
      rw [List.mem_append] at hm
      rcases hm with hm | hm
      · have := hld u hm; have := hgm u hu; omega
      · exact (hgdl u hm).2.1 hu
    intro t ht hc'
    rcases hu with rfl | rfl | rfl <;> rcases hc with rfl | rfl | rfl <;> first | exact huc rfl | skip
    all_goals
      simp only [eg, ex, ed] at ht hc'
    · exact d1 t ht hc'
    · exact d2 t ht hc'
    · exact d1 t hc' ht
    · exact d3 t ht hc'
    · exact d2 t hc' ht
    · exact d3 t hc' ht
/-- Doomings of number j are made anew; the document's list is an argument's or its look's. -/
theorem renewD {p q : Option (Nat × Dm)} {AA : Option Addr} {c : Nat} {L : List Vc} (h : Rg w0 w z y n gb O S T M N A B) (hk : Keeps [] w w1) (hp : Fresh w w1 (PA z) gm p) (hq : ∀ b x, q = some (b, x) → Ld.DAt w1 y b x AA c L (.slice none 0 0) ∧ w.heap.size ≤ b ∧ b ∉ gm)
    (hL : 0 < L.length → ∀ u off, AA = some ⟨u, off, none⟩ → u < w0.heap.size ∨ ∃ b x vv, N j = some (b, x) ∧ Ld.At w y n b x vv ∧ u ∈ vblk vv ∧ off = 0 ∧ L = x.victims)
    (hk2 : Keeps [gb] w1 w2) (hb : Blk w2 gb 43 (rigA z y M N (upd' A j p) (upd' B j q))) : Rg w0 w2 z y n gb O S T M N (upd' A j p) (upd' B j q) := by
  obtain ⟨G, hs⟩ := h
  have hgg := (hs.at_ .g).1
  have hgl : gb < w.heap.size := hs.lt .g gb (by rw [hgg]; simp)
  have hsz := hk.size
  have hsz2 := hk2.size
  have hbase := hs.keep.size
  have kk : Keeps [gb] w w2 := (hk.mono (T := [gb]) (by simp)).trans hk2 (fun u hu => .inl hu)
  have hgm := hp.low
  have hga : Apart w0 w [gb] := (hs.apart .g).sub (by rw [hgg]; simp)
  have hga1 : Apart w0 w1 [gb] := hga.keeps hk (by simp)
  obtain ⟨gd, hgd⟩ : ∃ gd : List Nat, (∀ b x, q = some (b, x) → gd = [b]) ∧ (q = none → gd = []) := by
    cases q with
    | none => exact ⟨[], by simp, by simp⟩
    | some u => exact ⟨[u.1], fun b x e => by injection e with e; rw [e], by simp⟩
  have hpa : parts w0 z y n gb O S T M N (upd' A j p) (upd' B j q) (.a j) w2 gm := by
    rw [parts_a, upd_at]
    cases p with
    | none => exact hp
    | some c => exact PA_lies (w0 := w0) z c.1 c.2 w1 w2 gm [gb] hp.1 hk2 (fun u hu hx => by simp at hx; have := hgm u hu; omega) hga1
  have hofs : ∀ u, u ∈ G (.d j) → u ≠ gb := fun u hu hx => hs.dif (.d j) .g (by simp) u hu (by rw [hgg, hx]; simp)
  have hlow := (hs.apart (.d j)).low
  obtain ⟨vv, A0, c0, L0, dv0, p1, p2, p3, p4⟩ := hs.at_ (.d j)
  have hlist : 0 < L.length → ∀ u off, AA = some ⟨u, off, none⟩ → u < w.heap.size ∧ u ≠ gb ∧ (u < w0.heap.size ∨ u ∈ G (.d j)) ∧ ∀ b1 x1, N j = some (b1, x1) → u ≠ b1 ∧ (u ∈ vblk vv → off = 0 ∧ x1.victims = L) := fun h0 u off e => by
    rcases hL h0 u off e with h1 | ⟨b1, x1, v1, e1, e2, e3, e4, e5⟩
    · refine ⟨by omega, fun hx => ?_, .inl h1, fun b1 x1 e1 => ⟨fun hx => ?_, fun hu => ?_⟩⟩
      · have := hga.low gb (by simp); omega
      · have := hlow b1 (p1 b1 x1 e1).2.1; omega
      · have := hlow u ((p1 b1 x1 e1).2.2 u hu); omega
    · obtain ⟨q1, q2, q3⟩ := p1 b1 x1 e1
      have := At_one q1 e2
      subst this
      refine ⟨tyOf_lt (own_in e2.own u e3), hofs u (q3 u e3), .inr (q3 u e3), fun b2 x2 e6 => ?_⟩
      rw [e1] at e6
      injection e6 with e6
      injection e6 with e6 e7
      subst e6 e7
      exact ⟨ne_ty (own_in e2.own u e3) q1.ty (by decide), fun _ => ⟨e4, e5.symm⟩⟩
  have hq2 : ∀ b x, q = some (b, x) → Ld.DAt w2 y b x AA c L (.slice none 0 0) ∧ w.heap.size ≤ b ∧ b ∉ gm := fun b x e => by
    obtain ⟨h1, h2, h3⟩ := hq b x e
    exact ⟨h1.keeps hk2 (by simp; omega) (by simp [vblk, Value.ownBlock]) (fun h0 u off e hx => by simp at hx; exact (hlist h0 u off e).2.1 hx), h2, h3⟩
  have hgdl : ∀ u, u ∈ gd → w.heap.size ≤ u ∧ u ∉ gm ∧ tyOf w2 u = some 142 := fun u hu => by
    cases hqc : q with
    | none => rw [hgd.2 hqc] at hu; simp at hu
    | some c =>
      rw [hgd.1 c.1 c.2 hqc] at hu
      simp at hu
      subst hu
      obtain ⟨h1, h2, h3⟩ := hq2 c.1 c.2 hqc
      exact ⟨h2, h3, h1.ty⟩
  have hpd : parts w0 z y n gb O S T M N (upd' A j p) (upd' B j q) (.d j) w2 (G (.d j) ++ gd) := by
    rw [parts_d, upd_at]
    refine ⟨vv, AA, c, L, .slice none 0 0, fun b x e => ?_, fun b x e => ?_, fun b x e hL u off hA => ?_, fun b x b' x' e e' => ⟨by simp [vblk, Value.ownBlock], fun hL u off hA => ?_⟩⟩
    · obtain ⟨q1, q2, q3⟩ := p1 b x e
      exact ⟨q1.keeps kk (by simp; exact hofs b q2) (fun u hu hx => by simp at hx; exact hofs u (q3 u (by simp [vblk, hu])) hx), by simp [q2], fun u hu => by simp [q3 u hu]⟩
    · exact ⟨(hq2 b x e).1, by rw [hgd.1 b x e]; simp, by simp [vblk, Value.ownBlock]⟩
    · obtain ⟨r1, r2, r3, r4⟩ := hlist hL u off hA
      exact ⟨r3.imp id (fun h => by simp [h]), by simp [vblk, Value.ownBlock], by have := (hq b x e).2.1; omega⟩
    · obtain ⟨r1, r2, r3, r4⟩ := hlist hL u off hA
      obtain ⟨r5, r6⟩ := r4 b x e
      exact ⟨r5, fun hu => ⟨(r6 hu).1, [], by rw [List.append_nil]; exact (r6 hu).2⟩⟩
  have am : Apart w0 w2 gm := ⟨fun u hu => by have := hgm u hu; omega, fun u hu => by
    cases p with
    | none => rw [show gm = [] from hp] at hu; simp at hu
    | some c =>
      rw [parts_a, upd_at] at hpa
      obtain ⟨lv, dv, h6, h7⟩ := hpa
      rw [h7] at hu
      simp only [footD, List.mem_cons, List.mem_append] at hu
      rcases hu with rfl | hu | hu
      · exact ⟨_, h6.blk.tyOf, by decide⟩
      · exact ⟨_, h6.left.ty u hu, by decide⟩
      · exact ⟨_, own_in h6.doomed u hu, by decide⟩⟩
  have ad : Apart w0 w2 (G (.d j) ++ gd) := ((hs.apart (.d j)).keeps kk (fun u hu hx => by simp at hx; exact hofs u hu hx)).app ⟨fun u hu => by have := (hgdl u hu).1; omega, fun u hu => ⟨_, (hgdl u hu).2.2, by decide⟩⟩
  refine ⟨upd' (upd' G (.a j) gm) (.d j) (G (.d j) ++ gd), hs.step (fun u => u = .g ∨ u = .a j ∨ u = .d j) kk (fun u hu => ?_) (fun u hu => ?_) (fun u hu => ?_) (fun u c hu hc huc => ?_)⟩
  · simp at hu; subst hu; exact ⟨.g, .inl rfl, by rw [hgg]; simp⟩
  · refine ⟨?_, by rw [upd_off _ _ _ (fun e => hu (by simp [e])), upd_off _ _ _ (fun e => hu (by simp [e]))]⟩
    cases u with
    | a m =>
      have : m ≠ j := fun e => hu (by simp [e])
      simp only [parts_a]
      rw [upd_off _ _ _ this]
    | d m =>
      have : m ≠ j := fun e => hu (by simp [e])
      simp only [parts_d]
      rw [upd_off _ _ _ this]
    | g => exact absurd (.inl rfl) hu
    | _ => rfl
  · rcases hu with rfl | rfl | rfl
    · rw [upd_off _ _ _ (by simp), upd_off _ _ _ (by simp)]
      exact ⟨⟨hgg, hb⟩, parts_lies _ _ _ _ _ _ _ _ _ _ _ _ _, by rw [hgg]; exact apart_blk hb (hga.low gb (by simp)) (by decide), fun u hu => .inl ⟨.g, .inl rfl, hu⟩⟩
    · rw [upd_off _ _ _ (by simp), upd_at]
      exact ⟨hpa, parts_lies _ _ _ _ _ _ _ _ _ _ _ _ _, am, fun u hu => .inr (hgm u hu)⟩
    · rw [upd_at]
      exact ⟨hpd, parts_lies _ _ _ _ _ _ _ _ _ _ _ _ _, ad, fun u hu => by
        rw [List.mem_append] at hu
        rcases hu with hu | hu
        · exact .inl ⟨.d j, .inr (.inr rfl), hu⟩
        · exact .inr (hgdl u hu).1⟩
  · have eg : upd' (upd' G (.a j) gm) (.d j) (G (.d j) ++ gd) .g = G .g := by rw [upd_off _ _ _ (by simp), upd_off _ _ _ (by simp)]
    have ex : upd' (upd' G (.a j) gm) (.d j) (G (.d j) ++ gd) (.a j) = gm := by rw [upd_off _ _ _ (by simp), upd_at]
    have ed : upd' (upd' G (.a j) gm) (.d j) (G (.d j) ++ gd) (.d j) = G (.d j) ++ gd := by rw [upd_at]
    have hlg := hs.lt .g
    have hld := hs.lt (.d j)
    have d1 : ∀ u, u ∈ G .g → u ∉ gm := fun u hu hm => by have := hlg u hu; have := hgm u hm; omega
    have d2 : ∀ u, u ∈ G .g → u ∉ G (.d j) ++ gd := fun u hu hm => by
      rw [List.mem_append] at hm
      rcases hm with hm | hm
      · exact hs.dif .g (.d j) (by simp) u hu hm
      · have := hlg u hu; have := (hgdl u hm).1; omega
    have d3 : ∀ u, u ∈ gm → u ∉ G (.d j) ++ gd := fun u hu hm => by
      rw [List.mem_append] at hm
      rcases hm with hm | hm
      · have := hld u hm; have := hgm u hu; omega
      · exact (hgdl u hm).2.1 hu
    intro t ht hc'
    rcases hu with rfl | rfl | rfl <;> rcases hc with rfl | rfl | rfl <;> first | exact huc rfl | skip
    all_goals
      simp only [eg, ex, ed] at ht hc'
    · exact d1 t ht hc'
    · exact d2 t ht hc'
    · exact d1 t hc' ht
    · exact d3 t ht hc'
    · exact d2 t hc' ht
    · exact d3 t hc' ht
end
end LP
end Go.Proofs.YtmlnedilbneekaaGreat
