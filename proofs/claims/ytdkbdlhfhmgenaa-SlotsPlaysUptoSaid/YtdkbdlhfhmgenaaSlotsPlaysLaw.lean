/- SlotsPlays: two tables of one meter and the document: the call returns true wherever what it reads is of bulk at most 1048576. -/
import Derived.Test.YtdkbdlhfhmgenaaRows
import Derived.Test.YtdkbdlhfhmgenaaSlotsEnd
import Derived.Test.YtdkbdlhfhmgenaaMeters
import Derived.Test.YtdkbdlhfhmgenaaScript6
import Derived.Deep.RegionHeld3
import Derived.JoinedCond
import Derived.WalkKit
import Derived.ProofKit
import Derived.OpenShut
import Derived.ShutString
import Derived.ChangeOld
import Derived.Below
import Derived.Carry
namespace Go.Proofs.Ytdkbdlhfhmgenaa.slotsPlays
open Go.ChangeShapes Go.WideShapes Go.ChangeAt Go.RowKit
set_option linter.unusedVariables false


theorem log_held {wB w : World} (g lb : Nat) (s : MS) (hm : MetAt MT w (some g) lb s) (hl : s.log.length ≤ 2199023255552) (hk : Keeps [] wB w) :
    Calls Try.prog 16 #[.pointer (some ⟨g, 0, none⟩)] w fun e w' => ∃ A c, e = .returned (.slice A s.log.length c) ∧ LogSlc w' A s.log ∧ Keeps [] wB w' :=
  (log_some w g lb s hm hl).mono fun e w' ⟨v, he, h1, h2⟩ => by
    obtain ⟨A, c, hv, _, h3⟩ := LogSlc.of_own h1 hl
    exact ⟨A, c, by rw [he, hv], h3, hk.trans h2 (by simp)⟩
theorem same_held {wB w : World} (A B : Option Addr) (l : List Acc) (c d : Nat) (hA : LogSlc w A l) (hB : LogSlc w B l) (hk : Keeps [] wB w) :
    Calls Try.prog 21 #[.slice A l.length c, .slice B l.length d] w fun e w' => e = .returned (.bool true) ∧ Keeps [] wB w' :=
  (same_yes w A B l c d hA hB).mono fun e w' ⟨he, h2⟩ => ⟨he, hk.trans h2 (by simp)⟩
theorem done_held {wB w : World} (g lb : Nat) (s : MS) (hm : MetAt MT w (some g) lb s) (hk : Keeps [] wB w) :
    Calls Try.prog 20 #[.pointer (some ⟨g, 0, none⟩)] w fun e w' => e = .returned (.int .i64 s.done) ∧ Keeps [] wB w' :=
  (done_some w g lb s hm).mono fun e w' ⟨he, h2⟩ => ⟨he, h2 ▸ hk⟩
theorem new_some (w : World) (m n : Nat) (h1 : 1 ≤ n) (h2 : n ≤ 8) : Calls Try.prog 23 #[.pointer (some ⟨m, 0, none⟩), .int .i64 n] w fun e w' =>
    ∃ t, e = .returned (.tuple #[.pointer (some ⟨t.q, 0, none⟩), .int .i64 0]) ∧ TabAt w' t (some m) (List.replicate n Hd.zero) (List.replicate (n * 2) 0) ∧ Keeps [] w w' ∧ w.heap.size ≤ t.b ∧ w.heap.size ≤ t.c :=
  (slots_new w (some m) n h1 h2).mono fun e w' ⟨he, h3, h4⟩ => ⟨Tb.new w.heap.size, he, h3, h4, Nat.le_refl _, by simp [Tb.new]⟩
theorem rnew_ex (w : World) (x n : Nat) (h1 : 1 ≤ n) (h2 : n ≤ 8) : Calls Try.prog 32 #[.pointer (some ⟨x, 0, none⟩), .int .i64 n] w fun e w' =>
    ∃ z d, e = .returned (.tuple #[.pointer (some ⟨z, 0, none⟩), .int .i64 0]) ∧ RT w' z x d (List.replicate n Hd.zero) (List.replicate (n * 2) 0) ∧ Keeps [] w w' ∧ w.heap.size ≤ d :=
  (rt_new w x n h1 h2).mono fun e w' ⟨he, h3, h4, _⟩ => ⟨_, _, he, h3, h4, Nat.le_refl _⟩
/-- Now: a new row of slots, its own. -/
def NowS (w' : World) (a n c : Nat) (l : List Sl) : Prop := (∃ cs : List Value, w'.ownsRow 0 78 8 (.slice (some ⟨a, 0, none⟩) n c) n cs) ∧ RngS w' a l
theorem now_held {wB w : World} (t : Tb) (m : Nat) (H : List Hd) (W : List Int) (h : TabAt w t (some m) H W) (hk : Keeps [] wB w) :
    Calls Try.prog 31 #[.pointer (some ⟨t.q, 0, none⟩)] w fun e w' => ∃ a c, e = .returned (.slice (some ⟨a, 0, none⟩) H.length c) ∧ NowS w' a H.length c (slL H W) ∧ w.heap.size ≤ a ∧ Keeps [] wB w' :=
  (slots_now w t (some m) H W h).mono fun e w' ⟨v, he, hr⟩ => by
    have hlen := slL_len H W h.len
    have hn := h.n1
    have ho := hr.1
    rcases hr.1.2 with ⟨_, h0⟩ | ⟨a, cap, cur, rfl, hb, hg, h3, h4, _⟩
    · omega
    · rw [hlen] at he ho
      refine ⟨a, cap, he, ⟨⟨_, own_base ho (fun k _ => Nat.zero_le k)⟩, fun k y hy j v hv => ?_⟩, hb, hk.trans hr.2 (by simp)⟩
      have hk := (List.getElem?_eq_some_iff.1 hy).1
      have hj : j < 8 := (List.getElem?_eq_some_iff.1 hv).1
      exact (hr.1.cellAt (k * 8 + j) (by omega)).trans (sl_get (slL H W) k y hy j v hv)
theorem len_held {wB w : World} (t : Tb) (mp : Option Nat) (H : List Hd) (W : List Int) (h : TabAt w t mp H W) (hk : Keeps [] wB w) :
    Calls Try.prog 35 #[.pointer (some ⟨t.q, 0, none⟩)] w fun e w' => e = .returned (.int .i64 H.length) ∧ Keeps [] wB w' :=
  (slots_len w t mp H W h).mono fun e w' ⟨he, h2⟩ => ⟨he, h2 ▸ hk⟩
theorem len_is {wB w : World} (t : Tb) (mp : Option Nat) (H : List Hd) (W : List Int) (q : Nat) (hq : H.length = q) (h : TabAt w t mp H W) (hk : Keeps [] wB w) :
    Calls Try.prog 35 #[.pointer (some ⟨t.q, 0, none⟩)] w fun e w' => e = .returned (.int .i64 q) ∧ Keeps [] wB w' := hq ▸ len_held t mp H W h hk
theorem NowS.keeps {w w' : World} {a n c : Nat} {l : List Sl} (h : NowS w a n c l) {S : List Nat} (hk : Keeps S w w') (ha : a ∉ S) : NowS w' a n c l := by
  obtain ⟨⟨cs, ho⟩, hr⟩ := h
  exact ⟨⟨cs, own_keeps ho hk (fun q hq => by simp [Value.ownBlock] at hq; subst hq; exact ha)⟩, hr.keeps hk ha⟩
theorem NowS.lt {w : World} {a n c : Nat} {l : List Sl} (h : NowS w a n c l) : a < w.heap.size := by
  obtain ⟨⟨cs, ho⟩, _⟩ := h
  exact (ho.lt a rfl).2
theorem slot_row0 (w : World) (k : Nat) (hk : w.heap.size = k) : (w.alloc (.cells #[.int .i64 0, .int .i64 0, .int .i64 0, .int .i64 0, .bool false, .int .i64 0, .int .u64 0, .int .u64 0] 78)).ownsRow 0 78 8 (.slice (some ⟨k, 0, none⟩) 1 1) 1 [.int .i64 0, .int .i64 0, .int .i64 0, .int .i64 0, .bool false, .int .i64 0, .int .u64 0, .int .u64 0] := by
  subst hk
  exact ⟨rfl, .inr ⟨w.heap.size, 1, _, rfl, Nat.zero_le _, heap_alloc_new w _, Nat.le_refl _, by decide, rfl, rfl⟩⟩
theorem slot_ones0 : ∀ u ∈ [Value.int .i64 0, .int .i64 0, .int .i64 0, .int .i64 0, .bool false, .int .i64 0, .int .u64 0, .int .u64 0], u.oneCell' = true := by
  intro u hu
  simp only [List.mem_cons, List.not_mem_nil, or_false] at hu
  rcases hu with rfl | rfl | rfl | rfl | rfl | rfl | rfl | rfl <;> rfl
/-- Slots of the call's own, written over. -/
def OverS (wB : World) (a n c : Nat) (wr : World) : Prop := (∃ cs : List Value, wr.ownsRow 0 78 8 (.slice (some ⟨a, 0, none⟩) n c) n cs) ∧ Keeps [a] wB wr
theorem OverS.spot {wB wr : World} {a n c : Nat} (h : OverS wB a n c wr) {k : Nat} (hk : k < n) : (∃ u, wr.cell? ⟨a, k * 8, none⟩ = some u) ∧ wr.frozen? ⟨a, k * 8, none⟩ = false := by
  obtain ⟨⟨cs, ho⟩, _⟩ := h
  have hl : cs.length = n * 8 := ho.1
  refine ⟨?_, ho.frozenAt _⟩
  have hc := ho.cellAt (k * 8) (by omega)
  rw [List.getElem?_eq_getElem (by omega)] at hc
  exact ⟨_, hc⟩
theorem OverS.put {wB wr : World} {a n c : Nat} (h : OverS wB a n c wr) (k : Nat) (u : Value) : OverS wB a n c (wr.setCell ⟨a, k, none⟩ u) := by
  obtain ⟨⟨cs, ho⟩, hk⟩ := h
  exact ⟨⟨_, (ho.stored k u).1⟩, hk.setCell (.inl (by simp)) _⟩
theorem sames_held {wB w : World} (a a' c c' q : Nat) (l : List Sl) (hq : q = l.length) (hl : l.length ≤ 4096) (h1 : RngS w a l) (h2 : RngS w a' l) (hk : Keeps [] wB w) :
    Calls Try.prog 34 #[.slice (some ⟨a, 0, none⟩) q c, .slice (some ⟨a', 0, none⟩) q c'] w fun e w' => e = .returned (.bool true) ∧ Keeps [] wB w' := by
  subst hq
  exact (slots_same w a a' c c' l hl h1 h2).mono fun e w' ⟨he, h3⟩ => ⟨he, hk.trans h3 (by simp)⟩
set_option maxRecDepth 100000 in
set_option maxHeartbeats 8000000 in
theorem walk (a0 a1 : Int) (A : Option Addr) (n c : Nat) (ops : List Op6) (w : World) (hb0 : (Lit.int IntKind.i64 a0).wf = true) (hb1 : (Lit.int IntKind.i64 a1).wf = true) (hs : Script6 w A n c ops) :
    Calls Try.prog 9 #[.int .i64 a0, .int .i64 a1, .slice A n c] w fun e w' => e = .returned (.bool true) ∧ Below w.heap.size w w' := by
  have HSC := Lib.hid hs
  have hn := hs.2.2.1
  have hni : (n : Int) ≤ 1048576 := by omega
  clear hs
  go_enter Try.func9, Try.ntmps9
  go_wp2_with fail
  refine (awake6 _).mono ?_
  rintro e w1 ⟨rfl, hk1⟩
  have HK1 := Lib.hid hk1
  clear hk1
  go_wp2_with fail
  refine (newMeter w1).mono ?_
  rintro e w2 ⟨m, rfl, hm, hk2, hm2⟩
  have H2 := Lib.hid (And.intro hm (And.intro hk2 hm2))
  clear hm hk2 hm2
  go_wp2_with fail
  obtain ⟨w3, hw3⟩ : ∃ w3, w2.alloc (.cells #[.int .i64 0, .int .i64 0, .int .i64 0, .int .i64 0, .slice none 0 0] XT) = w3 := ⟨_, rfl⟩
  have X3 : Hid (MetAt XT w3 (some w2.heap.size) w2.heap.size MS.zero) := hw3 ▸ ⟨_, Blk.new _ _ _, World.ownsRow_nil _ _ _ _, .inl ⟨rfl, rfl⟩⟩
  have KW3 : Hid (Keeps [] w w3) := hw3 ▸ (HK1.out.trans H2.out.2.1 (by simp)).alloc _
  have M3 : Hid (MetAt MT w3 (some m) m MS.zero) := hw3 ▸ H2.out.1.keeps ((Keeps.refl [] w2).alloc _) (by simp)
  have Z3 : Hid (w.heap.size ≤ m ∧ m < w2.heap.size ∧ w2.heap.size < w3.heap.size) := by
    have h1 := HK1.out.size
    have h2 := H2.out.2.1.size
    have h3 := H2.out.2.2
    have h4 := foot_lt H2.out.1 (k := m) (by simp [foot])
    have h5 : w3.heap.size = w2.heap.size + 1 := by rw [← hw3]; simp
    unfold Hid
    omega
  rw [hw3]
  clear hw3 H2 HK1
  obtain ⟨x, hx⟩ : ∃ q, w2.heap.size = q := ⟨_, rfl⟩
  rw [hx] at X3 Z3
  rw [hx]
  clear hx
  by_cases h1 : 1 ≤ a0 ∧ a0 ≤ 8
  · obtain ⟨n1, rfl⟩ : ∃ n1 : Nat, a0 = n1 := ⟨a0.toNat, by omega⟩
    by_cases h2 : 1 ≤ a1 ∧ a1 ≤ 8
    · obtain ⟨n2, rfl⟩ : ∃ n2 : Nat, a1 = n2 := ⟨a1.toNat, by omega⟩
      refine (new_some w3 m n1 (by omega) (by omega)).mono ?_
      rintro e w4 ⟨t, rfl, ht, hkn, hlb, hlc⟩
      have Tt := Lib.hid ht
      have Lt := Lib.hid (And.intro hlb hlc)
      have Kw4 := Lib.hid hkn
      have KWw4 := Lib.hid (KW3.out.trans hkn (by simp))
      clear ht hkn hlb hlc
      go_wp2_with fail
      refine (new_some w4 m n2 (by omega) (by omega)).mono ?_
      rintro e w5 ⟨t2, rfl, ht, hkn, hlb, hlc⟩
      have Tt2 := Lib.hid ht
      have Lt2 := Lib.hid (And.intro hlb hlc)
      have Kw5 := Lib.hid hkn
      have KWw5 := Lib.hid (KWw4.out.trans hkn (by simp))
      clear ht hkn hlb hlc
      go_wp2_with fail
      refine (rnew_ex w5 x n1 (by omega) (by omega)).mono ?_
      rintro e w6 ⟨z, d, rfl, ht, hkn, hld⟩
      have Rz := Lib.hid ht
      have Lz := Lib.hid hld
      have Kw6 := Lib.hid hkn
      have KWw6 := Lib.hid (KWw5.out.trans hkn (by simp))
      clear ht hkn hld
      go_wp2_with fail
      refine (rnew_ex w6 x n2 (by omega) (by omega)).mono ?_
      rintro e w7 ⟨z2, d2, rfl, ht, hkn, hld⟩
      have Rz2 := Lib.hid ht
      have Lz2 := Lib.hid hld
      have Kw7 := Lib.hid hkn
      have KWw7 := Lib.hid (KWw6.out.trans hkn (by simp))
      clear ht hkn hld
      go_wp2_with fail
      have HINV : Hid (SInv w w7 m x t z d (List.replicate n1 Hd.zero) (List.replicate (n1 * 2) 0) t2 z2 d2 (List.replicate n2 Hd.zero) (List.replicate (n2 * 2) 0) 0) := by
        have k57 := (Kw6.out.trans Kw7.out (by simp))
        have k47 := Kw5.out.trans k57 (by simp)
        have k37 := Kw4.out.trans k47 (by simp)
        have l1 := Tt.out.lt
        have l2 := Tt2.out.lt
        have l3 := Rz.out.row.lt
        have s3 := Kw4.out.size
        have s4 := Kw5.out.size
        have s5 := Kw6.out.size
        have s6 := Kw7.out.size
        have q1 := Lt.out
        have q2 := Lt2.out
        have q3 := Lz.out
        have q4 := Lz2.out
        have q5 := Z3.out
        have q6 := KW3.out.size
        have gz : ∀ q : Nat, Gens 0 (List.replicate q Hd.zero) := fun q j y hy => by
          rw [List.getElem?_replicate] at hy
          split at hy
          · injection hy with hy; subst hy; exact ⟨by decide, by decide⟩
          · cases hy
        exact ⟨⟨m, x, MS.zero, ⟨⟨Tt.out.calm k47, Rz.out.keeps Kw7.out (by simp) (by simp), M3.out.keeps k37 (by simp), X3.out.keeps k37 (by simp), by omega⟩, ⟨Tt2.out.calm k57, Rz2.out, M3.out.keeps k37 (by simp), X3.out.keeps k37 (by simp), by omega⟩, by omega, by omega, by omega⟩, Nat.le_refl _, by omega, by omega⟩, by omega, KWw7.out, gz _, gz _⟩
      clear X3 M3 Z3 KW3 Tt Tt2 Rz Rz2 Lt Lt2 Lz Lz2 Kw4 Kw5 Kw6 Kw7 KWw4 KWw5 KWw6 KWw7
      go_loopw [18] (fun i wr => ∃ (k : Nat) (H : List Hd) (W : List Int) (H2 : List Hd) (W2 : List Int), k ≤ n ∧ i = .int .i64 k ∧ H.length = n1 ∧ H2.length = n2 ∧ SInv w wr m x t z d H W t2 z2 d2 H2 W2 k) (fun i _ => n - (intOf i).toNat)
      case atStart => exact ⟨0, _, _, _, _, Nat.zero_le _, rfl, by simp, by simp, HINV.out⟩
      case round =>
        obtain ⟨k, H, W, H2, W2, hk, rfl, hl1, hl2, hi⟩ := hrel
        have HC0 := Lib.hid hi
        clear hi
        by_cases hlt : k < n
        · obtain ⟨ab, off, p, rfl, hp, hcell⟩ := HSC.out.at_ hlt
          have hop := hcell wr (HC0.out.keep.below (by simp) (Nat.le_refl _))
          have c0 := hop.c0
          have c1 := hop.c1
          have c2 := hop.c2
          have c3 := hop.c3
          have c4 := hop.c4
          have c5 := hop.c5
          clear hop hcell hp
          have k0 : (0 : Int) ≤ (k : Int) := by omega
          have k1 : (k : Int) < (n : Int) := by omega
          obtain ⟨po, kd, sl, gn, pn, px⟩ := p
          simp only at c0 c1 c2 c3 c4 c5
          have HBK := Lib.hid (Keeps.alloc (Keeps.refl [] wr) (.cells #[.bool po, .int .i64 kd, .int .i64 sl, .int .i64 gn, .int .i64 pn, .int .u64 px] 58))
          have BB := Lib.hid (Blk.new wr 58 #[.bool po, .int .i64 kd, .int .i64 sl, .int .i64 gn, .int .i64 pn, .int .u64 px])
          have HC1 := Lib.hid (HC0.out.keeps HBK.out)
          by_cases e1 : kd = 1
          · subst e1
            go_wp2_with fail
            refine (HC0.out.begin HBK.out pn).mono ?_
            rintro e w8 ⟨rfl, S, hS, hkS, hcl⟩
            have bb := BB.out.keeps hkS (fun hx => by have := hS _ hx; omega)
            have x0 : w8.cell? ⟨wr.heap.size, 0, none⟩ = some (.bool po) := (bb.cell 0).trans rfl
            have x1 : w8.cell? ⟨wr.heap.size, 1, none⟩ = some (.int .i64 1) := (bb.cell 1).trans rfl
            have x2 : w8.cell? ⟨wr.heap.size, 2, none⟩ = some (.int .i64 sl) := (bb.cell 2).trans rfl
            have x3 : w8.cell? ⟨wr.heap.size, 3, none⟩ = some (.int .i64 gn) := (bb.cell 3).trans rfl
            have x4 : w8.cell? ⟨wr.heap.size, 4, none⟩ = some (.int .i64 pn) := (bb.cell 4).trans rfl
            have x5 : w8.cell? ⟨wr.heap.size, 5, none⟩ = some (.int .u64 px) := (bb.cell 5).trans rfl
            have B5 := Lib.hid bb
            have HCL := Lib.hid hcl
            clear hkS hcl bb
            go_wp2_with fail
            refine HCL.out.mono ?_
            rintro e w9 ⟨rfl, S2, hS2, hkS2, hg⟩
            have bb := B5.out.keeps hkS2 (fun hx => by have := hS2 _ hx; omega)
            have y0 : w9.cell? ⟨wr.heap.size, 0, none⟩ = some (.bool po) := (bb.cell 0).trans rfl
            have y1 : w9.cell? ⟨wr.heap.size, 1, none⟩ = some (.int .i64 1) := (bb.cell 1).trans rfl
            have y2 : w9.cell? ⟨wr.heap.size, 2, none⟩ = some (.int .i64 sl) := (bb.cell 2).trans rfl
            have y3 : w9.cell? ⟨wr.heap.size, 3, none⟩ = some (.int .i64 gn) := (bb.cell 3).trans rfl
            have y4 : w9.cell? ⟨wr.heap.size, 4, none⟩ = some (.int .i64 pn) := (bb.cell 4).trans rfl
            have y5 : w9.cell? ⟨wr.heap.size, 5, none⟩ = some (.int .u64 px) := (bb.cell 5).trans rfl
            have HG6 := Lib.hid hg
            clear hkS2 hg bb x0 x1 x2 x3 x4 x5 B5 HCL BB HC1 hS hS2
            obtain ⟨kd, hkd⟩ : ∃ kd : Int, kd = 1 := ⟨_, rfl⟩
            rw [← hkd] at y1
            clear hkd
            cases po
            · as_aux_lemma =>
                go_wp2_with fail
                refine ((HG6.out).does (by omega) false kd sl gn pn px).mono ?_
                rintro e wq ⟨rfl, H', W', hl', hq⟩
                have HQ := Lib.hid hq
                have HL := Lib.hid (And.intro (hl'.trans hl1) hl2)
                clear hq hl'
                obtain ⟨lb, lbx, s, hd, hsl, _, _⟩ := HQ.out.ex
                obtain ⟨vx, hmx⟩ := hd.one.mex
                have BX5 := Lib.hid hmx.blk
                have HD := Lib.hid hd
                have HC := Lib.hid (show ∀ w', Keeps [] wq w' → w'.cell? ⟨x, 2, none⟩ = some (.int .i64 s.done) from fun w' hk => ((BX5.out.keeps hk (by simp)).cell 2).trans rfl)
                have QD := Lib.hid (fun w (hk : Keeps [] wq w) => done_held (wB := wq) (w := w) m lb s (HD.out.keeps hk).one.met hk)
                have hkB : Keeps [] wq wq := Keeps.refl _ _
                clear hd hmx hsl
                go_wp2_with fail
                go_region_held3 (fun w' => w'.cell? ⟨x, 2, none⟩ = some (.int .i64 s.done)) (first | exact HC.out _ (by first | assumption | exact Keeps.drew (by assumption)) | go_keep) ((go_at_call 20; refine (QD.out _ (by first | assumption | exact Keeps.drew (by assumption))).mono ?_; rintro e wc ⟨rfl, hkc⟩))
                have HE := Lib.hid (HQ.out.keeps hkc)
                clear HC QD hkB BX5
                go_wp2_with fail
                exact ⟨⟨k + 1, _, _, _, _, by omega, by simp, HL.out.1, HL.out.2, HE.out⟩, by simp [intOf]; omega⟩
            · as_aux_lemma =>
                go_wp2_with fail
                refine ((HG6.out).symm.does (by omega) true kd sl gn pn px).mono ?_
                rintro e wq ⟨rfl, H', W', hl', hq⟩
                have HQ := Lib.hid hq.symm
                have HL := Lib.hid (And.intro hl1 (hl'.trans hl2))
                clear hq hl'
                obtain ⟨lb, lbx, s, hd, hsl, _, _⟩ := HQ.out.ex
                obtain ⟨vx, hmx⟩ := hd.one.mex
                have BX5 := Lib.hid hmx.blk
                have HD := Lib.hid hd
                have HC := Lib.hid (show ∀ w', Keeps [] wq w' → w'.cell? ⟨x, 2, none⟩ = some (.int .i64 s.done) from fun w' hk => ((BX5.out.keeps hk (by simp)).cell 2).trans rfl)
                have QD := Lib.hid (fun w (hk : Keeps [] wq w) => done_held (wB := wq) (w := w) m lb s (HD.out.keeps hk).one.met hk)
                have hkB : Keeps [] wq wq := Keeps.refl _ _
                clear hd hmx hsl
                go_wp2_with fail
                go_region_held3 (fun w' => w'.cell? ⟨x, 2, none⟩ = some (.int .i64 s.done)) (first | exact HC.out _ (by first | assumption | exact Keeps.drew (by assumption)) | go_keep) ((go_at_call 20; refine (QD.out _ (by first | assumption | exact Keeps.drew (by assumption))).mono ?_; rintro e wc ⟨rfl, hkc⟩))
                have HE := Lib.hid (HQ.out.keeps hkc)
                clear HC QD hkB BX5
                go_wp2_with fail
                exact ⟨⟨k + 1, _, _, _, _, by omega, by simp, HL.out.1, HL.out.2, HE.out⟩, by simp [intOf]; omega⟩
          have n1' : (kd == 1) = false := by simpa using e1
          cases po
          · as_aux_lemma =>
              go_wp2_with fail
              refine ((HC1.out).does (by omega) false kd sl gn pn px).mono ?_
              rintro e wq ⟨rfl, H', W', hl', hq⟩
              have HQ := Lib.hid hq
              have HL := Lib.hid (And.intro (hl'.trans hl1) hl2)
              clear hq hl'
              obtain ⟨lb, lbx, s, hd, hsl, _, _⟩ := HQ.out.ex
              obtain ⟨vx, hmx⟩ := hd.one.mex
              have BX5 := Lib.hid hmx.blk
              have HD := Lib.hid hd
              have HC := Lib.hid (show ∀ w', Keeps [] wq w' → w'.cell? ⟨x, 2, none⟩ = some (.int .i64 s.done) from fun w' hk => ((BX5.out.keeps hk (by simp)).cell 2).trans rfl)
              have QD := Lib.hid (fun w (hk : Keeps [] wq w) => done_held (wB := wq) (w := w) m lb s (HD.out.keeps hk).one.met hk)
              have hkB : Keeps [] wq wq := Keeps.refl _ _
              clear hd hmx hsl
              go_wp2_with fail
              go_region_held3 (fun w' => w'.cell? ⟨x, 2, none⟩ = some (.int .i64 s.done)) (first | exact HC.out _ (by first | assumption | exact Keeps.drew (by assumption)) | go_keep) ((go_at_call 20; refine (QD.out _ (by first | assumption | exact Keeps.drew (by assumption))).mono ?_; rintro e wc ⟨rfl, hkc⟩))
              have HE := Lib.hid (HQ.out.keeps hkc)
              clear HC QD hkB BX5
              go_wp2_with fail
              exact ⟨⟨k + 1, _, _, _, _, by omega, by simp, HL.out.1, HL.out.2, HE.out⟩, by simp [intOf]; omega⟩
          · as_aux_lemma =>
              go_wp2_with fail
              refine ((HC1.out).symm.does (by omega) true kd sl gn pn px).mono ?_
              rintro e wq ⟨rfl, H', W', hl', hq⟩
              have HQ := Lib.hid hq.symm
              have HL := Lib.hid (And.intro hl1 (hl'.trans hl2))
              clear hq hl'
              obtain ⟨lb, lbx, s, hd, hsl, _, _⟩ := HQ.out.ex
              obtain ⟨vx, hmx⟩ := hd.one.mex
              have BX5 := Lib.hid hmx.blk
              have HD := Lib.hid hd
              have HC := Lib.hid (show ∀ w', Keeps [] wq w' → w'.cell? ⟨x, 2, none⟩ = some (.int .i64 s.done) from fun w' hk => ((BX5.out.keeps hk (by simp)).cell 2).trans rfl)
              have QD := Lib.hid (fun w (hk : Keeps [] wq w) => done_held (wB := wq) (w := w) m lb s (HD.out.keeps hk).one.met hk)
              have hkB : Keeps [] wq wq := Keeps.refl _ _
              clear hd hmx hsl
              go_wp2_with fail
              go_region_held3 (fun w' => w'.cell? ⟨x, 2, none⟩ = some (.int .i64 s.done)) (first | exact HC.out _ (by first | assumption | exact Keeps.drew (by assumption)) | go_keep) ((go_at_call 20; refine (QD.out _ (by first | assumption | exact Keeps.drew (by assumption))).mono ?_; rintro e wc ⟨rfl, hkc⟩))
              have HE := Lib.hid (HQ.out.keeps hkc)
              clear HC QD hkB BX5
              go_wp2_with fail
              exact ⟨⟨k + 1, _, _, _, _, by omega, by simp, HL.out.1, HL.out.2, HE.out⟩, by simp [intOf]; omega⟩
        · skip
          have hge : ¬ ((k : Int) < (n : Int)) := by omega
          obtain ⟨lb, lbx, s, hd, hsl, _, _⟩ := HC0.out.ex
          have hsl2 : s.log.length ≤ 2199023255552 := by omega
          have HSL := Lib.hid hsl2
          have h8a := hd.one.tab.n8
          have h8b := hd.two.tab.n8
          obtain ⟨vx, hmx⟩ := hd.one.mex
          obtain ⟨Ax, cx, rfl, _, lx⟩ := LogSlc.of_own hmx.own hsl2
          have LX := Lib.hid lx
          have BX5 := Lib.hid hmx.blk
          have HD := Lib.hid hd
          have HKP := Lib.hid HC0.out.keep
          have le1 : Hid (H.length = (slL H W).length) := (slL_len H W hd.one.tab.len).symm
          have le2 : Hid (H2.length = (slL H2 W2).length) := (slL_len H2 W2 hd.two.tab.len).symm
          have HL12 := Lib.hid (And.intro hl1 hl2)
          clear hd hmx lx hsl hsl2 hl1 hl2
          go_wp2_with fail
          refine (now_held (wB := wr) t m H W HD.out.one.tab (Keeps.refl _ _)).mono ?_
          rintro e wa ⟨al, cl, rfl, hNl, hal, hka⟩
          have NL := Lib.hid hNl
          have KA := Lib.hid hka
          have AL := Lib.hid hal
          clear hNl hka hal
          go_wp2_with fail
          refine (now_held (wB := wa) t m H W (HD.out.keeps KA.out).one.tab (Keeps.refl _ _)).mono ?_
          rintro e wb ⟨ak, ck, rfl, hNk, hak, hkb⟩
          have NK := Lib.hid hNk
          have KB := Lib.hid (KA.out.trans hkb (by simp))
          have NLb := Lib.hid (NL.out.keeps hkb (by simp))
          have hne : Hid (ak ≠ al) := by have := NL.out.lt; unfold Hid; omega
          have DB := Lib.hid (HD.out.keeps KB.out)
          clear hNk hkb hak
          have HC := Lib.hid (show ∀ w', Keeps [] wb w' → w'.cell? ⟨z, 1, none⟩ = some (.slice (some ⟨d, 0, none⟩) H.length H.length) ∧ w'.cell? ⟨z2, 1, none⟩ = some (.slice (some ⟨d2, 0, none⟩) H2.length H2.length) from fun w' hk => ⟨((DB.out.keeps hk).one.ref.blk.cell 1).trans rfl, ((DB.out.keeps hk).two.ref.blk.cell 1).trans rfl⟩)
          have QS1 := Lib.hid (fun w (hk : Keeps [] wb w) => sames_held (wB := wb) (w := w) al d cl H.length H.length (slL H W) le1.out (by have := le1.out; omega) (NLb.out.2.keeps hk (by simp)) (DB.out.keeps hk).one.ref.rng hk)
          have QN2 := Lib.hid (fun w (hk : Keeps [] wb w) => now_held (wB := wb) (w := w) t2 m H2 W2 (DB.out.keeps hk).two.tab hk)
          have QS2 := Lib.hid (fun w a c (hk : Keeps [] wb w) (h : NowS w a H2.length c (slL H2 W2)) => sames_held (wB := wb) (w := w) a d2 c H2.length H2.length (slL H2 W2) le2.out (by have := le2.out; omega) h.2 (DB.out.keeps hk).two.ref.rng hk)
          have QL1 := Lib.hid (fun w (hk : Keeps [] wb w) => len_is (wB := wb) (w := w) t (some m) H W n1 HL12.out.1 (DB.out.keeps hk).one.tab hk)
          have QL2 := Lib.hid (fun w (hk : Keeps [] wb w) => len_is (wB := wb) (w := w) t2 (some m) H2 W2 n2 HL12.out.2 (DB.out.keeps hk).two.tab hk)
          have hkB : Keeps [] wb wb := Keeps.refl _ _
          go_wp2_with fail
          go_region_held3 (fun w' => w'.cell? ⟨z, 1, none⟩ = some (.slice (some ⟨d, 0, none⟩) H.length H.length) ∧ w'.cell? ⟨z2, 1, none⟩ = some (.slice (some ⟨d2, 0, none⟩) H2.length H2.length)) (first | exact HC.out _ (by first | assumption | exact Keeps.drew (by assumption)) | go_keep) ((first
            | (go_at_call_of 34 (Value.slice (some ⟨al, 0, none⟩) H.length cl); refine (QS1.out _ (by first | assumption | exact Keeps.drew (by assumption))).mono ?_; rintro e wc ⟨rfl, hkc⟩)
            | (go_at_call 31; refine (QN2.out _ (by first | assumption | exact Keeps.drew (by assumption))).mono ?_; rintro e wc ⟨a5, c5, rfl, hN5, ha5, hkc⟩)
            | (go_at_call 34; refine (QS2.out _ _ _ (by first | assumption | exact Keeps.drew (by assumption)) (by assumption)).mono ?_; rintro e wc ⟨rfl, hkc⟩)
            | (go_at_call_of 35 (Value.pointer (some ⟨t.q, 0, none⟩)); refine (QL1.out _ (by first | assumption | exact Keeps.drew (by assumption))).mono ?_; rintro e wc ⟨rfl, hkc⟩)
            | (go_at_call_of 35 (Value.pointer (some ⟨t2.q, 0, none⟩)); refine (QL2.out _ (by first | assumption | exact Keeps.drew (by assumption))).mono ?_; rintro e wc ⟨rfl, hkc⟩)))
          have KC := Lib.hid (KB.out.trans hkc (by simp))
          have O1c := Lib.hid (NLb.out.keeps hkc (by simp))
          have O2c := Lib.hid (NK.out.keeps hkc (by simp))
          clear HC QS1 QN2 QS2 QL1 QL2
          go_wp2_with fail
          obtain ⟨j0', hi, hz0, hz1, hz2⟩ := info_parts Try.infoSlot
          go_loopw [24] (fun i wv => ∃ j : Nat, j ≤ H.length ∧ i = .int .i64 j ∧ OverS wc al H.length cl wv) (fun i _ => H.length - (intOf i).toNat)
          case atStart => exact ⟨0, Nat.zero_le _, rfl, O1c.out.1, Keeps.refl _ _⟩
          case round =>
            obtain ⟨j, hj, rfl, hov⟩ := hrel
            have HV := Lib.hid hov
            clear hov
            by_cases hlt2 : (j : Int) < (H.length : Int)
            · have q0 : (0 : Int) ≤ (j : Int) := by omega
              have q8 : (H.length : Int) ≤ 8 := by omega
              obtain ⟨⟨u0, e0⟩, f0⟩ := HV.out.spot (k := j) (by omega)
              as_aux_lemma =>
                go_wp2_with fail
                exact ⟨⟨j + 1, by omega, by simp, HV.out.put (j * 8) (.int .i64 (-1))⟩, by simp [intOf]; omega⟩
            · obtain ⟨⟨cs, ho⟩, kv⟩ := HV.out
              have HO1 := Lib.hid ho
              have KV := Lib.hid kv
              have m1 : Hid (H.length + 1 ≤ maxLen) := by unfold Hid maxLen; omega
              have m2 : Hid ((H.length + 1) * 64 ≤ 140737488355328) := by unfold Hid; omega
              clear ho kv HV
              go_wp2_with (at_builtin; refine wpList_append_row rfl (.tmp 181) (.tmp 183) 75 rfl 78 j0' _ 8 64 Try.underlying75 hi hz0 hz1 hz2 rfl (by decide) _ H.length cs rfl (own_keeps HO1.out ((Keeps.refl [] _).alloc _) (by simp)) _ 1 [.int .i64 0, .int .i64 0, .int .i64 0, .int .i64 0, .bool false, .int .i64 0, .int .u64 0, .int .u64 0] rfl (slot_row0 _ _ rfl) slot_ones0 m1.out m2.out ?_; intro v14 w14 hown1 hg1 hat1)
              have K14 := Lib.hid ((KV.out.alloc _).grown hg1 (fun q hq => .inl (by have h : some al = some q := hq; injection h with h; rw [← h]; simp)))
              have KF := Lib.hid (KC.out.trans K14.out (fun y hy => .inr (by have := AL.out; simp at hy; omega)))
              have D14 := Lib.hid (HD.out.keeps KF.out)
              have O2d := Lib.hid (O2c.out.keeps K14.out (by have := hne.out; simpa using this))
              clear hown1 hg1 hat1
              have HC := Lib.hid (show ∀ w', Keeps [] w14 w' → w'.cell? ⟨z, 1, none⟩ = some (.slice (some ⟨d, 0, none⟩) H.length H.length) ∧ w'.cell? ⟨x, 4, none⟩ = some (.slice Ax s.log.length cx) from fun w' hk => ⟨((D14.out.keeps hk).one.ref.blk.cell 1).trans rfl, ((BX5.out.keeps (KF.out.trans hk (by simp)) (by simp)).cell 4).trans rfl⟩)
              have QS1 := Lib.hid (fun w (hk : Keeps [] w14 w) => sames_held (wB := w14) (w := w) ak d ck H.length H.length (slL H W) le1.out (by have := le1.out; omega) (O2d.out.2.keeps hk (by simp)) (D14.out.keeps hk).one.ref.rng hk)
              have QN2 := Lib.hid (fun w (hk : Keeps [] w14 w) => now_held (wB := w14) (w := w) t m H W (D14.out.keeps hk).one.tab hk)
              have QS2 := Lib.hid (fun w a c (hk : Keeps [] w14 w) (h : NowS w a H.length c (slL H W)) => sames_held (wB := w14) (w := w) a d c H.length H.length (slL H W) le1.out (by have := le1.out; omega) h.2 (D14.out.keeps hk).one.ref.rng hk)
              have QL := Lib.hid (fun w (hk : Keeps [] w14 w) => log_held (wB := w14) (w := w) m lb s (D14.out.keeps hk).one.met HSL.out hk)
              have QT := Lib.hid (fun w A c (hk : Keeps [] w14 w) (h : LogSlc w A s.log) => same_held (wB := w14) (w := w) A Ax s.log c cx h (LX.out.keeps (KF.out.trans hk (by simp))) hk)
              have hkB : Keeps [] w14 w14 := Keeps.refl _ _
              go_wp2_with fail
              go_region_held3 (fun w' => w'.cell? ⟨z, 1, none⟩ = some (.slice (some ⟨d, 0, none⟩) H.length H.length) ∧ w'.cell? ⟨x, 4, none⟩ = some (.slice Ax s.log.length cx)) (first | exact HC.out _ (by first | assumption | exact Keeps.drew (by assumption)) | go_keep) ((first
                | (go_at_call_of 34 (Value.slice (some ⟨ak, 0, none⟩) H.length ck); refine (QS1.out _ (by first | assumption | exact Keeps.drew (by assumption))).mono ?_; rintro e wd ⟨rfl, hkd⟩)
                | (go_at_call 31; refine (QN2.out _ (by first | assumption | exact Keeps.drew (by assumption))).mono ?_; rintro e wd ⟨a6, c6, rfl, hN6, ha6, hkd⟩)
                | (go_at_call 34; refine (QS2.out _ _ _ (by first | assumption | exact Keeps.drew (by assumption)) (by assumption)).mono ?_; rintro e wd ⟨rfl, hkd⟩)
                | (go_at_call 16; refine (QL.out _ (by first | assumption | exact Keeps.drew (by assumption))).mono ?_; rintro e wd ⟨A7, c7, rfl, hS7, hkd⟩)
                | (go_at_call 21; refine (QT.out _ _ _ (by first | assumption | exact Keeps.drew (by assumption)) (by assumption)).mono ?_; rintro e wd ⟨rfl, hkd⟩)))
              go_wp2_with fail
              go_ret
              exact ⟨rfl, (HKP.out.trans (KF.out.trans hkd (by simp)) (by simp)).below (by simp) (Nat.le_refl _)⟩
    · as_aux_lemma =>
        refine (new_some w3 m n1 (by omega) (by omega)).mono ?_
        rintro e w4 ⟨t, rfl, ht, hkn, hlb, hlc⟩
        have Tt := Lib.hid ht
        have Lt := Lib.hid (And.intro hlb hlc)
        have Kw4 := Lib.hid hkn
        have KWw4 := Lib.hid (KW3.out.trans hkn (by simp))
        clear ht hkn hlb hlc
        go_wp2_with fail
        refine (slots_new_bad w4 (some m) a1 (by omega)).mono ?_
        rintro e w5 ⟨rfl, rfl⟩
        go_wp2_with fail
        refine (rnew_ex w4 x n1 (by omega) (by omega)).mono ?_
        rintro e w6 ⟨z, d, rfl, ht, hkn, hld⟩
        have Rz := Lib.hid ht
        have Lz := Lib.hid hld
        have Kw6 := Lib.hid hkn
        have KWw6 := Lib.hid (KWw4.out.trans hkn (by simp))
        clear ht hkn hld
        go_wp2_with fail
        refine (rt_new_bad w6 x a1 (by omega)).mono ?_
        rintro e w7 ⟨rfl, rfl⟩
        go_wp2_with fail
        go_ret
        exact ⟨rfl, KWw6.out.below (by simp) (Nat.le_refl _)⟩
  · by_cases h2 : 1 ≤ a1 ∧ a1 ≤ 8
    · obtain ⟨n2, rfl⟩ : ∃ n2 : Nat, a1 = n2 := ⟨a1.toNat, by omega⟩
      as_aux_lemma =>
        refine (slots_new_bad w3 (some m) a0 (by omega)).mono ?_
        rintro e w4 ⟨rfl, rfl⟩
        go_wp2_with fail
        refine (new_some w3 m n2 (by omega) (by omega)).mono ?_
        rintro e w5 ⟨t2, rfl, ht, hkn, hlb, hlc⟩
        have Tt2 := Lib.hid ht
        have Lt2 := Lib.hid (And.intro hlb hlc)
        have Kw5 := Lib.hid hkn
        have KWw5 := Lib.hid (KW3.out.trans hkn (by simp))
        clear ht hkn hlb hlc
        go_wp2_with fail
        refine (rt_new_bad w5 x a0 (by omega)).mono ?_
        rintro e w6 ⟨rfl, rfl⟩
        go_wp2_with fail
        refine (rnew_ex w5 x n2 (by omega) (by omega)).mono ?_
        rintro e w7 ⟨z2, d2, rfl, ht, hkn, hld⟩
        have Rz2 := Lib.hid ht
        have Lz2 := Lib.hid hld
        have Kw7 := Lib.hid hkn
        have KWw7 := Lib.hid (KWw5.out.trans hkn (by simp))
        clear ht hkn hld
        go_wp2_with fail
        go_ret
        exact ⟨rfl, KWw7.out.below (by simp) (Nat.le_refl _)⟩
    · as_aux_lemma =>
        refine (slots_new_bad w3 (some m) a0 (by omega)).mono ?_
        rintro e w4 ⟨rfl, rfl⟩
        go_wp2_with fail
        refine (slots_new_bad w3 (some m) a1 (by omega)).mono ?_
        rintro e w5 ⟨rfl, rfl⟩
        go_wp2_with fail
        refine (rt_new_bad w3 x a0 (by omega)).mono ?_
        rintro e w6 ⟨rfl, rfl⟩
        go_wp2_with fail
        refine (rt_new_bad w3 x a1 (by omega)).mono ?_
        rintro e w7 ⟨rfl, rfl⟩
        go_wp2_with fail
        go_ret
        exact ⟨rfl, KW3.out.below (by simp) (Nat.le_refl _)⟩

theorem own : ownKnob Try.prog.godebug = none := by kernel_rfl
theorem laidOut : laidOutB Try.prog = true := by kernel_rfl
set_option maxRecDepth 100000 in
theorem lifted (os : Os) (started : os.Started) (H : Type) (enc : TypeId × Value → H) (F : Stop.Interp) :
    ReturnsInHanded {} Try.checked os 9 .any ((Rows.OpenSpec.upto Rows.slotsPlaysSpec).pre6 enc Try.prog Try.f9 Rows.slotsPlaysUptoRow.domain false) (((Rows.OpenSpec.upto Rows.slotsPlaysSpec).at F).post enc Try.prog Try.f9 false true false false) := by
  refine returnsInHanded_of_cond (C := Try.checked) (s := Rows.OpenSpec.upto Rows.slotsPlaysSpec) (k := Rows.uptoSmall) rfl own started (by kernel_rfl) Try.func9
    (OpenSpec.witness (enc := enc) (C := Try.checked) (s := Rows.OpenSpec.upto Rows.slotsPlaysSpec) (k := Rows.uptoSmall) rfl false ⟨#[], #[.int .i64 0, .int .i64 0, .slice none 0 0], []⟩ 8 (by kernel_rfl) (by kernel_rfl) (by kernel_rfl)
      (x := ([.lit (.int .i64 0), .lit (.int .i64 0), .nil], [], [])) (by kernel_rfl) rfl (by kernel_rfl)) ?_
  intro W base args ds gs before hval0 hW _ hk _
  have hval : ∀ (j : Nat) t v, Try.f9.params[j]? = some t → args[j]? = some v → Value.okWide Try.prog W .any base t v := hval0
  have hW' := hW
  obtain ⟨p, q, hA0, hV, rfl, hfz, hnd⟩ := hW
  have hA : DataW.TrodAll enc Try.prog W 0 (fun _ => true) true Try.f9.params.toList args.toList ds p := hA0
  rw [Try.params9] at hA hval
  obtain ⟨v0, vs0, d0, ds0, p0, q0, hargs, rfl, rfl, h0, r0⟩ := trodAll_cons hA
  obtain ⟨v1, vs1, d1, ds1, p1, q1, rfl, rfl, rfl, h1, r1⟩ := trodAll_cons r0
  obtain ⟨v2, vs2, d2, ds2, p2, q2, rfl, rfl, rfl, h2, r2⟩ := trodAll_cons r1
  obtain ⟨rfl, rfl, rfl⟩ := trodAll_nil r2
  obtain rfl : args = #[v0, v1, v2] := by cases args; simp_all
  obtain ⟨rfl, rfl⟩ := trodVars_none hV
  obtain ⟨a0, rfl, rfl, rfl, w0⟩ := open_int Try.underlying3 (hval 0 3 v0 rfl rfl) h0
  obtain ⟨a1, rfl, rfl, rfl, w1⟩ := open_int Try.underlying3 (hval 1 3 v1 rfl rfl) h1
  have k2 := h2
  have lt2 : ∀ x ∈ p2, x.block < W.heap.size := by obtain ⟨m, hm⟩ := k2; exact DataW.trod_lt m _ _ _ hm
  obtain ⟨A2, n2, c2, rfl⟩ := okWide_slice Try.underlying50 (hval 2 50 v2 rfl rfl)
  obtain ⟨ops2, s2⟩ : ∃ ops, Script6 W A2 n2 c2 ops := by
    obtain ⟨fuel, hf⟩ := h2
    exact script6_open hf (bulks.small hk (by simp))
  clear hA0 hval0
  refine (walk a0 a1 A2 n2 c2 ops2 W w0 w1 s2).mono fun e W' ⟨he, bel⟩ => ?_
  subst he
  exact ⟨_, rfl, _, _, _, [], _, [], hW', trodAll_mk1 (shut_bool Try.underlying4 _), (trodAll_cons_mk (shut_int Try.underlying3 w0) (trodAll_cons_mk (shut_int Try.underlying3 w1) (trodAll_cons_mk (Below.trod laidOut (by kernel_rfl) (of_decide_eq_true (by kernel_rfl)) k2 bel lt2) trodAll_mk0))), rfl, bel.frame _, fun h => by cases h⟩

/-- The statement: the second form. -/
theorem proved : Rows.SlotsPlaysUptoSaid :=
  OpenClaim.holds_of_cond 9 Try.f9 rfl rfl rfl rfl rfl rfl rfl ⟨rfl, rfl, rfl, rfl, rfl⟩ rfl rfl rfl rfl rfl (by kernel_rfl) Try.func9 (by kernel_rfl)
    (of_decide_eq_true (by kernel_rfl)) (by unfold Func.isWrapper; first | (rw [if_pos (by decide +kernel)]; kernel_rfl) | (rw [if_neg (by decide +kernel)]; exact ⟨rfl, rfl⟩))
    (fun os started H enc _ F => lifted os started H enc F)
#print axioms proved
end Go.Proofs.Ytdkbdlhfhmgenaa.slotsPlays
