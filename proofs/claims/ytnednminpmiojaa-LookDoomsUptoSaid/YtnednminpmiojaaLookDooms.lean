/- LookDooms: just those that live in a generation told are doomed: the call returns true wherever what it reads is of bulk at most 1048576. -/
import Derived.Test.YtnednminpmiojaaRows
import Derived.Test.YtnednminpmiojaaDoomsP
import Derived.Test.YtnednminpmiojaaVcSame
import Derived.Test.YtnednminpmiojaaElVict
import Derived.Deep.QuietTactic
import Derived.BigQuiet
import Derived.Laws.OwnMore
import Derived.JoinedCond
import Derived.WalkKit
import Derived.ProofKit
import Derived.OpenShut
import Derived.ShutString
import Derived.ChangeOld
import Derived.Below
import Derived.Carry
namespace Go.Proofs.Ytnednminpmiojaa.lookDooms
open Go.ChangeShapes Go.WideShapes Go.ChangeAt Go.RowKit
set_option linter.unusedVariables false
set_option linter.unusedSimpArgs false

open fd
theorem fld (x0 x1 x2 x3 : Value) (w : World) : (Instr.field 41 (.agg #[x0, x1, x2, x3]) 2).run Try.prog w = .ok x3 w := by kernel_rfl
theorem lst_keeps {w w' : World} {A : Option Addr} {n cap : Nat} {l : List ElSeat} (h : LstSeat w A n cap l) (hk : Keeps [] w w') : LstSeat w' A n cap l := by
  obtain ⟨h1, h2, h3, h4⟩ := h
  refine ⟨h1, h2, h3, fun hn => ?_⟩
  obtain ⟨b, off, hA, hb, hc⟩ := h4 hn
  exact ⟨b, off, hA, Nat.lt_of_lt_of_le hb hk.size, fun i p hp => (hc i p hp).keeps hb hk⟩
/-- A row of the call's own, beside the blocks X. -/
structure RO (w : World) (X : List Nat) (t : TypeId) (size : Nat) (v : Value) (n : Nat) (xs : List Value) : Prop where
  own : w.ownsRow 0 t size v n xs
  off : ∀ q, q ∈ vblk v → q ∉ X
theorem RO.step {w w' : World} {X X' : List Nat} {t : TypeId} {size n : Nat} {v : Value} {xs : List Value} (h : RO w X t size v n xs) (hk : Keeps X w w') (hg : ∀ q, q ∈ X' → q ∈ X ∨ w.heap.size ≤ q) : RO w' X' t size v n xs :=
  ⟨own_keeps h.own hk (fun q hq => h.off q (by simp [vblk, hq])), fun q hq hx => by
    have := own_lt h.own (k := q) (by simpa [vblk] using hq)
    rcases hg q hx with h1 | h1
    · exact h.off q hq h1
    · omega⟩
theorem RO.calm {w w' : World} {X : List Nat} {t : TypeId} {size n : Nat} {v : Value} {xs : List Value} (h : RO w X t size v n xs) (hk : Keeps [] w w') : RO w' X t size v n xs :=
  ⟨own_keeps h.own hk (by simp), h.off⟩
theorem RO.mk_ {w w1 : World} {X : List Nat} {t : TypeId} {size n : Nat} {v : Value} {xs : List Value} (h : w1.ownsRow w.heap.size t size v n xs) (hX : ∀ q, q ∈ X → q < w.heap.size) : RO w1 X t size v n xs :=
  ⟨own_base h (fun _ _ => Nat.zero_le _), fun q hq hx => by
    have h1 := (h.lt q (by simpa [vblk] using hq)).1
    have h2 := hX q hx
    omega⟩
/-- Another block's writes. -/
theorem RO.far {w w' : World} {X Y : List Nat} {t : TypeId} {size n : Nat} {v : Value} {xs : List Value} (h : RO w X t size v n xs) (hk : Keeps Y w w') (hY : ∀ q, q ∈ vblk v → q ∉ Y) : RO w' X t size v n xs :=
  ⟨own_keeps h.own hk (fun q hq => hY q (by simp [vblk, hq])), h.off⟩
theorem want_grow {w5 wr W w1 : World} {wt v1 : Value} {fs : List Vc} (v : Vc) (how : wr.ownsRow w5.heap.size 101 4 wt fs.length (vcCells fs)) (hk : Keeps [] w5 wr) (hkW : Keeps [] wr W) (hown : w1.ownsRow 0 101 4 v1 (fs.length + 1) (vcCells fs ++ v.cells)) (hg : W.grownBy w1 wt.ownBlock) (hat : v1.ownBlock = wt.ownBlock ∨ v1.ownBlock = some W.heap.size) :
    w1.ownsRow w5.heap.size 101 4 v1 (fs ++ [v]).length (vcCells (fs ++ [v])) ∧ Keeps [] w5 w1 := by
  have hz := (hk.trans hkW (by simp)).size
  refine ⟨?_, (hk.trans hkW (by simp)).grown hg (fun q hq => .inr (how.lt q hq).1)⟩
  rw [vcCells_snoc, show (fs ++ [v]).length = fs.length + 1 from by simp]
  refine own_base hown (fun q hq => ?_)
  rcases hat with e | e
  · exact (how.lt q (e ▸ hq)).1
  · rw [e] at hq; injection hq with hq; omega
theorem turns_ne {own : Int} {j : Nat} (h : (j : Int) ≠ own) (H : List Hd) (W : List Int) (sg : Sg) : costs H (turnsTo own (j + 1)) = costs H (turnsTo own j) + cost H j ∧ futs H W sg (turnsTo own (j + 1)) = futs H W sg (turnsTo own j) ++ fut H W sg j := by
  have e : turnsTo own (j + 1) = turnsTo own j ++ [(j : Int)] := by simp [turnsTo, h]
  rw [e, costs_app]
  exact ⟨by simp [costs], by simp [futs]⟩
theorem wd_u {W : List Int} (h : ∀ v, v ∈ W → isU v) (t : Int) (j : Nat) : ∃ m : Nat, wd W t j = m ∧ m < 18446744073709551616 := by
  have hu : isU (wd W t j) := by
    unfold wd
    cases e : W[2 * t.toNat + j]? with
    | none => exact ⟨by simp, by simp⟩
    | some x => exact h x (List.mem_of_getElem? e)
  unfold isU at hu
  exact ⟨(wd W t j).toNat, by omega, by omega⟩
theorem RO.swap {w6 w8 : World} {G4 G7 F : List Nat} {t : TypeId} {size n : Nat} {v : Value} {xs : List Value} (h : RO w6 (G4 ++ F) t size v n xs) (hk : Keeps [] w6 w8) (hG : ∀ q, q ∈ G7 → w6.heap.size ≤ q) : RO w8 (G7 ++ F) t size v n xs :=
  ⟨own_keeps h.own hk (by simp), fun q hq hx => by
    rw [List.mem_append] at hx
    rcases hx with hx | hx
    · have h1 := own_lt h.own (k := q) (by simpa [vblk] using hq)
      have h2 := hG q hx
      omega
    · exact h.off q hq (by simp [hx])⟩

theorem vict_keeps {w w' : World} {A : Option Addr} {n cap : Nat} {l : List ElVict} (h : LstVict w A n cap l) (hk : Keeps [] w w') : LstVict w' A n cap l := by
  obtain ⟨h1, h2, h3, h5, h4⟩ := h
  refine ⟨h1, h2, h3, h5, fun hn => ?_⟩
  obtain ⟨b, off, hA, hb, hc⟩ := h4 hn
  exact ⟨b, off, hA, Nat.lt_of_lt_of_le hb hk.size, fun i p hp => (hc i p hp).keeps hb hk⟩
def round (p : ElVict) : Vc := ⟨p.slot % 8, p.gen, p.stamp, p.thread⟩
/-- The dooming goes on. -/
def DDo (wb : World) (z : Sb) (d : Nat) (W : List Int) (vs : List Vc) (who : Int) (wv : Value) (a2 c2 k0 j hits : Nat) (wr : World) : Prop :=
  ∃ F G S D, SP wb wr z F S ∧ Fit (k0 + j) S ∧ DM wb wr z F d G ⟨who, vs.drop j, D⟩ ∧ D.length = hits ∧ hits ≤ j ∧ S.W = W ∧ S.H.length = 8 ∧ j ≤ S.met.log.length ∧
    RO wr (G ++ F) 59 8 (.slice (some ⟨a2, 0, none⟩) 8 c2) 8 (slC S.H W) ∧ RO wr (G ++ F) 101 4 wv vs.length (vcCells vs)
/-- One is doomed, its head in the row not told yet. -/
def DMid (wb : World) (z : Sb) (d : Nat) (W : List Int) (vs : List Vc) (who : Int) (wv : Value) (a2 c2 k0 j hits : Nat) (v : Vc) (sn : Nat) (H : List Hd) (wr : World) : Prop :=
  H.length = 8 ∧ ∃ F G S D, SP wb wr z F S ∧ Fit (k0 + (j + 1)) S ∧ DM wb wr z F d G ⟨who, vs.drop (j + 1), D⟩ ∧ hits ≤ j ∧ S.W = W ∧ j + 1 ≤ S.met.log.length ∧
    (((hd H sn).state = 2 ∧ (hd H sn).gen = v.gen) → D.length = hits + 1 ∧ S.H = H.set sn ((hd H sn).doom who)) ∧ (¬((hd H sn).state = 2 ∧ (hd H sn).gen = v.gen) → D.length = hits ∧ S.H = H) ∧
    RO wr (G ++ F) 59 8 (.slice (some ⟨a2, 0, none⟩) 8 c2) 8 (slC H W) ∧ RO wr (G ++ F) 101 4 wv vs.length (vcCells vs)
section
variable {wb wr w' : World} {z : Sb} {d : Nat} {W : List Int} {vs : List Vc} {who : Int} {wv : Value} {a2 c2 k0 j hits sn : Nat} {v : Vc} {H : List Hd}
theorem DDo.go (h : DDo wb z d W vs who wv a2 c2 k0 j hits wr) (hv : vs[j]? = some v) (hs : v.slot = (sn : Int)) (h8 : sn < 8) (hb : vs.length ≤ 1048576) (hk : k0 ≤ 1000) (w1 : 1 ≤ who) (w8 : who ≤ 8) :
    (Calls Try.prog 48 #[PT d] wr fun e w' => e = .returned (.bool false) ∧ wr = w') ∧ Calls Try.prog 49 #[PT d] wr fun e w' => e = .returned (.int .i64 1) ∧ ∃ H, DMid wb z d W vs who wv a2 c2 k0 j hits v sn H w' := by
  obtain ⟨F, G, S, D, h1, h2, h3, h4, h5, h6, h7, h9, h10, h11⟩ := h
  have hj := (List.getElem?_eq_some_iff.1 hv).1
  have hdr : vs.drop j = v :: vs.drop (j + 1) := by rw [List.drop_eq_getElem_cons hj]; rw [List.getElem?_eq_getElem hj] at hv; injection hv with hv; rw [hv]
  rw [hdr] at h3
  obtain ⟨lv, dv, ha, _⟩ := h3.ex
  refine ⟨dm_done ha, ?_⟩
  have hda := doom_at (S := S) (H := S.H) rfl h7 (sl := v.slot) (g := v.gen) (who := who) (by omega) (by omega) w1 w8
  have est : Dm.step ⟨who, v :: vs.drop (j + 1), D⟩ S = (1, if (S.doom v.slot v.gen who).1 = 0 then ⟨who, vs.drop (j + 1), D ++ [v]⟩ else ⟨who, vs.drop (j + 1), D⟩, (S.doom v.slot v.gen who).2) := rfl
  refine (dm_step h1 h2 (by omega) h3 (by show D.length ≤ _; omega)).mono fun e w' ⟨he, F', G', g1, g2, g3, g4, g5⟩ => ?_
  rw [est] at he g1 g2
  have hg : ∀ q, q ∈ G' ++ F' → q ∈ G ++ F ∨ wr.heap.size ≤ q := fun q hq => by
    rw [List.mem_append] at hq ⊢
    rcases hq with hq | hq
    · rcases g5 q hq with h | h
      · exact .inl (.inl h)
      · exact .inr h
    · rcases g4 q hq with h | h
      · exact .inl (.inr h)
      · exact .inr h
  refine ⟨he, S.H, h7, F', G', _, if (S.doom v.slot v.gen who).1 = 0 then D ++ [v] else D, g1, h2.doom _ _ _, ?_, h5, (S.doom_W _ _ _).1.trans h6, ?_, fun hc => ?_, fun hc => ?_, h10.step g3 hg, h11.step g3 hg⟩
  · split
    · rename_i h0; simp only [h0, if_true] at g2; exact g2
    · rename_i h0; simp only [h0, if_false] at g2; exact g2
  · rw [hda]
    split <;> simp [Sp.acc, MS.note] <;> omega
  · rw [hs] at hda
    rw [if_pos hc] at hda
    rw [hs, hda]
    exact ⟨by simp [h4], by simp⟩
  · rw [hs] at hda
    rw [if_neg hc] at hda
    rw [hs, hda]
    exact ⟨by simp [h4], rfl⟩
theorem DMid.calm (h : DMid wb z d W vs who wv a2 c2 k0 j hits v sn H wr) (hk : Keeps [] wr w') : DMid wb z d W vs who wv a2 c2 k0 j hits v sn H w' := by
  obtain ⟨h0, F, G, S, D, h1, h2, h3, h4, h5, h6, h7, h8, h9, h10⟩ := h
  exact ⟨h0, F, G, S, D, h1.calm hk, h2, h3.calm hk, h4, h5, h6, h7, h8, h9.calm hk, h10.calm hk⟩
theorem DMid.none_ (h : DMid wb z d W vs who wv a2 c2 k0 j hits v sn H wr) (hc : ¬((hd H sn).state = 2 ∧ (hd H sn).gen = v.gen)) : DDo wb z d W vs who wv a2 c2 k0 (j + 1) hits wr := by
  obtain ⟨h0, F, G, S, D, h1, h2, h3, h4, h5, h6, h7, h8, h9, h10⟩ := h
  obtain ⟨e1, e2⟩ := h8 hc
  exact ⟨F, G, S, D, h1, h2, h3, e1, by omega, h5, by rw [e2]; exact h0, h6, by rw [e2]; exact h9, h10⟩
theorem DMid.old (h : DMid wb z d W vs who wv a2 c2 k0 j hits v sn H wr) (h8 : sn < 8) (hc : (hd H sn).state = 2 ∧ (hd H sn).gen = v.gen) (hd' : (hd H sn).doomed = true) : DDo wb z d W vs who wv a2 c2 k0 (j + 1) (hits + 1) wr := by
  obtain ⟨h0, F, G, S, D, h1, h2, h3, h4, h5, h6, h7, _, h9, h10⟩ := h
  obtain ⟨e1, e2⟩ := h7 hc
  have e3 : (hd H sn).doom who = hd H sn := by unfold Hd.doom; rw [hd']; rfl
  rw [e3, hd_same (by omega)] at e2
  exact ⟨F, G, S, D, h1, h2, h3, e1, by omega, h5, by rw [e2]; exact h0, h6, by rw [e2]; exact h9, h10⟩
theorem DMid.store (h : DMid wb z d W vs who wv a2 c2 k0 j hits v sn H wr) (h8 : sn < 8) (hc : (hd H sn).state = 2 ∧ (hd H sn).gen = v.gen) (hd' : (hd H sn).doomed = false) (hlo : wb.heap.size ≤ a2) (hw : W.length = 16)
    (hk : Keeps [a2] wr w') (hrow : ∀ xs, wr.ownsRow 0 59 8 (.slice (some ⟨a2, 0, none⟩) 8 c2) 8 xs → w'.ownsRow 0 59 8 (.slice (some ⟨a2, 0, none⟩) 8 c2) 8 ((((((xs.set (sn * 8) (.int .i64 (hd H sn).gen)).set (sn * 8 + 1) (.int .i64 (hd H sn).state)).set (sn * 8 + 2) (.int .i64 (hd H sn).stamp)).set (sn * 8 + 3) (.int .i64 (hd H sn).thread)).set (sn * 8 + 4) (.bool true)).set (sn * 8 + 5) (.int .i64 who))) :
    DDo wb z d W vs who wv a2 c2 k0 (j + 1) (hits + 1) w' := by
  obtain ⟨h0, F, G, S, D, h1, h2, h3, h4, h5, h6, h7, _, h9, h10⟩ := h
  obtain ⟨e1, e2⟩ := h7 hc
  have e3 : (hd H sn).doom who = ⟨(hd H sn).gen, (hd H sn).state, (hd H sn).stamp, (hd H sn).thread, true, who⟩ := by unfold Hd.doom; rw [hd']; rfl
  have hty := own_tyOf h9.own (k := a2) rfl
  have hoff := h9.off a2 (by simp [vblk, Value.ownBlock])
  simp only [List.mem_append, not_or] at hoff
  refine ⟨F, G, S, D, h1.away hk (fun q hq => ?_), h2, h3.keeps hk (fun q hq hx => ?_) (fun q hq => .inl hq), e1, by omega, h5, by rw [e2]; simpa using h0, h6, ⟨?_, h9.off⟩, h10.far hk (fun q hq hx => ?_)⟩
  · simp at hq; subst hq
    exact ⟨hlo, hoff.2, fun t ht => by rw [hty] at ht; injection ht with ht; subst ht; decide⟩
  · simp at hx; subst hx; exact hoff.1 hq
  · rw [e2, e3, slC_set H W sn _ (by omega) (by omega)]
    exact hrow _ h9.own
  · simp at hx; subst hx
    have h11 := own_tyOf h10.own (k := q) (by simpa [vblk] using hq)
    rw [hty] at h11
    revert h11
    decide
end
set_option maxRecDepth 100000 in
set_option maxHeartbeats 16000000 in
theorem walk (A : Option Addr) (n cap : Nat) (l : List ElSeat) (A1 : Option Addr) (n1 cap1 : Nat) (vl : List ElVict) (bb : Int) (w : World) (hl0 : LstSeat w A n cap l) (hv0 : LstVict w A1 n1 cap1 vl) (_ : (Lit.int IntKind.i64 bb).wf = true) : Calls Try.prog 10 #[.slice A n cap, .slice A1 n1 cap1, .int .i64 bb] w fun e w' => e = .returned (.bool true) ∧ Below w.heap.size w w' := by
  have HL0 := Lib.hid hl0
  have HV0 := Lib.hid hv0
  have h7 := i64_and7 bb
  obtain ⟨b7, hb7, b0, b8⟩ : ∃ q : Int, bb % 8 = q ∧ 0 ≤ q ∧ q ≤ 7 := ⟨_, rfl, by omega, by omega⟩
  rw [hb7] at h7
  have hwho : IntKind.i64.wrap (1 + b7) = 1 + b7 := by rw [IntKind.wrap_i64]; omega
  have hn1 := hv0.2.2.1
  have hlen1 := hv0.1
  have hnc1 := hv0.2.1
  clear hl0 hv0 hb7
  go_enter Try.func10, Try.ntmps10
  go_wp2_with fail
  refine (awake12 _).mono ?_
  rintro e wb ⟨rfl, hk⟩
  have HKB := Lib.hid hk
  have HL := Lib.hid (lst_keeps HL0.out hk)
  have HV := Lib.hid (vict_keeps HV0.out hk)
  clear hk HL0 HV0
  go_wp2_with fail
  refine (table_any _ 8 (by decide) (by decide)).mono ?_
  rintro e w2 ⟨z, F, rfl, hs⟩
  have HSE : Hid (Seated wb w2 z (c12 8) 0) := ⟨F, Sp.new (c12 8), hs, Fit.new (c := c12 8) (by decide), Sp.new_wu _, rfl⟩
  clear hs
  go_wp2_with fail
  refine (seats_any wb w2 z 0 (c12 8) HSE.out (by decide) rfl A n cap l HL.out).mono ?_
  rintro e w3 ⟨rfl, F3, S, hs, hf, hu, hc⟩
  have hlen : S.H.length = 8 := by have := hf.slots; rw [hc] at this; exact this
  have hwl : S.W.length = 16 := by have := hf.words; omega
  obtain ⟨H, hH⟩ : ∃ H, S.H = H := ⟨_, rfl⟩
  obtain ⟨W, hW⟩ : ∃ W, S.W = W := ⟨_, rfl⟩
  rw [hH] at hlen
  rw [hW] at hwl
  have HS := Lib.hid hs
  have HF := Lib.hid hf
  have HLN := Lib.hid (And.intro hlen hwl)
  have HHW := Lib.hid (And.intro hH hW)
  clear hs hf hu hc hlen hwl hH hW HSE
  go_wp2_with fail
  obtain ⟨i0, hi, hz0, hz1, hz2⟩ := info_parts Try.infoVc
  have HI := Lib.hid (And.intro hi (And.intro hz0 (And.intro hz1 hz2)))
  clear hi hz0 hz1 hz2
  go_loopw [10, 11] (fun wt i wr => ∃ (j : Nat) (fs : List Vc), j ≤ n1 ∧ i = .int .i64 j ∧ fs = (vl.take j).map round ∧ fs.length = j ∧ wr.ownsRow w3.heap.size 101 4 wt fs.length (vcCells fs) ∧ Keeps [] w3 wr) (fun _ i _ => n1 - (intOf i).toNat)
  case atStart => exact ⟨0, [], Nat.zero_le _, rfl, rfl, rfl, World.ownsRow_nil _ _ _ _, Keeps.refl _ _⟩
  case round =>
    obtain ⟨j, fs, hj, rfl, hfs, hfl, how, hk⟩ := hrel
    obtain ⟨A3, c3, rfl⟩ := own_form how
    have HK := Lib.hid hk
    have HOW := Lib.hid how
    have HFS := Lib.hid (And.intro hfs hfl)
    clear how hk hfs hfl
    have hn48 : n1 ≤ 1048576 := hn1
    by_cases hlt : (j : Int) < (n1 : Int)
    · have q0 : (0 : Int) ≤ (j : Int) := by omega
      obtain ⟨gb, off, p, rfl, hp, hat⟩ := HV.out.at_ (k := j) (by omega)
      obtain ⟨t0, t1, t2, t3, _, _, _, _⟩ := hat wr (HS.out.keep.trans HK.out (by simp))
      have m7 := i64_and7 p.slot
      obtain ⟨ps, hps⟩ : ∃ q, p.slot % 8 = q := ⟨_, rfl⟩
      rw [hps] at m7
      have HPS := Lib.hid hps
      have gl : gb < wr.heap.size := World.block_lt_of_cell? wr _ t0
      have gn : gb ≠ wr.heap.size := by omega
      have hw : IntKind.i64.wrap ((j : Int) + 1) = (j : Int) + 1 := by rw [IntKind.wrap_i64]; omega
      have hmx : Hid (fs.length + 1 ≤ maxLen) := by have := HFS.out.2; unfold Hid maxLen; omega
      have hby : Hid ((fs.length + 1) * 32 ≤ 140737488355328) := by have := HFS.out.2; unfold Hid; omega
      have HP := Lib.hid hp
      obtain ⟨hi, hz0, hz1, hz2⟩ := HI.out
      clear hat hp hps
      go_wp2_with (at_builtin; refine wpList_append_row rfl (.tmp 49) (.tmp 51) 99 rfl 101 i0 _ 4 32 Try.underlying99 hi hz0 hz1 hz2 rfl (by decide) (.slice A3 fs.length c3) fs.length (vcCells fs) rfl (own_keeps (own_base HOW.out (fun k _ => Nat.zero_le k)) (((Keeps.refl [] wr).alloc _).alloc _) (by simp)) _ 1 (Vc.cells ⟨ps, p.gen, p.stamp, p.thread⟩) rfl (made_row _ _ _ _ (by simp)) (by simp [Vc.cells, Value.oneCell']) hmx.out hby.out ?_; intro v1 w9 hown1 hg1 hat1)
      obtain ⟨g1, g2⟩ := want_grow ⟨ps, p.gen, p.stamp, p.thread⟩ HOW.out HK.out (((Keeps.refl [] wr).alloc _).alloc _) hown1 hg1 hat1
      exact ⟨⟨j + 1, fs ++ [⟨ps, p.gen, p.stamp, p.thread⟩], by omega, by simp, (by rw [HFS.out.1, List.take_add_one, HP.out, ← HPS.out]; simp [round]), (by have := HFS.out.2; simp; omega), g1, g2⟩, by simp [intOf]; omega⟩
    · have hjn : j = n1 := by omega
      have hsl : Hid (∀ v, v ∈ fs → 0 ≤ v.slot ∧ v.slot < 8) := fun v hv => by
        rw [HFS.out.1, List.mem_map] at hv
        obtain ⟨q, _, rfl⟩ := hv
        show 0 ≤ q.slot % 8 ∧ q.slot % 8 < 8
        omega
      have hlen : Hid (fs.length ≤ 1048576) := by have := HFS.out.2; unfold Hid; omega
      have h3 := HS.out.calm HK.out
      have hnd := dm_new h3 HF.out fs (own_base HOW.out (fun _ _ => Nat.zero_le _)) (1 + b7) (by omega) (by omega) (fun v hv => by rw [HHW.out.1, HLN.out.1]; exact hsl.out v hv) (by have := hlen.out; omega)
      have QN := Lib.hid hnd
      have H3 := Lib.hid h3
      clear hnd h3
      go_wp2_with fail
      refine QN.out.mono ?_
      rintro e w4 ⟨d, G, rfl, hdm, hg, hk⟩
      have H4 := Lib.hid (H3.out.calm hk)
      have HDM := Lib.hid hdm
      have HGG := Lib.hid hg
      have HK4 := Lib.hid hk
      clear hdm hg hk QN H3
      go_wp2_with fail
      have hq : Calls Try.prog 17 #[PT z.p] w4 fun e w' => ∃ a1 c1 a2 c2 : Nat, e = .returned (.agg #[.slice (some ⟨a1, 0, none⟩) S.cells.length c1, .int .i64 S.gate.number, .int .i64 S.gate.owner, .slice (some ⟨a2, 0, none⟩) 8 c2]) ∧ w'.ownsRow 0 59 8 (.slice (some ⟨a2, 0, none⟩) 8 c2) 8 (slC H W) ∧ w4.heap.size ≤ a2 ∧ Keeps [] w4 w' := (sp_view H4.out HF.out).mono fun e w' ⟨a1, c1, a2, c2, he, h1, h2, h3, h4, h5⟩ => by
        rw [HHW.out.1, HHW.out.2, HLN.out.1] at h2
        rw [HHW.out.1, HLN.out.1] at he
        exact ⟨a1, c1, a2, c2, he, h2, h4, h5⟩
      refine hq.mono ?_
      rintro e w5 ⟨a1, c1, a2, c2, rfl, ho2, hl2, hk⟩
      have hX : ∀ q, q ∈ G ++ F3 → q < w4.heap.size := fun q hq => by
        rw [List.mem_append] at hq
        rcases hq with hq | hq
        · exact HDM.out.apt.lt q hq
        · exact H4.out.lt q hq
      have HA2 : Hid (wb.heap.size ≤ a2) := Nat.le_trans H4.out.keep.size hl2
      have HD0 : Hid (DDo wb z d W fs (1 + b7) (.slice A3 fs.length c3) a2 c2 40 0 0 w5) := ⟨F3, G, S, [], H4.out.calm hk, HF.out, HDM.out.calm hk, rfl, Nat.le_refl _, HHW.out.2, by rw [HHW.out.1]; exact HLN.out.1, Nat.zero_le _,
        by rw [HHW.out.1]; exact RO.mk_ (w := w4) (own_base ho2 (fun q hq => by simp [Value.ownBlock] at hq; omega)) hX,
        ⟨own_keeps (own_base HOW.out (fun _ _ => Nat.zero_le _)) (HK4.out.trans hk (by simp)) (by simp), fun q hq hx => by
          have h5 := HOW.out.lt q (by simpa [vblk] using hq)
          rw [List.mem_append] at hx
          rcases hx with hx | hx
          · have := HGG.out q hx; omega
          · have := HS.out.lt q hx; omega⟩⟩
      have hfld := fld (.slice (some ⟨a1, 0, none⟩) S.cells.length c1) (.int .i64 S.gate.number) (.int .i64 S.gate.owner) (.slice (some ⟨a2, 0, none⟩) 8 c2) w5
      clear hq ho2 hl2 hk hX HK4 H4 HDM HGG HOW HK HS
      go_wp2_with fail
      clear hfld
      go_loopw [16, 17] (fun st i wr => ∃ j h : Nat, j ≤ fs.length ∧ h ≤ j ∧ i = .int .i64 j ∧ st = .int .i64 h ∧ DDo wb z d W fs (1 + b7) (.slice A3 fs.length c3) a2 c2 40 j h wr) (fun _ i _ => fs.length - (intOf i).toNat)
      case atStart => exact ⟨0, 0, Nat.zero_le _, Nat.le_refl _, rfl, rfl, HD0.out⟩
      case round =>
        obtain ⟨i', h, hi', hh, rfl, rfl, hdo⟩ := hrel
        have HDO := Lib.hid hdo
        have h20 : fs.length ≤ 1048576 := hlen
        clear hdo HD0
        by_cases hlq : (i' : Int) < (fs.length : Int)
        · obtain ⟨v, hv⟩ : ∃ v, fs[i']? = some v := ⟨_, List.getElem?_eq_getElem (by omega)⟩
          obtain ⟨v0, v8⟩ := hsl.out v (List.mem_of_getElem? hv)
          obtain ⟨sn, hsn⟩ : ∃ sn : Nat, v.slot = sn := ⟨v.slot.toNat, by omega⟩
          obtain ⟨p1, p2⟩ := HDO.out.go hv hsn (by omega) h20 (by decide) (by omega) (by omega)
          have P1 := Lib.hid p1
          have P2 := Lib.hid p2
          have HSV := Lib.hid (And.intro hv hsn)
          rw [hsn] at v0 v8
          clear p1 p2 hv hsn
          go_wp2_with fail
          refine P1.out.mono ?_
          rintro e wq ⟨rfl, rfl⟩
          go_wp2_with fail
          refine P2.out.mono ?_
          rintro e wa ⟨rfl, Hx, hmid⟩
          have HM := Lib.hid hmid
          obtain ⟨hx8, Fd, Gd, Sd, Dd, k1, k2, k3, k4, k5, k6, k7, k8, k9, k10⟩ := hmid
          obtain ⟨gw, cw, ew, hgwl, hkw⟩ := vc_cells k10.own rfl (by omega)
          injection ew with ew1 _ ew2
          subst ew1 ew2
          obtain ⟨t0, t1, _, _⟩ := hkw i' v HSV.out.1
          rw [HSV.out.2] at t0
          have q0 : (0 : Int) ≤ (i' : Int) := by omega
          have hw2 : W.length = 2 * Hx.length := by rw [hx8]; exact HLN.out.2
          obtain ⟨m0, m1, m2, m3, m4, m5, _, _⟩ := slC_get Hx W sn hw2 (by omega)
          have hll := slC_len hw2
          rw [hx8] at hll
          have hc : ∀ i u, (slC Hx W)[i]? = some u → wa.cell? ⟨a2, i, none⟩ = some u := fun i u hu => by
            have hi := (List.getElem?_eq_some_iff.1 hu).1
            rw [hll] at hi
            exact (k9.own.cellAt i (by omega)).trans hu
          have f0 := k9.own.frozenAt (sn * 8)
          have f1 := k9.own.frozenAt (sn * 8 + 1)
          have f2 := k9.own.frozenAt (sn * 8 + 2)
          have f3 := k9.own.frozenAt (sn * 8 + 3)
          have f4 := k9.own.frozenAt (sn * 8 + 4)
          have f5 := k9.own.frozenAt (sn * 8 + 5)
          have b0' := hc _ _ m0
          have b1' := hc _ _ m1
          have b2' := hc _ _ m2
          have b3' := hc _ _ m3
          have b4' := hc _ _ m4
          have b5' := hc _ _ m5
          have hne : gw ≠ a2 := fun e => by
            have h1 := own_tyOf k10.own (k := gw) rfl
            have h2 := own_tyOf k9.own (k := a2) rfl
            rw [e, h2] at h1
            revert h1
            decide
          have hne2 := hne.symm
          have ha2l : a2 < wa.heap.size := World.block_lt_of_cell? wa _ b0'
          have ha2n : a2 ≠ wa.heap.size := by omega
          have hgwn : gw ≠ wa.heap.size := by omega
          obtain ⟨x, hx⟩ : ∃ x, hd Hx (sn : Int) = x := ⟨_, rfl⟩
          rw [hx] at b0' b1' b2' b3' b4' b5'
          have HX := Lib.hid hx
          clear hx8 k1 k2 k3 k4 k5 k6 k7 k8 k9 k10 hkw hw2 m0 m1 m2 m3 m4 m5 hll hc hx P1 P2
          have hwh : IntKind.i64.wrap ((h : Int) + 1) = (h : Int) + 1 := by rw [IntKind.wrap_i64]; omega
          have hwi : IntKind.i64.wrap ((i' : Int) + 1) = (i' : Int) + 1 := by rw [IntKind.wrap_i64]; omega
          by_cases e1 : x.state = 2
          · have e2 : (x.state == 2) = true := by simp [e1]
            by_cases e3 : x.gen = v.gen
            · have e4 : (x.gen == v.gen) = true := by simp [e3]
              have HLIVE : Hid ((hd Hx (sn : Int)).state = 2 ∧ (hd Hx (sn : Int)).gen = v.gen) := by unfold Hid; rw [HX.out]; exact ⟨e1, e3⟩
              clear e3
              cases e5 : x.doomed
              · rw [e5] at b4'
                have HND : Hid ((hd Hx (sn : Int)).doomed = false) := by unfold Hid; rw [HX.out]; exact e5
                clear e1 e5
                go_wp2_with fail
                go_quiet (fail)
                go_wp2_with fail
                go_region
                all_goals
                  go_wp2_with fail
                  refine ⟨⟨i' + 1, h + 1, by omega, by omega, by simp, by simp, ?_⟩, by simp [intOf]; omega⟩
                  have hmm := HM.out.calm (((((Keeps.refl [] wa).alloc (.cells #[.int .i64 x.gen, .int .i64 x.state, .int .i64 x.stamp, .int .i64 x.thread, .bool false, .int .i64 x.who] 54)).drewN nq).setCell (p := ⟨wa.heap.size, 4, none⟩) (.inr (Nat.le_refl _)) (.bool true)).setCell (p := ⟨wa.heap.size, 5, none⟩) (.inr (Nat.le_refl _)) (.int .i64 (1 + b7)))
                  refine hmm.store (by omega) HLIVE.out HND.out HA2.out HLN.out.2 (((((((Keeps.refl [a2] _).setCell (.inl (by simp)) _).setCell (.inl (by simp)) _).setCell (.inl (by simp)) _).setCell (.inl (by simp)) _).setCell (.inl (by simp)) _).setCell (.inl (by simp)) _).drew (fun xs ho => ?_)
                  rw [HX.out]
                  have s0 := (ho.stored (sn * 8) (.int .i64 x.gen)).1
                  have s1 := (s0.stored (sn * 8 + 1) (.int .i64 x.state)).1
                  have s2 := (s1.stored (sn * 8 + 2) (.int .i64 x.stamp)).1
                  have s3 := (s2.stored (sn * 8 + 3) (.int .i64 x.thread)).1
                  have s4 := (s3.stored (sn * 8 + 4) (.bool true)).1
                  have s5 := (s4.stored (sn * 8 + 5) (.int .i64 (1 + b7))).1
                  exact own_keeps s5 (Keeps.refl [] _).drew (by simp)
              · rw [e5] at b4'
                have HDD : Hid ((hd Hx (sn : Int)).doomed = true) := by unfold Hid; rw [HX.out]; exact e5
                clear e1 e5
                go_wp2_with fail
                go_quiet (fail)
                go_wp2_with fail
                exact ⟨⟨i' + 1, h + 1, by omega, by omega, by simp, by simp, (HM.out.calm (((Keeps.refl [] wa).alloc _).drewN _)).old (by omega) HLIVE.out HDD.out⟩, by simp [intOf]; omega⟩
            · have e4 : (x.gen == v.gen) = false := by simp [e3]
              have HNL : Hid (¬((hd Hx (sn : Int)).state = 2 ∧ (hd Hx (sn : Int)).gen = v.gen)) := by unfold Hid; rw [HX.out]; exact fun h => e3 h.2
              clear e1 e3
              go_wp2_with fail
              go_quiet (fail)
              go_wp2_with fail
              exact ⟨⟨i' + 1, h, by omega, by omega, by simp, by simp, (HM.out.calm (((Keeps.refl [] wa).alloc _).drewN _)).none_ HNL.out⟩, by simp [intOf]; omega⟩
          · have e2 : (x.state == 2) = false := by simp [e1]
            have HNL : Hid (¬((hd Hx (sn : Int)).state = 2 ∧ (hd Hx (sn : Int)).gen = v.gen)) := by unfold Hid; rw [HX.out]; exact fun h => e1 h.1
            clear e1
            go_wp2_with fail
            go_quiet (fail)
            go_wp2_with fail
            exact ⟨⟨i' + 1, h, by omega, by omega, by simp, by simp, (HM.out.calm (((Keeps.refl [] wa).alloc _).drewN _)).none_ HNL.out⟩, by simp [intOf]; omega⟩
        · have hi8 : i' = fs.length := by omega
          obtain ⟨w8b, hw8⟩ : ∃ q, q = wr := ⟨_, rfl⟩
          subst hw8
          obtain ⟨Fd, Gd, Sd, D, k1, k2, k3, k4, k5, k7, k6, k8, k10, k11⟩ := HDO.out
          rw [hi8, List.drop_length] at k3
          rw [hi8] at k8 k5
          obtain ⟨lv, dv, ha, _⟩ := k3.ex
          have QDn := Lib.hid (fun w' (hk : Keeps [] w8b w') => dm_done (ha.keeps hk (by simp)))
          have QDd := Lib.hid (fun w' (hk : Keeps [] w8b w') => dm_doomed (ha.keeps hk (by simp)) (by show D.length ≤ _; omega))
          obtain ⟨Hf, hHf⟩ : ∃ q, Sd.H = q := ⟨_, rfl⟩
          rw [hHf] at k6 k10
          have hq : Calls Try.prog 17 #[PT z.p] w8b fun e w' => ∃ a1 c1 a4 c4 : Nat, e = .returned (.agg #[.slice (some ⟨a1, 0, none⟩) Sd.cells.length c1, .int .i64 Sd.gate.number, .int .i64 Sd.gate.owner, .slice (some ⟨a4, 0, none⟩) 8 c4]) ∧ w'.ownsRow 0 59 8 (.slice (some ⟨a4, 0, none⟩) 8 c4) 8 (slC Hf W) ∧ Keeps [] w8b w' := (sp_view k1 k2).mono fun e w' ⟨a1, c1, a2, c2, he, h1, h2, h3, h4, h5⟩ => by
            rw [hHf, k7, k6] at h2
            rw [hHf, k6] at he
            exact ⟨a1, c1, a2, c2, he, h2, h5⟩
          have QL := Lib.hid (fun w' (hk : Keeps [] w8b w') => sp_log (k1.calm hk) (by have := k2.log; omega))
          have HC0 := Lib.hid (fun w' (hk : Keeps [] w8b w') => (k1.calm hk).cells.1)
          have HROW := Lib.hid k10.own
          have HLD := Lib.hid k6
          have HKE := Lib.hid k1.keep
          have HLG := Lib.hid (And.intro k8 k4)
          have hlg : Sd.met.log.length ≤ 2097152 := by have := k2.log; omega
          clear k1 k2 k3 k4 k5 k6 k7 k8 k10 k11 hHf ha HDO
          go_wp2_with fail
          refine hq.mono ?_
          rintro e w9 ⟨a3, d3, a4, c4, rfl, ho4, hk9⟩
          have HO4 := Lib.hid ho4
          have HK9 := Lib.hid hk9
          have hfld := fld (.slice (some ⟨a3, 0, none⟩) Sd.cells.length d3) (.int .i64 Sd.gate.number) (.int .i64 Sd.gate.owner) (.slice (some ⟨a4, 0, none⟩) 8 c4) w9
          clear hq ho4 hk9
          go_wp2_with fail
          clear hfld
          go_loopw [20] (fun i wx => ∃ q : Nat, q ≤ 8 ∧ i = .int .i64 q ∧ Keeps [] w9 wx) (fun i _ => 8 - (intOf i).toNat)
          case atStart => exact ⟨0, by decide, rfl, Keeps.refl _ _⟩
          case round =>
            obtain ⟨q, hq8, rfl, hk⟩ := hrel
            have HKX := Lib.hid hk
            clear hk
            by_cases hlq2 : (q : Int) < 8
            · have q0 : (0 : Int) ≤ (q : Int) := by omega
              have hw2 : W.length = 2 * Hf.length := by rw [HLD.out]; exact HLN.out.2
              obtain ⟨m0, m1, m2, m3, m4, m5, m6, m7⟩ := slC_get Hf W q hw2 (by rw [HLD.out]; omega)
              have hll := slC_len hw2
              rw [HLD.out] at hll
              have hc : ∀ i u, (slC Hf W)[i]? = some u → wr.cell? ⟨a2, i, none⟩ = some u ∧ wr.cell? ⟨a4, i, none⟩ = some u := fun i u hu => by
                have hi := (List.getElem?_eq_some_iff.1 hu).1
                rw [hll] at hi
                exact ⟨((own_keeps HROW.out (HK9.out.trans HKX.out (by simp)) (by simp)).cellAt i (by omega)).trans hu, ((own_keeps HO4.out HKX.out (by simp)).cellAt i (by omega)).trans hu⟩
              obtain ⟨x, hx⟩ : ∃ x, hd Hf (q : Int) = x := ⟨_, rfl⟩
              obtain ⟨y0, hy0⟩ : ∃ x, wd W (q : Int) 0 = x := ⟨_, rfl⟩
              obtain ⟨y1, hy1⟩ : ∃ x, wd W (q : Int) 1 = x := ⟨_, rfl⟩
              rw [hx] at m0 m1 m2 m3 m4 m5
              rw [hy0] at m6
              rw [hy1] at m7
              obtain ⟨b0', d0⟩ := hc _ _ m0
              obtain ⟨b1', d1⟩ := hc _ _ m1
              obtain ⟨b2', d2⟩ := hc _ _ m2
              obtain ⟨b3', d3'⟩ := hc _ _ m3
              obtain ⟨b4', d4⟩ := hc _ _ m4
              obtain ⟨b5', d5⟩ := hc _ _ m5
              obtain ⟨b6', d6⟩ := hc _ _ m6
              obtain ⟨b7', d7⟩ := hc _ _ m7
              have hss := fun w => slot_same w x.gen x.state x.stamp x.thread x.doomed x.who y0 y1
              clear hc m0 m1 m2 m3 m4 m5 m6 m7 hll hw2 hx hy0 hy1
              go_wp2_with fail
              go_quiet (fail)
              go_wp2_with fail
              exact ⟨⟨q + 1, by omega, by simp, by first | exact HKX.out.drew | exact HKX.out.drewN _⟩, by simp [intOf]; omega⟩
            · have HKY : Hid (Keeps [] w8b wr) := HK9.out.trans HKX.out (by simp)
              have Q1 : Hid (Calls Try.prog 48 #[PT d] wr fun e w' => e = .returned (.bool true) ∧ wr = w') := QDn.out wr HKY.out
              have Q2 : Hid (Calls Try.prog 50 #[PT d] wr fun e w' => ∃ v, e = .returned v ∧ NewRow 101 4 D.length (vcCells D) [] wr w' v) := QDd.out wr HKY.out
              go_wp2_with fail
              refine Q1.out.mono ?_
              rintro e wq ⟨rfl, rfl⟩
              go_wp2_with fail
              refine Q2.out.mono ?_
              rintro e w10 ⟨v10, rfl, ho10, hk10⟩
              obtain ⟨A10, c10, rfl⟩ := own_form ho10
              have HKZ : Hid (Keeps [] w8b w10) := HKY.out.trans hk10 (by simp)
              have c0 := HC0.out w10 HKZ.out
              have Q3 := Lib.hid (QL.out w10 HKZ.out)
              have hde : D.length = h := HLG.out.2
              have hge : decide (fs.length ≤ Sd.met.log.length) = true := decide_eq_true HLG.out.1
              rw [hde]
              clear ho10 hk10 Q1 Q2 hde
              go_wp2_with fail
              refine Q3.out.mono ?_
              rintro e w11 ⟨v11, rfl, ho11, hk11⟩
              obtain ⟨A11, c11, rfl⟩ := own_form ho11
              have HKF : Hid (Keeps [] w w11) := HKB.out.trans (HKE.out.trans (HKZ.out.trans hk11 (by simp)) (by simp)) (by simp)
              clear hk11 ho11 c0
              go_wp2_with fail
              go_ret
              exact ⟨rfl, HKF.out.below (by simp) (Nat.le_refl _)⟩

theorem own : ownKnob Try.prog.godebug = none := by kernel_rfl
theorem laidOut : laidOutB Try.prog = true := by kernel_rfl
set_option maxRecDepth 100000 in
theorem lifted (os : Os) (started : os.Started) (H : Type) (enc : TypeId × Value → H) (F : Stop.Interp) :
    ReturnsInHanded {} Try.checked os 10 .any ((Rows.OpenSpec.upto Rows.lookDoomsSpec).pre6 enc Try.prog Try.f10 Rows.lookDoomsUptoRow.domain false) (((Rows.OpenSpec.upto Rows.lookDoomsSpec).at F).post enc Try.prog Try.f10 false true false false) := by
  refine returnsInHanded_of_cond (C := Try.checked) (s := Rows.OpenSpec.upto Rows.lookDoomsSpec) (k := Rows.uptoSmall) rfl own started (by kernel_rfl) Try.func10
    (OpenSpec.witness (enc := enc) (C := Try.checked) (s := Rows.OpenSpec.upto Rows.lookDoomsSpec) (k := Rows.uptoSmall) rfl false ⟨#[], #[.slice none 0 0, .slice none 0 0, .int .i64 0], []⟩ 8 (by kernel_rfl) (by kernel_rfl) (by kernel_rfl)
      (x := ([.nil, .nil, .lit (.int .i64 0)], [], [])) (by kernel_rfl) rfl (by kernel_rfl)) ?_
  intro W base args ds gs before hval0 hW _ hk _
  have hval : ∀ (j : Nat) t v, Try.f10.params[j]? = some t → args[j]? = some v → Value.okWide Try.prog W .any base t v := hval0
  have hW' := hW
  obtain ⟨p, q, hA0, hV, rfl, hfz, hnd⟩ := hW
  have hA : DataW.TrodAll enc Try.prog W 0 (fun _ => true) true Try.f10.params.toList args.toList ds p := hA0
  rw [Try.params10] at hA hval
  obtain ⟨v0, vs0, d0, ds0, p0, q0, hargs, rfl, rfl, h0, r0⟩ := trodAll_cons hA
  obtain ⟨v1, vs1, d1, ds1, p1, q1, rfl, rfl, rfl, h1, r1⟩ := trodAll_cons r0
  obtain ⟨v2, vs2, d2, ds2, p2, q2, rfl, rfl, rfl, h2, r2⟩ := trodAll_cons r1
  obtain ⟨rfl, rfl, rfl⟩ := trodAll_nil r2
  obtain rfl : args = #[v0, v1, v2] := by cases args; simp_all
  obtain ⟨rfl, rfl⟩ := trodVars_none hV
  have k0 := h0
  have lt0 : ∀ x ∈ p0, x.block < W.heap.size := by obtain ⟨m, hm⟩ := k0; exact DataW.trod_lt m _ _ _ hm
  obtain ⟨A0, n0, c0, rfl⟩ := okWide_slice Try.underlying92 (hval 0 92 v0 rfl rfl)
  obtain ⟨fl0, hf0⟩ := h0
  obtain ⟨l0, s0⟩ := lstSeat_open hf0
  have k1 := h1
  have lt1 : ∀ x ∈ p1, x.block < W.heap.size := by obtain ⟨m, hm⟩ := k1; exact DataW.trod_lt m _ _ _ hm
  obtain ⟨A1, n1, c1, rfl⟩ := okWide_slice Try.underlying99 (hval 1 99 v1 rfl rfl)
  obtain ⟨l1, s1⟩ : ∃ l, LstVict W A1 n1 c1 l := by
    obtain ⟨fl1, hf1⟩ := h1
    exact lstVict_open hf1 (bulks.small hk (by simp))
  obtain ⟨a2, rfl, rfl, rfl, w2⟩ := open_int Try.underlying3 (hval 2 3 v2 rfl rfl) h2
  clear hA0 hval0
  refine (walk A0 n0 c0 l0 A1 n1 c1 l1 a2 W s0 s1 w2).mono fun e W' ⟨he, bel⟩ => ?_
  subst he
  exact ⟨_, rfl, _, _, _, [], _, [], hW', trodAll_mk1 (shut_bool Try.underlying4 _), (trodAll_cons_mk (Below.trod laidOut (by kernel_rfl) (of_decide_eq_true (by kernel_rfl)) k0 bel lt0) (trodAll_cons_mk (Below.trod laidOut (by kernel_rfl) (of_decide_eq_true (by kernel_rfl)) k1 bel lt1) (trodAll_cons_mk (shut_int Try.underlying3 w2) trodAll_mk0))), rfl, bel.frame _, fun h => by cases h⟩

/-- The statement: the second form. -/
theorem proved : Rows.LookDoomsUptoSaid :=
  OpenClaim.holds_of_cond 10 Try.f10 rfl rfl rfl rfl rfl rfl rfl ⟨rfl, rfl, rfl, rfl, rfl⟩ rfl rfl rfl rfl rfl (by kernel_rfl) Try.func10 (by kernel_rfl)
    (of_decide_eq_true (by kernel_rfl)) (by unfold Func.isWrapper; first | (rw [if_pos (by decide +kernel)]; kernel_rfl) | (rw [if_neg (by decide +kernel)]; exact ⟨rfl, rfl⟩))
    (fun os started H enc _ F => lifted os started H enc F)
#print axioms proved
end Go.Proofs.Ytnednminpmiojaa.lookDooms
