/- LookFinds: with nobody else at work a look finds just its victims: the call returns true for every slot, signature and list of seats. -/
import Derived.Test.YtnednminpmiojaaRows
import Derived.Test.YtnednminpmiojaaFindP
import Derived.Test.YtnednminpmiojaaVcSame
import Derived.Test.YtnednminpmiojaaElSeat
import Derived.Deep.QuietTactic
import Derived.BigQuiet
import Derived.Laws.OwnMore
import Derived.WalkKit
import Derived.ProofKit
import Derived.OpenShut
import Derived.ShutString
import Derived.ChangeOld
import Derived.Below
import Derived.Carry
namespace Go.Proofs.Ytnednminpmiojaa.lookFinds
open Go.ChangeShapes Go.WideShapes Go.ChangeAt Go.RowKit
set_option linter.unusedVariables false
set_option linter.unusedSimpArgs false

open fd
theorem fld (x0 x1 x2 x3 : Value) (w : World) : (Instr.field 41 (.agg #[x0, x1, x2, x3]) 2).run Try.prog w = .ok x3 w := by kernel_rfl
theorem lst_keeps {w w' : World} {A : Option Addr} {n cap : Nat} {l : List ElSeat} (h : LstSeat w A n cap l) (hk : Keeps [] w w') : LstSeat w' A n cap l := by
  obtain ⟨h1, h2, h3, h4⟩ := h
  refine ⟨h1, h2, h3, fun hn => ?_⟩
  obtain ⟨b, off, hA, hb, hc⟩ := h4 hn
  exact ⟨b, off, hA, Nat.lt_of_lt_of_le hb hk.size, fun i p hp => (hc i p hp).keeps hb hk⟩
/-- A row of the call's own, beside the blocks X. -/
structure RO (w : World) (X : List Nat) (t : TypeId) (size : Nat) (v : Value) (n : Nat) (xs : List Value) : Prop where
  own : w.ownsRow 0 t size v n xs
  off : ∀ q, q ∈ vblk v → q ∉ X
theorem RO.step {w w' : World} {X X' : List Nat} {t : TypeId} {size n : Nat} {v : Value} {xs : List Value} (h : RO w X t size v n xs) (hk : Keeps X w w') (hg : ∀ q, q ∈ X' → q ∈ X ∨ w.heap.size ≤ q) : RO w' X' t size v n xs :=
  ⟨own_keeps h.own hk (fun q hq => h.off q (by simp [vblk, hq])), fun q hq hx => by
    have := own_lt h.own (k := q) (by simpa [vblk] using hq)
    rcases hg q hx with h1 | h1
    · exact h.off q hq h1
    · omega⟩
theorem RO.calm {w w' : World} {X : List Nat} {t : TypeId} {size n : Nat} {v : Value} {xs : List Value} (h : RO w X t size v n xs) (hk : Keeps [] w w') : RO w' X t size v n xs :=
  ⟨own_keeps h.own hk (by simp), h.off⟩
theorem RO.mk_ {w w1 : World} {X : List Nat} {t : TypeId} {size n : Nat} {v : Value} {xs : List Value} (h : w1.ownsRow w.heap.size t size v n xs) (hX : ∀ q, q ∈ X → q < w.heap.size) : RO w1 X t size v n xs :=
  ⟨own_base h (fun _ _ => Nat.zero_le _), fun q hq hx => by
    have h1 := (h.lt q (by simpa [vblk] using hq)).1
    have h2 := hX q hx
    omega⟩
/-- Another block's writes. -/
theorem RO.far {w w' : World} {X Y : List Nat} {t : TypeId} {size n : Nat} {v : Value} {xs : List Value} (h : RO w X t size v n xs) (hk : Keeps Y w w') (hY : ∀ q, q ∈ vblk v → q ∉ Y) : RO w' X t size v n xs :=
  ⟨own_keeps h.own hk (fun q hq => hY q (by simp [vblk, hq])), h.off⟩
theorem want_grow {w5 wr W w1 : World} {wt v1 : Value} {fs : List Vc} (v : Vc) (how : wr.ownsRow w5.heap.size 101 4 wt fs.length (vcCells fs)) (hk : Keeps [] w5 wr) (hkW : Keeps [] wr W) (hown : w1.ownsRow 0 101 4 v1 (fs.length + 1) (vcCells fs ++ v.cells)) (hg : W.grownBy w1 wt.ownBlock) (hat : v1.ownBlock = wt.ownBlock ∨ v1.ownBlock = some W.heap.size) :
    w1.ownsRow w5.heap.size 101 4 v1 (fs ++ [v]).length (vcCells (fs ++ [v])) ∧ Keeps [] w5 w1 := by
  have hz := (hk.trans hkW (by simp)).size
  refine ⟨?_, (hk.trans hkW (by simp)).grown hg (fun q hq => .inr (how.lt q hq).1)⟩
  rw [vcCells_snoc, show (fs ++ [v]).length = fs.length + 1 from by simp]
  refine own_base hown (fun q hq => ?_)
  rcases hat with e | e
  · exact (how.lt q (e ▸ hq)).1
  · rw [e] at hq; injection hq with hq; omega
theorem turns_ne {own : Int} {j : Nat} (h : (j : Int) ≠ own) (H : List Hd) (W : List Int) (sg : Sg) : costs H (turnsTo own (j + 1)) = costs H (turnsTo own j) + cost H j ∧ futs H W sg (turnsTo own (j + 1)) = futs H W sg (turnsTo own j) ++ fut H W sg j := by
  have e : turnsTo own (j + 1) = turnsTo own j ++ [(j : Int)] := by simp [turnsTo, h]
  rw [e, costs_app]
  exact ⟨by simp [costs], by simp [futs]⟩
theorem wd_u {W : List Int} (h : ∀ v, v ∈ W → isU v) (t : Int) (j : Nat) : ∃ m : Nat, wd W t j = m ∧ m < 18446744073709551616 := by
  have hu : isU (wd W t j) := by
    unfold wd
    cases e : W[2 * t.toNat + j]? with
    | none => exact ⟨by simp, by simp⟩
    | some x => exact h x (List.mem_of_getElem? e)
  unfold isU at hu
  exact ⟨(wd W t j).toNat, by omega, by omega⟩
/-- The look goes on. -/
def Going (wb : World) (z : Sb) (b : Nat) (H : List Hd) (W : List Int) (sg : Sg) (want : List Vc) (wv : Value) (a2 c2 k0 C : Nat) (j : Nat) (wr : World) : Prop :=
  ∃ F G S x, SP wb wr z F S ∧ Fit (k0 + j) S ∧ S.wu ∧ LK wb wr z F b G x ∧ x.Ok j ∧ Rel H W sg want x S (C - j) ∧
    RO wr (G ++ F) 59 8 (.slice (some ⟨a2, 0, none⟩) 8 c2) 8 (slC H W) ∧ RO wr (G ++ F) 101 4 wv want.length (vcCells want)
theorem Going.go {wb wr : World} {z : Sb} {b : Nat} {H : List Hd} {W : List Int} {sg : Sg} {want : List Vc} {wv : Value} {a2 c2 k0 C j : Nat} (hl : H.length = 8) (hw : W.length = 16) (h : Going wb z b H W sg want wv a2 c2 k0 C j wr) (hj : j < C) (hC : C ≤ 24) (hk : k0 ≤ 1000) :
    (Calls Try.prog 43 #[PT b] wr fun e w' => e = .returned (.bool false) ∧ wr = w') ∧ Calls Try.prog 44 #[PT b] wr fun e w' => e = .returned (.int .i64 1) ∧ Going wb z b H W sg want wv a2 c2 k0 C (j + 1) w' := by
  obtain ⟨F, G, S, x, h1, h2, h3, h4, h5, h6, h7, h8⟩ := h
  obtain ⟨c, hc⟩ : ∃ c, C - j = c + 1 := ⟨C - j - 1, by omega⟩
  rw [hc] at h6
  obtain ⟨r1, r2, r3⟩ := h6.step hl hw
  obtain ⟨tv, wv', vv, ha, _⟩ := h4.ex
  refine ⟨by have := lk_done ha; rw [r1] at this; exact this, ?_⟩
  refine (lk_step h1 h2 (by omega) h4 h3 h5 (by omega)).mono fun e w' ⟨he, F', G', g1, g2, g3, g4, g5⟩ => ?_
  rw [r2] at he
  have hg : ∀ q, q ∈ G' ++ F' → q ∈ G ++ F ∨ wr.heap.size ≤ q := fun q hq => by
    rw [List.mem_append] at hq ⊢
    rcases hq with hq | hq
    · rcases g5 q hq with h | h
      · exact .inl (.inl h)
      · exact .inr h
    · rcases g4 q hq with h | h
      · exact .inl (.inr h)
      · exact .inr h
  exact ⟨he, F', G', _, _, g1, h2.lkstep x, h3.lkstep x, g2, h5.step h3, by rw [show C - (j + 1) = c from by omega]; exact r3, h7.step g3 hg, h8.step g3 hg⟩
theorem RO.swap {w6 w8 : World} {G4 G7 F : List Nat} {t : TypeId} {size n : Nat} {v : Value} {xs : List Value} (h : RO w6 (G4 ++ F) t size v n xs) (hk : Keeps [] w6 w8) (hG : ∀ q, q ∈ G7 → w6.heap.size ≤ q) : RO w8 (G7 ++ F) t size v n xs :=
  ⟨own_keeps h.own hk (by simp), fun q hq hx => by
    rw [List.mem_append] at hx
    rcases hx with hx | hx
    · have h1 := own_lt h.own (k := q) (by simpa [vblk] using hq)
      have h2 := hG q hx
      omega
    · exact h.off q hq (by simp [hx])⟩
/-- The dooming goes on: i of its row are done in the row told ahead. -/
def Doing (wb : World) (z : Sb) (d : Nat) (W : List Int) (fs : List Vc) (wv : Value) (a2 c2 k0 j i : Nat) (wr : World) : Prop :=
  ∃ F G S H, SP wb wr z F S ∧ Fit (k0 + j) S ∧ DM wb wr z F d G ⟨7, fs.drop j, fs.take j⟩ ∧ DInv S (fs.drop j) ∧ S.W = W ∧ S.wu ∧ H.length = 8 ∧ (i = j → S.H = H) ∧ (∀ v, i + 1 = j → fs[i]? = some v → S.H = H.set v.slot.toNat (dmd (hd H v.slot)) ∧ 0 ≤ v.slot ∧ v.slot < 8) ∧
    RO wr (G ++ F) 59 8 (.slice (some ⟨a2, 0, none⟩) 8 c2) 8 (slC H W) ∧ RO wr (G ++ F) 101 4 wv fs.length (vcCells fs)
theorem Doing.go {wb wr : World} {z : Sb} {d : Nat} {W : List Int} {fs : List Vc} {wv : Value} {a2 c2 k0 j : Nat} (h : Doing wb z d W fs wv a2 c2 k0 j j wr) (hj : j < fs.length) (h8 : fs.length ≤ 8) (hk : k0 ≤ 1000) :
    (Calls Try.prog 48 #[PT d] wr fun e w' => e = .returned (.bool false) ∧ wr = w') ∧ Calls Try.prog 49 #[PT d] wr fun e w' => e = .returned (.int .i64 1) ∧ Doing wb z d W fs wv a2 c2 k0 (j + 1) j w' := by
  obtain ⟨F, G, S, H, h1, h2, h3, h4, h5, hu, h6, h7, _, h9, h10⟩ := h
  obtain ⟨v, hv⟩ : ∃ v, fs[j]? = some v := ⟨_, List.getElem?_eq_getElem hj⟩
  have hdr : fs.drop j = v :: fs.drop (j + 1) := by rw [List.drop_eq_getElem_cons hj]; rw [List.getElem?_eq_getElem hj] at hv; injection hv with hv; rw [hv]
  have htk : fs.take (j + 1) = fs.take j ++ [v] := by rw [List.take_add_one, hv]; rfl
  rw [hdr] at h3 h4
  obtain ⟨s1, s2, s3, s4⟩ := h4.step
  obtain ⟨lv, dv, ha, _⟩ := h3.ex
  refine ⟨dm_done ha, ?_⟩
  refine (dm_step h1 h2 (by omega) h3 (by show (fs.take j).length ≤ _; rw [List.length_take]; omega)).mono fun e w' ⟨he, F', G', g1, g2, g3, g4, g5⟩ => ?_
  have est : Dm.step ⟨7, v :: fs.drop (j + 1), fs.take j⟩ S = (1, ⟨7, fs.drop (j + 1), fs.take j ++ [v]⟩, (S.doom v.slot v.gen 7).2) := by unfold Dm.step; simp only [s1, if_true]
  rw [est] at he g1 g2
  have hg : ∀ q, q ∈ G' ++ F' → q ∈ G ++ F ∨ wr.heap.size ≤ q := fun q hq => by
    rw [List.mem_append] at hq ⊢
    rcases hq with hq | hq
    · rcases g5 q hq with h | h
      · exact .inl (.inl h)
      · exact .inr h
    · rcases g4 q hq with h | h
      · exact .inl (.inr h)
      · exact .inr h
  have hv2 := (h4.each v (by simp)).1
  have hHH := h7 rfl
  refine ⟨he, F', G', _, H, g1, h2.doom _ _ _, ?_, s4, s3.trans h5, Sp.wu_of hu s3, h6, fun e => absurd e (by omega), fun u _ hu2 => ?_, h9.step g3 hg, h10.step g3 hg⟩
  · rw [htk]; exact g2
  · rw [hv] at hu2; injection hu2 with hu2; subst hu2
    rw [← hHH]
    exact ⟨s2, hv2⟩
theorem Doing.store {wb wr : World} {z : Sb} {d : Nat} {W : List Int} {fs : List Vc} {wv : Value} {a2 c2 k0 j sn : Nat} {v : Vc} (h : Doing wb z d W fs wv a2 c2 k0 (j + 1) j wr) (hv : fs[j]? = some v) (hs : v.slot = (sn : Int)) (hlo : wb.heap.size ≤ a2) (hw : W.length = 16) :
    Doing wb z d W fs wv a2 c2 k0 (j + 1) (j + 1) ((wr.setCell ⟨a2, sn * 8 + 4, none⟩ (.bool true)).setCell ⟨a2, sn * 8 + 5, none⟩ (.int .i64 7)) := by
  obtain ⟨F, G, S, H, h1, h2, h3, h4, h5, hu, h6, _, h8, h9, h10⟩ := h
  obtain ⟨e1, e2, e3⟩ := h8 v rfl hv
  have hk : Keeps [a2] wr ((wr.setCell ⟨a2, sn * 8 + 4, none⟩ (.bool true)).setCell ⟨a2, sn * 8 + 5, none⟩ (.int .i64 7)) := ((Keeps.refl [a2] wr).setCell (.inl (by simp)) _).setCell (.inl (by simp)) _
  have hty := own_tyOf h9.own (k := a2) rfl
  have hoff := h9.off a2 (by simp [vblk, Value.ownBlock])
  simp only [List.mem_append, not_or] at hoff
  refine ⟨F, G, S, S.H, h1.away hk (fun q hq => ?_), h2, h3.keeps hk (fun q hq hx => ?_) (fun q hq => .inl hq), h4, h5, hu, h4.len, fun _ => rfl, fun u e => absurd e (by omega), ⟨?_, h9.off⟩, h10.far hk (fun q hq hx => ?_)⟩
  · simp at hq; subst hq
    exact ⟨hlo, hoff.2, fun t ht => by rw [hty] at ht; injection ht with ht; subst ht; decide⟩
  · simp at hx; subst hx; exact hoff.1 hq
  · rw [e1, slC_doom H W v.slot.toNat (hd H v.slot) (by omega) (by unfold hd; rw [List.getElem?_eq_getElem (by omega)]; rfl)]
    have es : v.slot.toNat = sn := by omega
    rw [es]
    have p1 := (h9.own.stored (sn * 8 + 4) (.bool true)).1
    exact (p1.stored (sn * 8 + 5) (.int .i64 7)).1
  · simp at hx; subst hx
    have h11 := own_tyOf h10.own (k := q) (by simpa [vblk] using hq)
    rw [hty] at h11
    revert h11
    decide
set_option maxRecDepth 100000 in
set_option maxHeartbeats 16000000 in
theorem walk (slot : Int) (sg : Sg) (A : Option Addr) (n cap : Nat) (l : List ElSeat) (w : World) (_ : (Lit.int IntKind.i64 slot).wf = true) (so : sg.ok) (hl : LstSeat w A n cap l) : Calls Try.prog 8 #[.int .i64 slot, .agg #[.int .u64 (sg.a : Int), .int .u64 (sg.b : Int)], .slice A n cap] w fun e w' => e = .returned (.bool true) ∧ Below w.heap.size w w' := by
  have hkb : Keeps [] w (w.alloc (.cells #[.int .u64 (sg.a : Int), .int .u64 (sg.b : Int)] 57)) := by simp
  have HL := Lib.hid (lst_keeps hl hkb)
  have HB := Lib.hid (Blk.new w 57 #[.int .u64 (sg.a : Int), .int .u64 (sg.b : Int)])
  have HSO := Lib.hid so
  have h7 := i64_and7 slot
  obtain ⟨own, ho, o0, o7⟩ : ∃ q : Int, slot % 8 = q ∧ 0 ≤ q ∧ q ≤ 7 := ⟨_, rfl, by omega, by omega⟩
  rw [ho] at h7
  have HKB := Lib.hid hkb
  clear hl so ho hkb
  go_enter Try.func8, Try.ntmps8
  go_wp2_with fail
  refine (awake12 _).mono ?_
  rintro e w1 ⟨rfl, hk⟩
  obtain ⟨wb, hwb⟩ : ∃ q, w.alloc (.cells #[.int .u64 (sg.a : Int), .int .u64 (sg.b : Int)] 57) = q := ⟨_, rfl⟩
  obtain ⟨qs, hqs⟩ : ∃ q, w.heap.size = q := ⟨_, rfl⟩
  rw [hwb] at HL HB HKB hk
  have HQS := Lib.hid hqs
  rw [hqs] at HB ⊢
  have HK := Lib.hid hk
  clear hwb hk hqs
  go_wp2_with fail
  refine (table_any _ 8 (by decide) (by decide)).mono ?_
  rintro e w2 ⟨z, F, rfl, hs⟩
  have HSE : Hid (Seated wb w2 z (c12 8) 0) := ⟨F, Sp.new (c12 8), hs.base HK.out, Fit.new (c := c12 8) (by decide), Sp.new_wu _, rfl⟩
  clear hs HK
  go_wp2_with fail
  refine (seats_any wb w2 z 0 (c12 8) HSE.out (by decide) rfl A n cap l HL.out).mono ?_
  rintro e w3 ⟨rfl, F3, S, hs, hf, hu, hc⟩
  have hlen : S.H.length = 8 := by have := hf.slots; rw [hc] at this; exact this
  have hwl : S.W.length = 16 := by have := hf.words; omega
  obtain ⟨H, hH⟩ : ∃ H, S.H = H := ⟨_, rfl⟩
  obtain ⟨W, hW⟩ : ∃ W, S.W = W := ⟨_, rfl⟩
  rw [hH] at hlen
  rw [hW] at hwl
  have HS := Lib.hid hs
  have HF := Lib.hid hf
  have HU := Lib.hid hu
  have HLN := Lib.hid (And.intro hlen hwl)
  have HHW := Lib.hid (And.intro hH hW)
  have HWU : Hid (∀ v, v ∈ W → isU v) := by have := hu; unfold Sp.wu at this; rw [hW] at this; exact this
  have hb3 := HB.out.keeps hs.keep (by simp)
  obtain ⟨s0, s1⟩ : w3.cell? ⟨qs, 0, none⟩ = some (.int .u64 (sg.a : Int)) ∧ w3.cell? ⟨qs, 1, none⟩ = some (.int .u64 (sg.b : Int)) := ⟨(hb3.cell 0).trans rfl, (hb3.cell 1).trans rfl⟩
  clear hs hf hu hc hlen hwl hH hW HSE hb3
  go_wp2_with fail
  have hq : Calls Try.prog 42 #[PT z.p, .int .i64 own, .agg #[.int .u64 (sg.a : Int), .int .u64 (sg.b : Int)]] w3 fun e w' => ∃ b G, e = .returned (.tuple #[PT b, .int .i64 0]) ∧ LK wb w' z F3 b G (Lk.new S.H.length own sg) ∧ (∀ q, q ∈ G → w3.heap.size ≤ q) ∧ Keeps [] w3 w' := lk_new HS.out HF.out sg own o0 (by rw [HHW.out.1, HLN.out.1]; omega)
  rw [HHW.out.1, HLN.out.1] at hq
  refine hq.mono ?_
  rintro e w4 ⟨b, G, rfl, hlk, hg, hk⟩
  replace HS := Lib.hid (HS.out.calm hk)
  have HLK := Lib.hid hlk
  clear hlk hg hk hq s0 s1
  go_wp2_with fail
  have hq : Calls Try.prog 17 #[PT z.p] w4 fun e w' => ∃ a1 c1 a2 c2 : Nat, e = .returned (.agg #[.slice (some ⟨a1, 0, none⟩) S.cells.length c1, .int .i64 S.gate.number, .int .i64 S.gate.owner, .slice (some ⟨a2, 0, none⟩) 8 c2]) ∧ w'.ownsRow 0 59 8 (.slice (some ⟨a2, 0, none⟩) 8 c2) 8 (slC H W) ∧ w4.heap.size ≤ a2 ∧ Keeps [] w4 w' := (sp_view HS.out HF.out).mono fun e w' ⟨a1, c1, a2, c2, he, h1, h2, h3, h4, h5⟩ => by
    rw [HHW.out.1, HHW.out.2, HLN.out.1] at h2
    rw [HHW.out.1, HLN.out.1] at he
    exact ⟨a1, c1, a2, c2, he, h2, h4, h5⟩
  refine hq.mono ?_
  rintro e w5 ⟨a1, c1, a2, c2, rfl, ho2, hl2, hk⟩
  have hro : RO w5 (G ++ F3) 59 8 (.slice (some ⟨a2, 0, none⟩) 8 c2) 8 (slC H W) := RO.mk_ (w := w4) (own_base ho2 (fun q hq => by simp [Value.ownBlock] at hq; omega)) (fun q hq => by
    rw [List.mem_append] at hq
    rcases hq with hq | hq
    · exact HLK.out.apt.lt q hq
    · exact HS.out.lt q hq)
  have HRO := Lib.hid hro
  have HA2 : Hid (wb.heap.size ≤ a2) := Nat.le_trans HS.out.keep.size hl2
  replace HS := Lib.hid (HS.out.calm hk)
  replace HLK := Lib.hid (HLK.out.calm hk)
  have HBL := Lib.hid HB.out
  clear hq ho2 hl2 hk hro
  have hfld := fld (.slice (some ⟨a1, 0, none⟩) S.cells.length c1) (.int .i64 S.gate.number) (.int .i64 S.gate.owner) (.slice (some ⟨a2, 0, none⟩) 8 c2) w5
  go_wp2_with fail
  clear hfld
  have hfut : Hid (∀ k, (futs H W sg (turnsTo own k)).length ≤ k ∧ costs H (turnsTo own k) ≤ 3 * k) := fun k => by
    have h1 := costs_le H (turnsTo own k)
    have h2 := turnsTo_len own k
    have h3 : ∀ ts : List Int, (futs H W sg ts).length ≤ ts.length := fun ts => by
      induction ts with
      | nil => simp [futs]
      | cons q r ih =>
        have e : futs H W sg (q :: r) = fut H W sg q ++ futs H W sg r := rfl
        rw [e, List.length_append, List.length_cons]
        have : (fut H W sg q).length ≤ 1 := by unfold fut; split <;> simp
        omega
    have h4 := h3 (turnsTo own k)
    omega
  obtain ⟨i0, hi, hz0, hz1, hz2⟩ := info_parts Try.infoVc
  have HI := Lib.hid (And.intro hi (And.intro hz0 (And.intro hz1 hz2)))
  clear hi hz0 hz1 hz2
  go_loopw [14, 15, 16] (fun st wt i wr => ∃ (j : Nat) (C : Nat) (fs : List Vc), j ≤ 8 ∧ i = .int .i64 j ∧ st = .int .i64 C ∧ C = costs H (turnsTo own j) ∧ fs = futs H W sg (turnsTo own j) ∧ wr.ownsRow w5.heap.size 101 4 wt fs.length (vcCells fs) ∧ Keeps [] w5 wr) (fun _ _ i _ => 8 - (intOf i).toNat)
  case atStart => exact ⟨0, 0, [], by decide, rfl, rfl, rfl, rfl, World.ownsRow_nil _ _ _ _, Keeps.refl _ _⟩
  case round =>
    obtain ⟨j, C, fs, hj, rfl, rfl, hC, hfs, how, hk⟩ := hrel
    obtain ⟨A3, c3, rfl⟩ := own_form how
    have HK := Lib.hid hk
    have HOW := Lib.hid how
    have HCF := Lib.hid (And.intro hC hfs)
    have hC24 : C ≤ 24 := by have := (hfut.out j).2; omega
    have hf8 : fs.length ≤ 8 := by have := (hfut.out j).1; rw [← hfs] at this; omega
    clear how hk hC hfs
    by_cases hlt : (j : Int) < 8
    · have q0 : (0 : Int) ≤ (j : Int) := by omega
      have hj8 : j < 8 := by omega
      have hc : ∀ i u, (slC H W)[i]? = some u → wr.cell? ⟨a2, i, none⟩ = some u := fun i u hu => by
        have hi := (List.getElem?_eq_some_iff.1 hu).1
        rw [slC_len (by have := HLN.out; omega)] at hi
        exact ((own_keeps HRO.out.own HK.out (by simp)).cellAt i (by have := HLN.out.1; omega)).trans hu
      obtain ⟨m0, m1, m2, m3, m4, m5, m6, m7⟩ := slC_get H W j (by have := HLN.out; omega) (by have := HLN.out; omega)
      have b0 := hc _ _ m0
      have b1 := hc _ _ m1
      have b2 := hc _ _ m2
      have b3 := hc _ _ m3
      have b4 := hc _ _ m4
      have b5 := hc _ _ m5
      have b6 := hc _ _ m6
      have b7 := hc _ _ m7
      clear hc m0 m1 m2 m3 m4 m5 m6 m7
      have ha2l : a2 < wr.heap.size := World.block_lt_of_cell? wr _ b0
      have ha2n : a2 ≠ wr.heap.size := by omega
      have hbs := HB.out.keeps (HS.out.keep.trans HK.out (by simp)) (by simp)
      have s0 : wr.cell? ⟨qs, 0, none⟩ = some (.int .u64 (sg.a : Int)) := (hbs.cell 0).trans rfl
      have s1 : wr.cell? ⟨qs, 1, none⟩ = some (.int .u64 (sg.b : Int)) := (hbs.cell 1).trans rfl
      have hqsl := hbs.lt
      have hqsn : qs ≠ wr.heap.size := by omega
      clear hbs
      by_cases hjo : (j : Int) = own
      · have e1 : ((j : Int) == own) = true := by simp [hjo]
        have HE : Hid (turnsTo own (j + 1) = turnsTo own j) := by unfold Hid; simp [turnsTo, hjo]
        clear hjo
        go_wp2_with fail
        exact ⟨⟨j + 1, C, fs, by omega, by simp, by simp, (by rw [HE.out]; exact HCF.out.1), (by rw [HE.out]; exact HCF.out.2), own_keeps HOW.out (show Keeps [] wr _ by simp) (by simp), HK.out.trans (show Keeps [] wr _ by simp) (by simp)⟩, by simp [intOf]; omega⟩
      · have e1 : ((j : Int) == own) = false := by simp [hjo]
        have HE := Lib.hid (turns_ne hjo H W sg)
        clear hjo
        obtain ⟨x, hx⟩ : ∃ x, hd H (j : Int) = x := ⟨_, rfl⟩
        have hco : cost H (j : Int) = if live x then 3 else 1 := by rw [← hx]; rfl
        have hfu : fut H W sg (j : Int) = if live x && mt W sg j then [⟨j, x.gen, x.stamp, x.thread⟩] else [] := by rw [← hx]; rfl
        rw [hx] at b0 b1 b2 b3 b4 b5
        rw [hco, hfu] at HE
        clear hco hfu hx
        have w1c : IntKind.i64.wrap ((C : Int) + 1) = (C : Int) + 1 := by rw [IntKind.wrap_i64]; omega
        have w2c : IntKind.i64.wrap ((C : Int) + 1 + 2) = (C : Int) + 3 := by rw [IntKind.wrap_i64]; omega
        have dead : live x = false → Hid (C + 1 = costs H (turnsTo own (j + 1)) ∧ fs = futs H W sg (turnsTo own (j + 1))) := fun hv => by
          have h1 := HE.out
          rw [hv] at h1
          refine ⟨?_, ?_⟩
          · rw [h1.1, ← HCF.out.1]; rfl
          · rw [h1.2, ← HCF.out.2]; simp
        by_cases e2 : x.state = 2
        · have e3 : (x.state == 2) = true := by simp [e2]
          cases e4 : x.doomed
          · have HV : Hid (live x = true) := by unfold Hid live; rw [e4, e2]; rfl
            rw [e4] at b4
            clear e2 e4 dead
            obtain ⟨m0, hm0, hm0'⟩ := wd_u HWU.out j 0
            obtain ⟨m1, hm1, hm1'⟩ := wd_u HWU.out j 1
            have hmt : fd.mt W sg j = !(((m0 &&& sg.a : Nat) : Int) == 0 && ((m1 &&& sg.b : Nat) : Int) == 0) := by unfold fd.mt sgOf Sg.meet Sg.none; simp [hm0, hm1]
            rw [hm0] at b6
            rw [hm1] at b7
            have r0 := bits_and_u64_nat m0 sg.a hm0' HSO.out.1
            have r1 := bits_and_u64_nat m1 sg.b hm1' HSO.out.2
            obtain ⟨P, hP⟩ : ∃ P, m0 &&& sg.a = P := ⟨_, rfl⟩
            obtain ⟨Q, hQ⟩ : ∃ Q, m1 &&& sg.b = Q := ⟨_, rfl⟩
            rw [hP] at r0 hmt
            rw [hQ] at r1 hmt
            have HMT := Lib.hid hmt
            have HLV : Hid (C + 3 = costs H (turnsTo own (j + 1)) ∧ futs H W sg (turnsTo own (j + 1)) = fs ++ if mt W sg j then [⟨j, x.gen, x.stamp, x.thread⟩] else []) := by
              have h1 := HE.out
              rw [HV.out] at h1
              refine ⟨?_, ?_⟩
              · rw [h1.1, ← HCF.out.1]; rfl
              · rw [h1.2, ← HCF.out.2]; simp
            clear hmt hP hQ hm0 hm1 hm0' hm1'
            by_cases p0 : P = 0
            · by_cases p1 : Q = 0
              · subst p0 p1
                have HM0 : Hid (mt W sg j = false) := by unfold Hid; rw [HMT.out]; rfl
                go_wp2_with fail
                go_quiet (fail)
                go_wp2_with fail
                exact ⟨⟨j + 1, C + 3, fs, by omega, by simp, by simp, HLV.out.1, (by rw [HLV.out.2, HM0.out]; simp), own_keeps HOW.out (show Keeps [] wr _ by simp) (by simp), HK.out.trans (show Keeps [] wr _ by simp) (by simp)⟩, by simp [intOf]; omega⟩
              · have hq1 : ((Q : Int) != 0) = true := by simp [p1]
                have hq2 : ((Q : Int) == 0) = false := by simp [p1]
                have HM1 : Hid (mt W sg j = true) := by unfold Hid; rw [HMT.out, hq2]; simp
                subst p0
                clear p1
                obtain ⟨hi, hz0, hz1, hz2⟩ := HI.out
                go_wp2_with fail
                go_quiet (fail)
                have hmx : Hid (fs.length + 1 ≤ maxLen) := by unfold Hid maxLen; omega
                have hby : Hid ((fs.length + 1) * 32 ≤ 140737488355328) := by unfold Hid; omega
                go_wp2_with (at_builtin; refine wpList_append_row rfl (.tmp 105) (.tmp 114) 99 rfl 101 i0 _ 4 32 Try.underlying99 hi hz0 hz1 hz2 rfl (by decide) (.slice A3 fs.length c3) fs.length (vcCells fs) rfl (own_keeps (own_base HOW.out (fun k _ => Nat.zero_le k)) ((((Keeps.refl [] wr).alloc _).drewN _).alloc _) (by simp)) _ 1 (Vc.cells ⟨j, x.gen, x.stamp, x.thread⟩) rfl (made_row _ _ _ _ (by simp)) (by simp [Vc.cells, Value.oneCell']) hmx.out hby.out ?_; intro v1 w9 hown1 hg1 hat1)
                obtain ⟨g1, g2⟩ := want_grow ⟨j, x.gen, x.stamp, x.thread⟩ HOW.out HK.out ((((Keeps.refl [] wr).alloc _).drewN _).alloc _) hown1 hg1 hat1
                exact ⟨⟨j + 1, C + 3, fs ++ [⟨j, x.gen, x.stamp, x.thread⟩], by omega, by simp, by simp, HLV.out.1, (by rw [HLV.out.2, HM1.out]; simp), g1, g2⟩, by simp [intOf]; omega⟩
            · have hq1 : ((P : Int) != 0) = true := by simp [p0]
              have hq2 : ((P : Int) == 0) = false := by simp [p0]
              have HM1 : Hid (mt W sg j = true) := by unfold Hid; rw [HMT.out, hq2]; simp
              clear p0
              obtain ⟨hi, hz0, hz1, hz2⟩ := HI.out
              go_wp2_with fail
              go_quiet (fail)
              have hmx : Hid (fs.length + 1 ≤ maxLen) := by unfold Hid maxLen; omega
              have hby : Hid ((fs.length + 1) * 32 ≤ 140737488355328) := by unfold Hid; omega
              go_wp2_with (at_builtin; refine wpList_append_row rfl (.tmp 105) (.tmp 114) 99 rfl 101 i0 _ 4 32 Try.underlying99 hi hz0 hz1 hz2 rfl (by decide) (.slice A3 fs.length c3) fs.length (vcCells fs) rfl (own_keeps (own_base HOW.out (fun k _ => Nat.zero_le k)) ((((Keeps.refl [] wr).alloc _).drewN _).alloc _) (by simp)) _ 1 (Vc.cells ⟨j, x.gen, x.stamp, x.thread⟩) rfl (made_row _ _ _ _ (by simp)) (by simp [Vc.cells, Value.oneCell']) hmx.out hby.out ?_; intro v1 w9 hown1 hg1 hat1)
              obtain ⟨g1, g2⟩ := want_grow ⟨j, x.gen, x.stamp, x.thread⟩ HOW.out HK.out ((((Keeps.refl [] wr).alloc _).drewN _).alloc _) hown1 hg1 hat1
              exact ⟨⟨j + 1, C + 3, fs ++ [⟨j, x.gen, x.stamp, x.thread⟩], by omega, by simp, by simp, HLV.out.1, (by rw [HLV.out.2, HM1.out]; simp), g1, g2⟩, by simp [intOf]; omega⟩
          · have HV := dead (by unfold live; rw [e4]; simp)
            rw [e4] at b4
            clear e2 e4 dead
            go_wp2_with fail
            exact ⟨⟨j + 1, C + 1, fs, by omega, by simp, by simp, HV.out.1, HV.out.2, own_keeps HOW.out (show Keeps [] wr _ by simp) (by simp), HK.out.trans (show Keeps [] wr _ by simp) (by simp)⟩, by simp [intOf]; omega⟩
        · have e3 : (x.state == 2) = false := by simp [e2]
          have HV := dead (by unfold live; rw [e3]; rfl)
          clear e2 dead
          go_wp2_with fail
          exact ⟨⟨j + 1, C + 1, fs, by omega, by simp, by simp, HV.out.1, HV.out.2, own_keeps HOW.out (show Keeps [] wr _ by simp) (by simp), HK.out.trans (show Keeps [] wr _ by simp) (by simp)⟩, by simp [intOf]; omega⟩
    · have HC8 : Hid (C = costs H (turnsTo own 8) ∧ fs = futs H W sg (turnsTo own 8)) := by have h1 := HCF.out; rw [show j = 8 from by omega] at h1; exact h1
      clear HCF
      have HCF := HC8
      clear HC8
      have HGO : Hid (Going wb z b H W sg fs (.slice A3 fs.length c3) a2 c2 40 C 0 wr) := ⟨F3, G, S, Lk.new 8 own sg, HS.out.calm HK.out, HF.out, HU.out, HLK.out.calm HK.out, Lk.new_ok (by decide) own HSO.out, by rw [HCF.out.1, HCF.out.2]; exact Rel.new HHW.out.1 HHW.out.2 own sg, HRO.out.calm HK.out, RO.mk_ HOW.out (fun q hq => by
        rw [List.mem_append] at hq
        rcases hq with hq | hq
        · exact HLK.out.apt.lt q hq
        · exact HS.out.lt q hq)⟩
      have HFS : Hid (fs = futs H W sg (turnsTo own 8)) := HCF.out.2
      clear HS HLK HRO HOW HK HI HCF HF HU
      go_wp2_with fail
      go_loopw [18] (fun i wr => ∃ j : Nat, j ≤ C ∧ i = .int .i64 j ∧ Going wb z b H W sg fs (.slice A3 fs.length c3) a2 c2 40 C j wr) (fun i _ => C - (intOf i).toNat)
      case atStart => exact ⟨0, Nat.zero_le _, rfl, HGO.out⟩
      case round =>
        obtain ⟨j, hj, rfl, hgo⟩ := hrel
        have HG := Lib.hid hgo
        clear hgo HGO
        by_cases hlt : (j : Int) < (C : Int)
        · obtain ⟨p1, p2⟩ := HG.out.go HLN.out.1 HLN.out.2 (by omega) hC24 (by decide)
          have P1 := Lib.hid p1
          have P2 := Lib.hid p2
          clear p1 p2
          go_wp2_with fail
          refine P1.out.mono ?_
          rintro e wq ⟨rfl, rfl⟩
          go_wp2_with fail
          refine P2.out.mono ?_
          rintro e wa ⟨rfl, hg⟩
          have HGN := Lib.hid hg
          clear hg P1 P2
          go_wp2_with fail
          exact ⟨⟨j + 1, by omega, by simp, HGN.out⟩, by simp [intOf]; omega⟩
        · obtain rfl : j = C := by omega
          obtain ⟨F4, G4, S4, x, g1, g2, g3, g4, g5, g6, g7, g8⟩ := HG.out
          rw [Nat.sub_self] at g6
          obtain ⟨t1, t2⟩ := g6.fin
          obtain ⟨tv, wv', vv, ha, _⟩ := g4.ex
          have hvi := lk_victims ha (by rw [t2]; omega)
          have hdn := fun w' (hk : Keeps [] wr w') => lk_done (ha.keeps hk (by simp))
          rw [t2] at hvi
          rw [t1] at hdn
          have QV := Lib.hid hvi
          have QD : Hid (∀ w', Keeps [] wr w' → Calls Try.prog 43 #[PT b] w' fun e w'' => e = .returned (.bool true) ∧ w' = w'') := hdn
          have hH4 := g6.hH
          have hW4 := g6.hW
          have G1 := Lib.hid g1
          have G2 := Lib.hid g2
          have G3 := Lib.hid g3
          have G7 := Lib.hid g7
          have G8 := Lib.hid g8
          have HH4 := Lib.hid (And.intro hH4 hW4)
          clear g1 g2 g3 g4 g5 g6 g7 g8 t1 t2 ha hvi hdn hH4 hW4 HG hlt
          go_wp2_with fail
          refine QV.out.mono ?_
          rintro e w6 ⟨v6, rfl, ho6, hk6⟩
          obtain ⟨A6, c6, rfl⟩ := own_form ho6
          have HO6 : Hid (w6.ownsRow 0 101 4 (.slice A6 fs.length c6) fs.length (vcCells fs)) := own_base ho6 (fun _ _ => Nat.zero_le _)
          replace G1 := Lib.hid (G1.out.calm hk6)
          replace G7 := Lib.hid (G7.out.calm hk6)
          replace G8 := Lib.hid (G8.out.calm hk6)
          have HK6 := Lib.hid hk6
          clear ho6 hk6 QV
          have hdi : DInv S4 fs := by rw [HFS.out]; exact DInv.of (by rw [HH4.out.1]; exact HLN.out.1) HH4.out.1
          have HDI := Lib.hid hdi
          have hnd := dm_new G1.out G2.out fs HO6.out 7 (by decide) (by decide) (fun v hv => by rw [HH4.out.1, HLN.out.1]; exact (HDI.out.each v hv).1) (by omega)
          have QN := Lib.hid hnd
          clear hdi hnd
          go_wp2_with fail
          refine QN.out.mono ?_
          rintro e w7 ⟨d, G9, rfl, hdm, hg9, hk7⟩
          have HK7 : Hid (Keeps [] wr w7) := HK6.out.trans hk7 (by simp)
          have hsm := vc_same_yes w7 (.slice A6 fs.length c6) (.slice A3 fs.length c3) fs fs.length rfl (by omega) (own_keeps HO6.out hk7 (by simp)) (own_keeps G8.out.own hk7 (by simp))
          have QM := Lib.hid hsm
          have HD0 : Hid (Doing wb z d W fs (.slice A3 fs.length c3) a2 c2 (40 + j) 0 0 w7) := ⟨F4, G9, S4, S4.H, G1.out.calm hk7, G2.out, hdm, HDI.out, HH4.out.2, G3.out, HDI.out.len, fun _ => rfl, fun v e => absurd e (by omega), by rw [HH4.out.1]; exact G7.out.swap hk7 hg9, G8.out.swap hk7 hg9⟩
          clear hdm hg9 hk7 hsm QN
          go_wp2_with fail
          refine (QD.out _ HK7.out).mono ?_
          rintro e wq ⟨rfl, rfl⟩
          go_wp2_with fail
          refine QM.out.mono ?_
          rintro e w8 ⟨rfl, hk8⟩
          have HK8 := Lib.hid hk8
          clear hk8 QM
          go_wp2_with fail
          have hfl : fs.length ≤ 8 := hf8
          go_loopw [22] (fun i wr => ∃ i' : Nat, i' ≤ fs.length ∧ i = .int .i64 i' ∧ Doing wb z d W fs (.slice A3 fs.length c3) a2 c2 (40 + j) i' i' wr) (fun i _ => fs.length - (intOf i).toNat)
          case atStart => exact ⟨0, Nat.zero_le _, rfl, by
            obtain ⟨Fd, Gd, Sd, Hd', k1, k2, k3, k4, k5, k6, k7, k8, k9, k10, k11⟩ := HD0.out
            exact ⟨Fd, Gd, Sd, Hd', k1.calm HK8.out, k2, k3.calm HK8.out, k4, k5, k6, k7, k8, k9, k10.calm HK8.out, k11.calm HK8.out⟩⟩
          case round =>
            obtain ⟨i', hi', rfl, hdo⟩ := hrel
            have HDO := Lib.hid hdo
            clear hdo HD0 HK8
            by_cases hlt : (i' : Int) < (fs.length : Int)
            · obtain ⟨p1, p2⟩ := HDO.out.go (by omega) hfl (by omega)
              have P1 := Lib.hid p1
              have P2 := Lib.hid p2
              clear p1 p2
              go_wp2_with fail
              refine P1.out.mono ?_
              rintro e wq ⟨rfl, rfl⟩
              go_wp2_with fail
              refine P2.out.mono ?_
              rintro e wa ⟨rfl, hg⟩
              have HGN := Lib.hid hg
              clear hg P1 P2
              obtain ⟨v, hv⟩ : ∃ v, fs[i']? = some v := ⟨_, List.getElem?_eq_getElem (by omega)⟩
              obtain ⟨Fd, Gd, Sd, Hd', k1, k2, k3, k4, k5, k6, k7, k8, k9, k10, k11⟩ := HGN.out
              obtain ⟨_, v0, v8⟩ := k9 v rfl hv
              obtain ⟨sn, hsn⟩ : ∃ sn : Nat, v.slot = sn := ⟨v.slot.toNat, by omega⟩
              obtain ⟨gw, cw, ew, hgwl, hkw⟩ := vc_cells k11.own rfl (by omega)
              injection ew with ew1 _ ew2
              subst ew1 ew2
              obtain ⟨t0, _, _, _⟩ := hkw i' v hv
              rw [hsn] at t0 v0 v8
              have q0 : (0 : Int) ≤ (i' : Int) := by omega
              have q1 : (sn : Int) < 8 := v8
              have hc : ∀ o, o < 8 → ∃ u, wa.cell? ⟨a2, sn * 8 + o, none⟩ = some u := fun o ho => by
                have hl := slC_len (H := Hd') (W := W) (by rw [k7]; exact HLN.out.2)
                rw [k7] at hl
                exact ⟨(slC Hd' W)[sn * 8 + o]'(by omega), (k10.own.cellAt (sn * 8 + o) (by omega)).trans (List.getElem?_eq_getElem (by omega))⟩
              obtain ⟨u4, c4⟩ := hc 4 (by decide)
              obtain ⟨u5, c5⟩ := hc 5 (by decide)
              have f4 := k10.own.frozenAt (sn * 8 + 4)
              have f5 := k10.own.frozenAt (sn * 8 + 5)
              have hne : gw ≠ a2 := fun e => by
                have h1 := own_tyOf k11.own (k := gw) rfl
                have h2 := own_tyOf k10.own (k := a2) rfl
                rw [e, h2] at h1
                revert h1
                decide
              have HSV := Lib.hid (And.intro hv hsn)
              clear k1 k2 k3 k4 k5 k6 k7 k8 k9 k10 k11 hkw hc hv hsn
              go_wp2_with fail
              exact ⟨⟨i' + 1, by omega, by simp, HGN.out.store HSV.out.1 HSV.out.2 HA2.out HLN.out.2⟩, by simp [intOf]; omega⟩
            · have hi8 : i' = fs.length := by omega
              obtain ⟨w8b, hw8⟩ : ∃ q, q = wr := ⟨_, rfl⟩
              subst hw8
              obtain ⟨Fd, Gd, Sd, Hd', k1, k2, k3, k4, k5, k6, k7, k8, _, k10, k11⟩ := HDO.out
              have kH := k8 rfl
              rw [hi8, List.drop_length, List.take_length] at k3
              obtain ⟨lv, dv, ha, _⟩ := k3.ex
              have QDn := Lib.hid (fun w' (hk : Keeps [] w8b w') => dm_done (ha.keeps hk (by simp)))
              have QDd := Lib.hid (fun w' (hk : Keeps [] w8b w') => dm_doomed (ha.keeps hk (by simp)) (by show fs.length ≤ _; omega))
              have hq : Calls Try.prog 17 #[PT z.p] w8b fun e w' => ∃ a1 c1 a4 c4 : Nat, e = .returned (.agg #[.slice (some ⟨a1, 0, none⟩) Sd.cells.length c1, .int .i64 Sd.gate.number, .int .i64 Sd.gate.owner, .slice (some ⟨a4, 0, none⟩) 8 c4]) ∧ w'.ownsRow 0 59 8 (.slice (some ⟨a4, 0, none⟩) 8 c4) 8 (slC Hd' W) ∧ Keeps [] w8b w' := (sp_view k1 k2).mono fun e w' ⟨a1, c1, a2, c2, he, h1, h2, h3, h4, h5⟩ => by
                rw [kH, k5, k7] at h2
                rw [kH, k7] at he
                exact ⟨a1, c1, a2, c2, he, h2, h5⟩
              have HROW := Lib.hid k10.own
              have HWNT := Lib.hid k11.own
              have HLD := Lib.hid k7
              have HKE := Lib.hid k1.keep
              clear k1 k2 k3 k4 k5 k6 k7 k8 k10 k11 kH ha HDO
              go_wp2_with fail
              refine hq.mono ?_
              rintro e w9 ⟨a3, d3, a4, c4, rfl, ho4, hk9⟩
              have HO4 := Lib.hid ho4
              have HK9 := Lib.hid hk9
              have hfld := fld (.slice (some ⟨a3, 0, none⟩) Sd.cells.length d3) (.int .i64 Sd.gate.number) (.int .i64 Sd.gate.owner) (.slice (some ⟨a4, 0, none⟩) 8 c4) w9
              clear hq ho4 hk9
              go_wp2_with fail
              clear hfld
              go_loopw [24] (fun i wx => ∃ q : Nat, q ≤ 8 ∧ i = .int .i64 q ∧ Keeps [] w9 wx) (fun i _ => 8 - (intOf i).toNat)
              case atStart => exact ⟨0, by decide, rfl, Keeps.refl _ _⟩
              case round =>
                obtain ⟨q, hq8, rfl, hk⟩ := hrel
                have HKX := Lib.hid hk
                clear hk
                by_cases hlq : (q : Int) < 8
                · have q0 : (0 : Int) ≤ (q : Int) := by omega
                  have hw2 : W.length = 2 * Hd'.length := by rw [HLD.out]; exact HLN.out.2
                  obtain ⟨m0, m1, m2, m3, m4, m5, m6, m7⟩ := slC_get Hd' W q hw2 (by rw [HLD.out]; omega)
                  have hll := slC_len hw2
                  rw [HLD.out] at hll
                  have hc : ∀ i u, (slC Hd' W)[i]? = some u → wr.cell? ⟨a2, i, none⟩ = some u ∧ wr.cell? ⟨a4, i, none⟩ = some u := fun i u hu => by
                    have hi := (List.getElem?_eq_some_iff.1 hu).1
                    rw [hll] at hi
                    exact ⟨((own_keeps HROW.out (HK9.out.trans HKX.out (by simp)) (by simp)).cellAt i (by omega)).trans hu, ((own_keeps HO4.out HKX.out (by simp)).cellAt i (by omega)).trans hu⟩
                  obtain ⟨x, hx⟩ : ∃ x, hd Hd' (q : Int) = x := ⟨_, rfl⟩
                  obtain ⟨y0, hy0⟩ : ∃ x, wd W (q : Int) 0 = x := ⟨_, rfl⟩
                  obtain ⟨y1, hy1⟩ : ∃ x, wd W (q : Int) 1 = x := ⟨_, rfl⟩
                  rw [hx] at m0 m1 m2 m3 m4 m5
                  rw [hy0] at m6
                  rw [hy1] at m7
                  obtain ⟨b0, d0⟩ := hc _ _ m0
                  obtain ⟨b1, d1⟩ := hc _ _ m1
                  obtain ⟨b2, d2⟩ := hc _ _ m2
                  obtain ⟨b3, d3'⟩ := hc _ _ m3
                  obtain ⟨b4, d4⟩ := hc _ _ m4
                  obtain ⟨b5, d5⟩ := hc _ _ m5
                  obtain ⟨b6, d6⟩ := hc _ _ m6
                  obtain ⟨b7, d7⟩ := hc _ _ m7
                  have hss := fun w => slot_same w x.gen x.state x.stamp x.thread x.doomed x.who y0 y1
                  clear hc m0 m1 m2 m3 m4 m5 m6 m7 hll hw2 hx hy0 hy1
                  go_wp2_with fail
                  go_quiet (fail)
                  go_wp2_with fail
                  exact ⟨⟨q + 1, by omega, by simp, by first | exact HKX.out.drew | exact HKX.out.drewN _⟩, by simp [intOf]; omega⟩
                · have HKY : Hid (Keeps [] w8b wr) := HK9.out.trans HKX.out (by simp)
                  have h1 := QDn.out wr HKY.out
                  have Q1 : Hid (Calls Try.prog 48 #[PT d] wr fun e w' => e = .returned (.bool true) ∧ wr = w') := h1
                  have Q2 : Hid (Calls Try.prog 50 #[PT d] wr fun e w' => ∃ v, e = .returned v ∧ NewRow 101 4 fs.length (vcCells fs) [] wr w' v) := QDd.out wr HKY.out
                  clear h1
                  go_wp2_with fail
                  refine Q1.out.mono ?_
                  rintro e wq ⟨rfl, rfl⟩
                  go_wp2_with fail
                  refine Q2.out.mono ?_
                  rintro e w10 ⟨v10, rfl, ho10, hk10⟩
                  obtain ⟨A10, c10, rfl⟩ := own_form ho10
                  have Q3 := Lib.hid (vc_same_yes w10 (.slice A10 fs.length c10) (.slice A3 fs.length c3) fs fs.length rfl (by omega) (own_base ho10 (fun _ _ => Nat.zero_le _)) (own_keeps HWNT.out (HKY.out.trans hk10 (by simp)) (by simp)))
                  have HKZ : Hid (Keeps [] w8b w10) := HKY.out.trans hk10 (by simp)
                  clear ho10 hk10 Q1 Q2
                  go_wp2_with fail
                  refine Q3.out.mono ?_
                  rintro e w11 ⟨rfl, hk11⟩
                  have HKF : Hid (Keeps [] w w11) := HKB.out.trans (HKE.out.trans (HKZ.out.trans hk11 (by simp)) (by simp)) (by simp)
                  clear hk11
                  go_wp2_with fail
                  go_ret
                  exact ⟨rfl, HKF.out.below (by simp) (Nat.le_refl _)⟩

theorem own : ownKnob Try.prog.godebug = none := by kernel_rfl
theorem laidOut : laidOutB Try.prog = true := by kernel_rfl

set_option maxRecDepth 100000 in
theorem lifted (os : Os) (started : os.Started) (H : Type) (enc : TypeId × Value → H) :
    ReturnsInHanded {} Try.checked os 8 .any (Rows.lookFindsSpec.pre6 enc Try.prog Try.f8 Rows.lookFindsRow.domain false) (Rows.lookFindsSpec.post enc Try.prog Try.f8 false true false false) := by
  refine returnsInHanded_of_change (C := Try.checked) own started (by kernel_rfl) Try.func8
    (ChangeSpec.witness6 (enc := enc) (C := Try.checked) false ⟨#[], #[.int .i64 0, .agg #[.int .u64 0, .int .u64 0], .slice none 0 0], []⟩ 8 (by kernel_rfl) (by kernel_rfl) (by kernel_rfl) (by kernel_rfl)) ?_
  intro W base args ds gs before hval0 hW hcnd _
  have hval : ∀ (j : Nat) t v, Try.f8.params[j]? = some t → args[j]? = some v → Value.okWide Try.prog W .any base t v := hval0
  have hW' := hW
  obtain ⟨p, q, hA0, hV, rfl, hfz, hnd⟩ := hW
  have hA : DataW.TrodAll enc Try.prog W 0 (fun _ => true) true Try.f8.params.toList args.toList ds p := hA0
  rw [Try.params8] at hA hval
  obtain ⟨v0, vs0, d0, ds0, p0, q0, hargs, rfl, rfl, h0, r0⟩ := trodAll_cons hA
  obtain ⟨v1, vs1, d1, ds1, p1, q1, rfl, rfl, rfl, h1, r1⟩ := trodAll_cons r0
  obtain ⟨v2, vs2, d2, ds2, p2, q2, rfl, rfl, rfl, h2, r2⟩ := trodAll_cons r1
  obtain ⟨rfl, rfl, rfl⟩ := trodAll_nil r2
  obtain rfl : args = #[v0, v1, v2] := by cases args; simp_all
  obtain ⟨rfl, rfl⟩ := trodVars_none hV
  obtain ⟨a0, rfl, rfl, rfl, w0⟩ := open_int Try.underlying3 (hval 0 3 v0 rfl rfl) h0
  have k1 := h1
  have lt1 : ∀ x ∈ p1, x.block < W.heap.size := by obtain ⟨m, hm⟩ := k1; exact DataW.trod_lt m _ _ _ hm
  obtain ⟨sg1, rfl, so1⟩ := sig_open (hval 1 57 v1 rfl rfl) h1
  have k2 := h2
  have lt2 : ∀ x ∈ p2, x.block < W.heap.size := by obtain ⟨m, hm⟩ := k2; exact DataW.trod_lt m _ _ _ hm
  obtain ⟨A2, n2, c2, rfl⟩ := okWide_slice Try.underlying92 (hval 2 92 v2 rfl rfl)
  obtain ⟨fl2, hf2⟩ := h2
  obtain ⟨l2, s2⟩ := lstSeat_open hf2
  clear hA0 hval0
  refine (walk a0 sg1 A2 n2 c2 l2 W w0 so1 s2).mono fun e W' ⟨he, bel⟩ => ?_
  subst he
  exact ⟨_, rfl, _, _, _, [], _, [], hW', trodAll_mk1 (shut_bool Try.underlying4 _), (trodAll_cons_mk (shut_int Try.underlying3 w0) (trodAll_cons_mk (Below.trod laidOut (by kernel_rfl) (of_decide_eq_true (by kernel_rfl)) k1 bel lt1) (trodAll_cons_mk (Below.trod laidOut (by kernel_rfl) (of_decide_eq_true (by kernel_rfl)) k2 bel lt2) trodAll_mk0))), rfl, bel.frame _, fun h => by cases h⟩

theorem over : Rows.lookFindsRow.holds Try.pinned (OpenSpec.ofChange Rows.lookFindsSpec) :=
  OpenClaim.holds_of_wide 8 Try.f8 rfl rfl rfl rfl rfl rfl rfl ⟨rfl, rfl, rfl, rfl, rfl⟩ rfl rfl rfl rfl rfl (by kernel_rfl) Try.func8 (by kernel_rfl)
    (of_decide_eq_true (by kernel_rfl)) (by unfold Func.isWrapper; first | (rw [if_pos (by decide +kernel)]; kernel_rfl) | (rw [if_neg (by decide +kernel)]; exact ⟨rfl, rfl⟩))
    (fun os started H enc _ => lifted os started H enc)

/-- The statement. -/
theorem proved : Rows.LookFindsSaid := over
#print axioms proved
end Go.Proofs.Ytnednminpmiojaa.lookFinds
