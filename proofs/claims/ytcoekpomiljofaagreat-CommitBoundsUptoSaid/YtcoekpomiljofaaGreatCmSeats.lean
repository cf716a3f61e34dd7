/- quashlaw13.seats: a space's slots from 1 on are laid; as a function. -/
import Derived.Test.YtcoekpomiljofaaGreatOpenS
import Derived.Test.YtcoekpomiljofaaGreatCmMost
import Derived.Test.YtcoekpomiljofaaGreatSlotsRaw
namespace Go.Proofs.YtcoekpomiljofaaGreat
open Go.ChangeShapes Go.WideShapes Go.Deep Go.RowKit
set_option linter.unusedVariables false
set_option linter.unusedSimpArgs false
structure ElSea13 where
  live : Bool
  doomed : Bool
  stamp : Int
  words : Sg
instance : Inhabited ElSea13 := ⟨⟨false, false, 0, ⟨0, 0⟩⟩⟩
def ElSea13.cells (p : ElSea13) : List Value := [.bool p.live, .bool p.doomed, .int .i64 p.stamp, .int .u64 (p.words.a : Int), .int .u64 (p.words.b : Int)]
/-- The element in the block b from the offset o on. -/
structure ElSea13.At (w : World) (b o : Nat) (p : ElSea13) : Prop where
  c0 : w.cell? ⟨b, o, none⟩ = some (.bool p.live)
  c1 : w.cell? ⟨b, o + 1, none⟩ = some (.bool p.doomed)
  c2 : w.cell? ⟨b, o + 2, none⟩ = some (.int .i64 p.stamp)
  c3 : w.cell? ⟨b, o + 3, none⟩ = some (.int .u64 (p.words.a : Int))
  c4 : w.cell? ⟨b, o + 4, none⟩ = some (.int .u64 (p.words.b : Int))
  w0 : (Lit.int IntKind.i64 p.stamp).wf = true
  w1 : p.words.ok
/-- A slice of them. -/
def LstSea13 (w : World) (A : Option Addr) (n cap : Nat) (l : List ElSea13) : Prop :=
  l.length = n ∧ n ≤ cap ∧ cap ≤ maxLen ∧ (0 < n → ∃ b off, A = some ⟨b, off, none⟩ ∧ b < w.heap.size ∧ ∀ i p, l[i]? = some p → ElSea13.At w b (off + i * 5) p)
theorem ElSea13.At.keeps {w w' : World} {b o : Nat} {p : ElSea13} (h : ElSea13.At w b o p) (hb : b < w.heap.size) (hk : Keeps [] w w') : ElSea13.At w' b o p := by
  have hc : ∀ o, w'.cell? ⟨b, o, none⟩ = w.cell? ⟨b, o, none⟩ := fun o => World.cell?_of_block (hk.block b hb (by simp))
  obtain ⟨h0, h1, h2, h3, h4, k0, k1⟩ := h
  exact ⟨(hc _).trans h0, (hc _).trans h1, (hc _).trans h2, (hc _).trans h3, (hc _).trans h4, k0, k1⟩
theorem LstSea13.at_ {w : World} {A : Option Addr} {n cap : Nat} {l : List ElSea13} (h : LstSea13 w A n cap l) {k : Nat} (hk : k < n) :
    ∃ b off p, A = some ⟨b, off, none⟩ ∧ l[k]? = some p ∧ ∀ w', Keeps [] w w' → ElSea13.At w' b (off + k * 5) p := by
  obtain ⟨hl, _, _, h⟩ := h
  obtain ⟨b, off, hA, hb, hc⟩ := h (by omega)
  have hx : l[k]? = some (l[k]'(by omega)) := List.getElem?_eq_getElem (by omega)
  exact ⟨b, off, _, hA, hx, fun w' hw => (hc k _ hx).keeps hb hw⟩
section
variable {H : Type} {enc : TypeId × Value → H} {w : World} {base : Nat} {spare : Nat → Bool} {held : Bool}
theorem elSea13_open {n : Nat} {cs : List Value} {y : DataW H × List MemPlace} (hl : cs.length = 5) (h : DataW.trod enc Tryz.prog w base spare held n 178 cs = some y) : ∃ p : ElSea13, cs = p.cells ∧ (Lit.int IntKind.i64 p.stamp).wf = true ∧ p.words.ok := by
  obtain ⟨c0, c1, c2, c3, c4, rfl⟩ : ∃ c0 c1 c2 c3 c4, cs = [c0, c1, c2, c3, c4] := by
    match cs, hl with
    | [c0, c1, c2, c3, c4], _ => exact ⟨_, _, _, _, _, rfl⟩
  obtain ⟨n0, y0, t0⟩ := trod_field Tryz.underlying178 h 0 _ rfl 1 (by kernel_rfl) [c0] rfl
  obtain ⟨x0, e0, _⟩ := DataW.trod_bool Tryz.underlying4 t0
  simp at e0
  obtain ⟨n1, y1, t1⟩ := trod_field Tryz.underlying178 h 1 _ rfl 1 (by kernel_rfl) [c1] rfl
  obtain ⟨x1, e1, _⟩ := DataW.trod_bool Tryz.underlying4 t1
  simp at e1
  obtain ⟨n2, y2, t2⟩ := trod_field Tryz.underlying178 h 2 _ rfl 1 (by kernel_rfl) [c2] rfl
  obtain ⟨x2, e2, _, q2⟩ := DataW.trod_int Tryz.underlying3 t2
  simp at e2
  obtain ⟨n3, y3, t3⟩ := trod_field Tryz.underlying178 h 3 _ rfl 2 (by kernel_rfl) [c3, c4] rfl
  obtain ⟨s3, u3, m3, _, p3, q3⟩ := trod_array2 Tryz.arrSig.hu Tryz.arrSig.one t3
  obtain ⟨x3, e3, _, wa3⟩ := DataW.trod_int Tryz.underlying76 p3
  obtain ⟨z3, g3, _, wb3⟩ := DataW.trod_int Tryz.underlying76 q3
  simp at e3 g3
  obtain ⟨a3, rfl, ha3⟩ := wf_u64 wa3
  obtain ⟨b3, rfl, hb3⟩ := wf_u64 wb3
  exact ⟨⟨x0, x1, x2, ⟨a3, b3⟩⟩, by rw [e0, e1, e2, e3, g3]; rfl, q2, ⟨ha3, hb3⟩⟩
theorem lstSea13_open {fuel : Nat} {A : Option Addr} {n cap : Nat} {x : DataW H × List MemPlace} (h : DataW.trod enc Tryz.prog w base spare held fuel 65 [.slice A n cap] = some x) : ∃ l, LstSea13 w A n cap l := by
  rcases open_els Tryz.underlying65 (C := 5) (by kernel_rfl) h with hcs | ⟨a, len, c, hcs, hl, hm, hf⟩
  · simp at hcs
    obtain ⟨rfl, rfl, rfl⟩ := hcs
    exact ⟨[], rfl, Nat.le_refl _, by decide, fun h => absurd h (by omega)⟩
  · simp at hcs
    obtain ⟨rfl, rfl, rfl⟩ := hcs
    have one : ∀ i, i < n → ∃ p : ElSea13, (i = 0 → a = ⟨a.block, a.off, none⟩) ∧ a.block < w.heap.size ∧ ElSea13.At w a.block (a.off + i * 5) p := by
      intro i hi
      obtain ⟨m, cs', y, hlen, hcell, ht⟩ := hf i hi
      obtain ⟨p, rfl, v0, v1⟩ := elSea13_open hlen ht
      have k0 := hcell 0 _ rfl
      refine ⟨p, fun hi0 => ?_, ?_, ?_⟩
      · subst hi0; exact addrNone (by simpa using k0)
      · have := World.block_lt_of_cell? w _ k0
        rwa [block_add] at this
      · exact ⟨addAt (hcell 0 _ rfl), addAt (hcell 1 _ rfl), addAt (hcell 2 _ rfl), addAt (hcell 3 _ rfl), addAt (hcell 4 _ rfl), v0, v1⟩
    obtain ⟨F, hF⟩ := choose_lt one
    refine ⟨(List.range n).map F, by simp, hl, hm, fun hn => ⟨a.block, a.off, ?_, (hF 0 hn).2.1, ?_⟩⟩
    · exact congrArg some ((hF 0 hn).1 rfl)
    · intro i p hp
      rw [List.getElem?_map] at hp
      by_cases hi : i < n
      · rw [List.getElem?_range hi] at hp
        simp at hp
        subst hp
        exact (hF i hi).2.2
      · rw [List.getElem?_eq_none (by simp; omega)] at hp
        cases hp
end
end Go.Proofs.YtcoekpomiljofaaGreat

namespace Go.Proofs.YtcoekpomiljofaaGreat
open Go.RowKit
set_option linter.unusedVariables false
set_option linter.unusedSimpArgs false
/-- One seat is laid. -/
def seat1 (S : Sp) (a : Int) (p : ElSea13) : Sp :=
  if p.live then
    if p.doomed then (((((S.claim a (1 + a)).2.put a 0 p.words.a).2.put a 1 p.words.b).2.ready a 1 (1 + p.stamp % 1024)).2.doom a 1 8).2
    else ((((S.claim a (1 + a)).2.put a 0 p.words.a).2.put a 1 p.words.b).2.ready a 1 (1 + p.stamp % 1024)).2
  else (((S.claim a (1 + a)).2.put a 0 p.words.a).2.put a 1 p.words.b).2
def seatsF (S : Sp) (l : List ElSea13) : Nat → Sp
  | 0 => S
  | i + 1 => match l[i]? with
    | none => seatsF S l i
    | some p => seat1 (seatsF S l i) ((i : Int) + 1) p
def rnds (n : Nat) : Nat := if n < 7 then n else 7
def LstSea (w : World) (A : Option Addr) (n cap : Nat) (l : List ElSea13) : Prop := LstSea13 w A n cap l
/-- What a call at slot a leaves of the rest. -/
structure Bes (a : Int) (S S' : Sp) : Prop where
  c : S'.c = S.c
  g : S'.gate = S.gate
  C : S'.cells = S.cells
  len : S'.H.length = S.H.length
  oth : ∀ t : Int, t.toNat ≠ a.toNat → S'.H[t.toNat]? = S.H[t.toNat]?
theorem Bes.refl (a : Int) (S : Sp) : Bes a S S := ⟨rfl, rfl, rfl, rfl, fun _ _ => rfl⟩
theorem Bes.trans {a : Int} {S1 S2 S3 : Sp} (h : Bes a S1 S2) (g : Bes a S2 S3) : Bes a S1 S3 := ⟨g.c.trans h.c, g.g.trans h.g, g.C.trans h.C, g.len.trans h.len, fun t ht => (g.oth t ht).trans (h.oth t ht)⟩
theorem bes_set (a : Int) (S : Sp) (k p o : Int) (b : Bool) (x : Hd) : Bes a S { S.acc k p o b with H := S.H.set a.toNat x } :=
  ⟨rfl, rfl, rfl, by simp, fun t ht => by show (S.H.set a.toNat x)[t.toNat]? = _; rw [List.getElem?_set_ne (Ne.symm ht)]⟩
theorem bes_claim (S : Sp) (a t : Int) : Bes a S (S.claim a t).2 := by
  unfold Sp.claim
  split
  · exact .refl _ _
  · split
    · exact .refl _ _
    · split
      · exact bes_set _ _ _ _ _ _ _
      · exact ⟨rfl, rfl, rfl, rfl, fun _ _ => rfl⟩
theorem bes_ready (S : Sp) (a g t : Int) : Bes a S (S.ready a g t).2 := by
  unfold Sp.ready
  split
  · exact .refl _ _
  · split
    · exact .refl _ _
    · split
      · exact bes_set _ _ _ _ _ _ _
      · exact ⟨rfl, rfl, rfl, rfl, fun _ _ => rfl⟩
theorem bes_doom (S : Sp) (a g t : Int) : Bes a S (S.doom a g t).2 := by
  unfold Sp.doom
  split
  · exact .refl _ _
  · split
    · exact .refl _ _
    · split
      · exact bes_set _ _ _ _ _ _ _
      · exact ⟨rfl, rfl, rfl, rfl, fun _ _ => rfl⟩
theorem bes_free (S : Sp) (a g : Int) : Bes a S (S.free a g).2 := by
  unfold Sp.free
  split
  · exact .refl _ _
  · split
    · exact bes_set _ _ _ _ _ _ _
    · exact ⟨rfl, rfl, rfl, rfl, fun _ _ => rfl⟩
theorem bes_put (S : Sp) (a j x : Int) : Bes a S (S.put a j x).2 := by
  unfold Sp.put
  split
  · exact .refl _ _
  · exact ⟨rfl, rfl, rfl, rfl, fun _ _ => rfl⟩
theorem seat1_bes (S : Sp) (a : Int) (p : ElSea13) : Bes a S (seat1 S a p) := by
  have h3 := ((bes_claim S a (1 + a)).trans (bes_put _ a 0 p.words.a)).trans (bes_put _ a 1 p.words.b)
  unfold seat1
  split
  · split
    · exact (h3.trans (bes_ready _ a 1 _)).trans (bes_doom _ a 1 8)
    · exact h3.trans (bes_ready _ a 1 _)
  · exact h3
theorem seat1_wu {S : Sp} (h : S.wu) (a : Int) (p : ElSea13) (hp : p.words.ok) : (seat1 S a p).wu := by
  have h1 : (S.claim a (1 + a)).2.wu := Sp.wu_of h (S.claim_W a _).1
  have h2 := (Sp.put_wu h1 a 0 p.words.a ⟨Int.natCast_nonneg _, by have := hp.1; omega⟩).1
  have h3 := (Sp.put_wu h2 a 1 p.words.b ⟨Int.natCast_nonneg _, by have := hp.2; omega⟩).1
  unfold seat1
  split
  · split
    · exact Sp.wu_of (Sp.wu_of h3 (Sp.ready_W _ a 1 _).1) (Sp.doom_W _ a 1 8).1
    · exact Sp.wu_of h3 (Sp.ready_W _ a 1 _).1
  · exact h3
/-- What laying leaves: slot 0 and all that is no slot. -/
structure Lay (S S' : Sp) : Prop where
  c : S'.c = S.c
  g : S'.gate = S.gate
  C : S'.cells = S.cells
  len : S'.H.length = S.H.length
  own : S'.H[0]? = S.H[0]?
theorem seatsF_lay (S : Sp) (l : List ElSea13) : ∀ i, Lay S (seatsF S l i)
  | 0 => ⟨rfl, rfl, rfl, rfl, rfl⟩
  | i + 1 => by
    have h := seatsF_lay S l i
    unfold seatsF
    split
    · exact h
    · rename_i p hp
      have g := seat1_bes (seatsF S l i) ((i : Int) + 1) p
      exact ⟨g.c.trans h.c, g.g.trans h.g, g.C.trans h.C, g.len.trans h.len, (g.oth 0 (by omega)).trans h.own⟩
theorem seatsF_wu {S : Sp} (h : S.wu) (l : List ElSea13) (hl : ∀ p, p ∈ l → p.words.ok) : ∀ i, (seatsF S l i).wu
  | 0 => h
  | i + 1 => by
    have ih := seatsF_wu h l hl i
    unfold seatsF
    split
    · exact ih
    · rename_i p hp
      exact seat1_wu ih _ p (hl p (List.mem_of_getElem? hp))
section
variable {w0 w w' : World} {z : Sb} {F : List Nat} {S : Sp} {k : Nat}
theorem seat1_fit (h : Fit k S) (a : Int) (p : ElSea13) : Fit (k + 5) (seat1 S a p) := by
  have h3 := ((h.claim a (1 + a)).put a 0 p.words.a).put a 1 p.words.b
  unfold seat1
  split
  · split
    · exact (h3.ready a 1 _).doom a 1 8
    · exact (h3.ready a 1 _).wide (by omega)
  · exact h3.wide (by omega)
theorem seatsF_fit (h : Fit k S) (l : List ElSea13) : ∀ i, Fit (k + 5 * i) (seatsF S l i)
  | 0 => h
  | i + 1 => by
    unfold seatsF
    split
    · exact (seatsF_fit h l i).wide (by omega)
    · have := seat1_fit (seatsF_fit h l i) ((i : Int) + 1) (by assumption)
      exact this.wide (by omega)
set_option maxRecDepth 100000 in
set_option maxHeartbeats 8000000 in
theorem seats_any (hs : SP w0 w z F S) (hf : Fit k S) (hk : k ≤ 1000) (h8 : S.H.length = 8) (A : Option Addr) (n cap : Nat) (l : List ElSea13) (hn : l.length = n) (hcap : n ≤ cap) (hmx : cap ≤ maxLen) (hl : ∀ w', Keeps F w w' → LstSea13 w' A n cap l) :
    Calls Tryz.prog 27 #[PT z.p, .slice A n cap] w fun e w' => e = .returned (.tuple #[]) ∧ Went w0 w w' z F (seatsF S l (rnds n)) := by
  have HS := Lib.hid hs
  have HF := Lib.hid hf
  have HL := Lib.hid hl
  have HH := Lib.hid (And.intro h8 hn)
  unfold maxLen at hmx
  clear hs hf hl h8 hn
  go_enter Tryz.func27, Tryz.ntmps27
  go_wp2_with fail
  refine (sp_slots HS.out).mono ?_
  rintro e wq ⟨rfl, rfl⟩
  go_wp2_with fail
  go_loopw [5, 6] (fun i st wr => ∃ (j : Nat) (F' : List Nat), j ≤ n ∧ j ≤ 7 ∧ i = .int .i64 j ∧ SP w0 wr z F' (seatsF S l j) ∧ Keeps F w wr ∧ (∀ q, q ∈ F' → q ∈ F ∨ w.heap.size ≤ q)) (fun i _ _ => 8 - (intOf i).toNat)
  case atStart => exact ⟨0, F, Nat.zero_le _, by decide, rfl, HS.out, Keeps.refl _ _, fun q hq => .inl hq⟩
  case round =>
    obtain ⟨j, F', hj, hj7, rfl, hr, hkr, hgr⟩ := hrel
    have hlen : (seatsF S l j).H.length = 8 := (seatsF_lay S l j).len.trans HH.out.1
    have HR := Lib.hid hr
    have HG := Lib.hid (And.intro hlen (And.intro hkr hgr))
    have HF1 := Lib.hid (seatsF_fit HF.out l j)
    have hln := sp_len hr
    rw [hlen] at hln
    have HLN := Lib.hid hln
    clear hr hlen hkr hgr hln HS
    rename_i wr
    have q0 : (0 : Int) ≤ (j : Int) := by omega
    have w1 : IntKind.i64.wrap ((j : Int) + 1) = (j : Int) + 1 := by rw [IntKind.wrap_i64]; omega
    have w2 : IntKind.i64.wrap (1 + ((j : Int) + 1)) = 1 + ((j : Int) + 1) := by rw [IntKind.wrap_i64]; omega
    by_cases hlt : (j : Int) < (n : Int)
    · have hd : decide ((j : Int) < (n : Int)) = true := by simpa using hlt
      go_wp2_with fail
      refine HLN.out.mono ?_
      rintro e wq ⟨rfl, rfl⟩
      clear HLN
      by_cases h7 : (j : Int) + 1 < 8
      · have hd7 : decide ((j : Int) + 1 < 8) = true := by simpa using h7
        obtain ⟨p, hp⟩ : ∃ p, l[j]? = some p := ⟨_, List.getElem?_eq_getElem (by have := HH.out.2; omega)⟩
        have HP := Lib.hid hp
        have HAT : Hid (∀ w', Keeps F w w' → ∃ b off, A = some ⟨b, off, none⟩ ∧ ElSea13.At w' b (off + j * 5) p) := fun w' hk => by
          obtain ⟨b, off, p', hA, hp', hat⟩ := (HL.out w' hk).at_ (k := j) (by omega)
          rw [HP.out] at hp'
          injection hp' with hp'
          subst hp'
          exact ⟨b, off, hA, hat w' (Keeps.refl _ _)⟩
        obtain ⟨b, off, rfl, hat⟩ := HAT.out wr HG.out.2.1
        have HAU : Hid (∀ w', Keeps F w w' → ElSea13.At w' b (off + j * 5) p) := fun w' hk => by
          obtain ⟨b', off', hA, hat⟩ := HAT.out w' hk
          injection hA with hA
          injection hA with h1 h2
          subst h1 h2
          exact hat
        have hu := hat.w1
        have HU0 : Hid (isU (p.words.a : Int) ∧ isU (p.words.b : Int)) := ⟨⟨Int.natCast_nonneg _, by have := hu.1; omega⟩, ⟨Int.natCast_nonneg _, by have := hu.2; omega⟩⟩
        have hst : seatsF S l (j + 1) = seat1 (seatsF S l j) ((j : Int) + 1) p := by show (match l[j]? with | none => _ | some p => _) = _; rw [HP.out]
        obtain ⟨live, doomed, stamp, words⟩ := p
        have HST := Lib.hid hst
        clear hst hat hu hp HAT
        have h10 := i64_and1023 stamp
        obtain ⟨sm, hs, hs0, hs7⟩ : ∃ q : Int, stamp % 1024 = q ∧ 0 ≤ q ∧ q ≤ 1023 := ⟨_, rfl, by omega, by omega⟩
        rw [hs] at h10
        have HSM := Lib.hid hs
        have w10 : IntKind.i64.wrap (1 + sm) = 1 + sm := by rw [IntKind.wrap_i64]; omega
        have hb : Hid (k + 5 * j + 5 ≤ 1099511627776) := by unfold Hid; omega
        clear hs
        obtain ⟨S1, hS1⟩ : ∃ q, seatsF S l j = q := ⟨_, rfl⟩
        rw [hS1] at HR HF1 HST HG
        clear hS1
        go_wp2_with fail
        refine (sp_claim HR.out HF1.out (by have := hb.out; omega) ((j : Int) + 1) (1 + ((j : Int) + 1))).mono ?_
        rintro e wp1 ⟨rfl, F1, hr, k1, n1⟩
        replace HF1 := Lib.hid (HF1.out.claim ((j : Int) + 1) (1 + ((j : Int) + 1)))
        replace HG := Lib.hid (And.intro HG.out.1 (And.intro (HG.out.2.1.trans k1 HG.out.2.2) (show ∀ q, q ∈ F1 → q ∈ F ∨ w.heap.size ≤ q from fun q hq => (n1 q hq).elim (HG.out.2.2 q) (fun h => .inr (Nat.le_trans HG.out.2.1.size h)))))
        replace HR := Lib.hid hr
        clear hr k1 n1
        obtain ⟨e0, e1, e2, e3, e4, _, _⟩ := HAU.out wp1 HG.out.2.1
        simp only at e0 e1 e2 e3 e4
        go_wp2_with fail
        refine (sp_put HR.out HF1.out (by have := hb.out; omega) ((j : Int) + 1) 0 words.a).mono ?_
        rintro e wp2 ⟨rfl, F1, hr, k1, n1⟩
        replace HF1 := Lib.hid (HF1.out.put ((j : Int) + 1) 0 words.a)
        replace HG := Lib.hid (And.intro HG.out.1 (And.intro (HG.out.2.1.trans k1 HG.out.2.2) (show ∀ q, q ∈ F1 → q ∈ F ∨ w.heap.size ≤ q from fun q hq => (n1 q hq).elim (HG.out.2.2 q) (fun h => .inr (Nat.le_trans HG.out.2.1.size h)))))
        replace HR := Lib.hid hr
        clear hr k1 n1
        clear e0 e1 e2 e3 e4
        obtain ⟨e0, e1, e2, e3, e4, _, _⟩ := HAU.out wp2 HG.out.2.1
        simp only at e0 e1 e2 e3 e4
        go_wp2_with fail
        refine (sp_put HR.out HF1.out (by have := hb.out; omega) ((j : Int) + 1) 1 words.b).mono ?_
        rintro e wp3 ⟨rfl, F1, hr, k1, n1⟩
        replace HF1 := Lib.hid (HF1.out.put ((j : Int) + 1) 1 words.b)
        replace HG := Lib.hid (And.intro HG.out.1 (And.intro (HG.out.2.1.trans k1 HG.out.2.2) (show ∀ q, q ∈ F1 → q ∈ F ∨ w.heap.size ≤ q from fun q hq => (n1 q hq).elim (HG.out.2.2 q) (fun h => .inr (Nat.le_trans HG.out.2.1.size h)))))
        replace HR := Lib.hid hr
        clear hr k1 n1
        clear e0 e1 e2 e3 e4
        obtain ⟨e0, e1, e2, e3, e4, _, _⟩ := HAU.out wp3 HG.out.2.1
        simp only at e0 e1 e2 e3 e4
        cases live
        · as_aux_lemma =>
            go_wp2_with fail
            have hst := HST.out
            unfold seat1 at hst
            simp only [if_true, HSM.out, Bool.false_eq_true, if_false] at hst
            exact ⟨⟨j + 1, F1, by omega, by omega, by simp, by rw [hst]; exact HR.out, HG.out.2.1, HG.out.2.2⟩, by simp [intOf]; omega⟩
        · cases doomed
          · as_aux_lemma =>
              go_wp2_with fail
              refine (sp_ready HR.out HF1.out (by have := hb.out; omega) ((j : Int) + 1) 1 (1 + sm)).mono ?_
              rintro e wp4 ⟨rfl, F1, hr, k1, n1⟩
              replace HF1 := Lib.hid (HF1.out.ready ((j : Int) + 1) 1 (1 + sm))
              replace HG := Lib.hid (And.intro HG.out.1 (And.intro (HG.out.2.1.trans k1 HG.out.2.2) (show ∀ q, q ∈ F1 → q ∈ F ∨ w.heap.size ≤ q from fun q hq => (n1 q hq).elim (HG.out.2.2 q) (fun h => .inr (Nat.le_trans HG.out.2.1.size h)))))
              replace HR := Lib.hid hr
              clear hr k1 n1
              clear e0 e1 e2 e3 e4
              obtain ⟨e0, e1, e2, e3, e4, _, _⟩ := HAU.out wp4 HG.out.2.1
              simp only at e0 e1 e2 e3 e4
              go_wp2_with fail
              have hst := HST.out
              unfold seat1 at hst
              simp only [if_true, HSM.out, Bool.false_eq_true, if_false] at hst
              exact ⟨⟨j + 1, F1, by omega, by omega, by simp, by rw [hst]; exact HR.out, HG.out.2.1, HG.out.2.2⟩, by simp [intOf]; omega⟩
          · as_aux_lemma =>
              go_wp2_with fail
              refine (sp_ready HR.out HF1.out (by have := hb.out; omega) ((j : Int) + 1) 1 (1 + sm)).mono ?_
              rintro e wp4 ⟨rfl, F1, hr, k1, n1⟩
              replace HF1 := Lib.hid (HF1.out.ready ((j : Int) + 1) 1 (1 + sm))
              replace HG := Lib.hid (And.intro HG.out.1 (And.intro (HG.out.2.1.trans k1 HG.out.2.2) (show ∀ q, q ∈ F1 → q ∈ F ∨ w.heap.size ≤ q from fun q hq => (n1 q hq).elim (HG.out.2.2 q) (fun h => .inr (Nat.le_trans HG.out.2.1.size h)))))
              replace HR := Lib.hid hr
              clear hr k1 n1
              clear e0 e1 e2 e3 e4
              obtain ⟨e0, e1, e2, e3, e4, _, _⟩ := HAU.out wp4 HG.out.2.1
              simp only at e0 e1 e2 e3 e4
              go_wp2_with fail
              refine (sp_doom HR.out HF1.out (by have := hb.out; omega) ((j : Int) + 1) 1 8).mono ?_
              rintro e wp5 ⟨rfl, F1, hr, k1, n1⟩
              replace HF1 := Lib.hid (HF1.out.doom ((j : Int) + 1) 1 8)
              replace HG := Lib.hid (And.intro HG.out.1 (And.intro (HG.out.2.1.trans k1 HG.out.2.2) (show ∀ q, q ∈ F1 → q ∈ F ∨ w.heap.size ≤ q from fun q hq => (n1 q hq).elim (HG.out.2.2 q) (fun h => .inr (Nat.le_trans HG.out.2.1.size h)))))
              replace HR := Lib.hid hr
              clear hr k1 n1
              clear e0 e1 e2 e3 e4
              obtain ⟨e0, e1, e2, e3, e4, _, _⟩ := HAU.out wp5 HG.out.2.1
              simp only at e0 e1 e2 e3 e4
              go_wp2_with fail
              have hst := HST.out
              unfold seat1 at hst
              simp only [if_true, HSM.out, Bool.false_eq_true, if_false] at hst
              exact ⟨⟨j + 1, F1, by omega, by omega, by simp, by rw [hst]; exact HR.out, HG.out.2.1, HG.out.2.2⟩, by simp [intOf]; omega⟩
      · have hd7 : decide ((j : Int) + 1 < 8) = false := by simpa using h7
        have hj' : j = 7 := by omega
        go_wp2_with fail
        go_end0
        refine ⟨rfl, F', ?_, HG.out.2.1, HG.out.2.2⟩
        rw [show rnds n = j from by unfold rnds; split <;> omega]
        exact HR.out
    · have hd : decide ((j : Int) < (n : Int)) = false := by simpa using hlt
      have hj' : j = n := by omega
      go_wp2_with fail
      go_end0
      refine ⟨rfl, F', ?_, HG.out.2.1, HG.out.2.2⟩
      rw [show rnds n = j from by unfold rnds; split <;> omega]
      exact HR.out
end
end Go.Proofs.YtcoekpomiljofaaGreat
