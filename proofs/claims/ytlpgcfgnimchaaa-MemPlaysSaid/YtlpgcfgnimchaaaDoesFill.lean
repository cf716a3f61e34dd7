/- quashlaw01.does: Fill. -/
import Derived.Test.YtlpgcfgnimchaaaDoesAll
import Derived.Test.YtlpgcfgnimchaaaRefFill
import Derived.Test.YtlpgcfgnimchaaaSrc
import Derived.Deep.RegionHeld3
import Derived.Deep.DeepCutAuto
namespace Go.Proofs.Ytlpgcfgnimchaaa
open Go.RowKit
set_option linter.unusedVariables false

theorem left_row {R T : TypeId} (ty : RowI.Ty R T) {w w1 : World} {r b : Nat} {kind : Int} {mp : Option Nat} {l l1 : List Int} {lb : Nat} {s : MS} (hr : RowI.At R w r b kind mp l) (hm : MetAt T w mp lb s)
    (h1 : RowI.At R w1 r b kind mp l1) (hk : Keeps [b] w w1) : RowI.Left R T r b kind mp l1 lb s w w1 :=
  ⟨h1, lb, hm.keeps hk (fun q hq hq' => by simp at hq'; subst hq'; exact (hr.foot ty hm).2 hq), hk.mono (by simp), .inl rfl⟩

theorem ownsRow_new (w : World) (e size k : Nat) (hk : w.heap.size = k) : (w.alloc (.cells #[] e)).ownsRow 0 e size (.slice (some ⟨k, 0, none⟩) 0 0) 0 [] := by
  subst hk
  exact World.ownsRow_made _ _ _ (Nat.zero_le _) (by decide) (by simp)
theorem Ints.src {k : IntKind} {w w' : World} {A : Option Addr} {n cap : Nat} {xs : List Int} (h : Ints k w A n cap xs) (hk : Keeps [] w w') :
    0 < n → ∃ ad, A = some ad ∧ ∀ j u, (xs.map (Value.int k))[j]? = some u → w'.cell? (ad.add j) = some u := by
  obtain ⟨_, _, _, _, hc⟩ := h
  intro hn
  obtain ⟨ad, rfl, hlt, hc⟩ := hc hn
  exact ⟨ad, rfl, fun j u hu => (World.cell?_of_block (hk.block _ (by rw [block_add]; exact hlt) (by simp))).trans (hc j u hu)⟩

/-- What two appends behind a box leave. -/
theorem twice {w w1 w2 : World} {T e : TypeId} {cs : Array Value} {o2 o3 : Obj} {v1 : Value} {g2 cap2 n2 : Nat} {xs2 : List Value}
    (hg1 : ((w.alloc (.cells cs T)).alloc o2).grownBy w1 (some (w.heap.size + 1))) (hat1 : v1.ownBlock = some (w.heap.size + 1) ∨ v1.ownBlock = some ((w.alloc (.cells cs T)).alloc o2).heap.size)
    (hg2 : (w1.alloc o3).grownBy w2 v1.ownBlock) (hat2 : v1.ownBlock = some g2 ∨ g2 = (w1.alloc o3).heap.size) (hown2 : w2.ownsRow 0 e 1 (.slice (some ⟨g2, 0, none⟩) n2 cap2) n2 xs2) :
    Blk w2 w.heap.size T cs ∧ Keeps [] w w2 ∧ w.heap.size < g2 ∧ n2 ≤ cap2 := by
  have s1 := hg1.size
  simp only [World.size_alloc] at hat1 hat2 s1
  have hv : ∀ k, v1.ownBlock = some k → w.heap.size < k := by
    intro k hk
    rcases hat1 with e | e <;> rw [e] at hk <;> injection hk with hk <;> omega
  refine ⟨?_, ?_, ?_, ?_⟩
  · have b0 : Blk ((w.alloc (.cells cs T)).alloc o2) w.heap.size T cs := (Blk.new w T cs).alloc o2
    have b1 : Blk w1 w.heap.size T cs := b0.grown hg1 (by simp)
    exact (b1.alloc o3).grown hg2 (fun e => by have := hv _ e.symm; omega)
  · have k1 : Keeps [] w w1 := (((Keeps.refl [] w).alloc _).alloc _).grown hg1 (by simp)
    exact (k1.alloc _).grown hg2 (fun k hk => .inr (Nat.le_of_lt (hv k hk)))
  · rcases hat2 with e | e
    · exact hv _ e
    · omega
  · rcases hown2.2 with ⟨e, _⟩ | ⟨_, c, _, e, _, _, h, _⟩
    · cases e
    · simp at e; omega

theorem Stepped.later {w w1 w2 : World} {g lb gx lbx r b ry bx : Nat} {kind : Int} {l : List Int} {s : MS} (h : Stepped g lb gx lbx r b ry bx kind l s w w1) (hk : Keeps [] w1 w2) : Stepped g lb gx lbx r b ry bx kind l s w w2 := by
  obtain ⟨lb', lbx', l', s', k1, k2, k3, k4, k5, k6⟩ := h
  exact ⟨lb', lbx', l', s', ⟨k1.row.keeps hk (by simp) (by simp), k1.rox.keeps hk (by simp) (by simp), k1.met.keeps hk (by simp), k1.mex.keeps hk (by simp), k1.ne, k1.nb⟩, k2.trans hk (by simp), k3, k4, k5, k6⟩
/-- A store into a row that the step has made itself. -/
theorem Stepped.setNew {w w1 : World} {g lb gx lbx r b ry bx : Nat} {kind : Int} {l : List Int} {s : MS} (h : Stepped g lb gx lbx r b ry bx kind l s w w1) {q k : Nat} (hq : w.heap.size ≤ q) (h0 : Pair w g lb gx lbx r b ry bx kind l s)
    {cs : Array Value} (hb : Blk w1 q 2 cs) (u : Value) : Stepped g lb gx lbx r b ry bx kind l s w (w1.setCell ⟨q, k, none⟩ u) := by
  obtain ⟨lb', lbx', l', s', k1, k2, k3, k4, k5, k6⟩ := h
  have hlt := h0.lt
  have a1 := apart k1.met hb (by decide) (by decide)
  have a2 := apart k1.mex hb (by decide) (by decide)
  have hk : Keeps [q] w1 (w1.setCell ⟨q, k, none⟩ u) := (Keeps.refl _ _).setCell (.inl (by simp)) _
  have e1 : r ≠ q := k1.row.blk.ne_ hb (by decide)
  have e2 : ry ≠ q := k1.rox.blk.ne_ hb (by decide)
  have f1 : ∀ x, x ∈ foot (some g) lb' → x ∉ [q] := fun x hx hx' => by simp at hx'; subst hx'; exact a1 hx
  have f2 : ∀ x, x ∈ foot (some gx) lbx' → x ∉ [q] := fun x hx hx' => by simp at hx'; subst hx'; exact a2 hx
  exact ⟨lb', lbx', l', s', ⟨k1.row.keeps hk (by simpa using e1) (by simp; omega), k1.rox.keeps hk (by simpa using e2) (by simp; omega), k1.met.keeps hk f1, k1.mex.keeps hk f2, k1.ne, k1.nb⟩, k2.trans hk (by simp; exact .inr hq), k3, k4, k5, k6⟩
theorem blk_own {w : World} {base e size n g cap : Nat} {xs : List Value} (h : w.ownsRow base e size (.slice (some ⟨g, 0, none⟩) n cap) n xs) : ∃ cs, Blk w g e cs := by
  rcases h.2 with ⟨e, _⟩ | ⟨_, _, cur, e, _, hg, _⟩
  · cases e
  · simp at e
    obtain ⟨rfl, rfl⟩ := e
    exact ⟨cur, hg⟩

/-- What Fill answers, and what the row holds then. -/
def fillE (l xs : List Int) : Int := if xs.length ≤ l.length then 0 else 3
def fillL (l xs : List Int) : List Int := if xs.length ≤ l.length then xs ++ l.drop xs.length else l
theorem fillL_len (l xs : List Int) : (fillL l xs).length = l.length := by unfold fillL; split <;> simp; omega
theorem fill_prog (w : World) (r b : Nat) (kind : Int) (mp : Option Nat) (l : List Int) (hr : RowI.At RowI.R w r b kind mp l) (A : Option Addr) (c : Nat) (xs : List Int) (hm : xs.length ≤ maxLen)
    (hA : 0 < xs.length → ∃ ad, A = some ad ∧ ∀ j v, (xs.map (Value.int .i64))[j]? = some v → w.cell? (ad.add j) = some v) :
    Calls Try.prog 40 #[.pointer (some ⟨r, 0, none⟩), .slice A xs.length c] w fun e w' => e = .returned (.int .i64 (fillE l xs)) ∧ RowI.At RowI.R w' r b kind mp (fillL l xs) ∧ Keeps [b] w w' := by
  by_cases h : xs.length ≤ l.length
  · have := RowI.fill_ok w r b kind mp l hr A xs.length c xs rfl hA h
    simpa [fillE, fillL, h] using this
  · refine (RowI.fill_many w r b kind mp l hr A xs.length c (by omega) hm).mono fun e w' ⟨he, hw⟩ => ?_
    subst hw
    simpa [fillE, fillL, h, he] using hr
theorem fill_ref (w : World) (r b : Nat) (kind : Int) (mp : Option Nat) (l : List Int) (hr : RowI.At RefI.R w r b kind mp l) (A : Option Addr) (c : Nat) (xs : List Int) (hA : Slc w A xs) (hne : 0 < xs.length → ∀ ad, A = some ad → ad.block ≠ b) :
    Calls Try.prog 41 #[.pointer (some ⟨r, 0, none⟩), .slice A xs.length c] w fun e w' => e = .returned (.int .i64 (fillE l xs)) ∧ RowI.At RefI.R w' r b kind mp (fillL l xs) ∧ Keeps [b] w w' := by
  by_cases h : xs.length ≤ l.length
  · have := RefI.fill_ok w r b kind mp l hr A c xs hA hne h
    simpa [fillE, fillL, h] using this
  · refine (RefI.fill_many w r b kind mp l hr A xs.length c (by omega) hA.1).mono fun e w' ⟨he, hw⟩ => ?_
    subst hw
    simpa [fillE, fillL, h, he] using hr

/-- What holds behind both Fills: the list with two marks, the argument, the step's own box. -/
def Filled (w : World) (T : TypeId) (cs : Array Value) (g2 cap2 : Nat) (A : Option Addr) (xs : List Int) (wx : World) : Prop :=
  Blk wx w.heap.size T cs ∧ wx.ownsRow 0 2 1 (.slice (some ⟨g2, 0, none⟩) (xs.length + 2) cap2) (xs.length + 2) (xs.map (Value.int .i64) ++ [.int .i64 77, .int .i64 78]) ∧ Slc wx A xs ∧ w.heap.size < g2
theorem Filled.keeps {w : World} {T : TypeId} {cs : Array Value} {g2 cap2 : Nat} {A : Option Addr} {xs : List Int} {wx wy : World} {S : List Nat} (h : Filled w T cs g2 cap2 A xs wx) (hk : Keeps S wx wy) (hS : ∀ k, k ∈ S → k < w.heap.size) (hA : 0 < xs.length → ∀ ad, A = some ad → ad.block ∉ S) : Filled w T cs g2 cap2 A xs wy := by
  obtain ⟨h1, h2, ⟨h3, h4⟩, h5⟩ := h
  refine ⟨h1.keeps hk (fun hx => by have := hS _ hx; omega), own_keeps h2 hk (fun k hkk hx => ?_), ⟨h3, h4.imp id ?_⟩, h5⟩
  · simp [Value.ownBlock] at hkk; subst hkk; have := hS _ hx; omega
  · rintro ⟨b', off, rfl, hb', hc⟩
    exact ⟨b', off, rfl, Nat.lt_of_lt_of_le hb' hk.size, fun k y hy => (keeps_cell (p := ⟨b', off + k, none⟩) hk hb' (show b' ∉ S from hA (by have := (List.getElem?_eq_some_iff.1 hy).1; omega) ⟨b', off, none⟩ rfl)).trans (hc k y hy)⟩
theorem Filled.drewN {w : World} {T : TypeId} {cs : Array Value} {g2 cap2 : Nat} {A : Option Addr} {xs : List Int} {wx : World} (h : Filled w T cs g2 cap2 A xs wx) (n : Nat) : Filled w T cs g2 cap2 A xs (wx.drewN n) :=
  h.keeps (S := []) ((Keeps.refl _ _).drewN n) (by simp) (fun _ _ _ => by simp)

section
variable {w : World} {g lb gx lbx r b ry bx : Nat} {kind : Int} {l : List Int} {s : MS} (h : Pair w g lb gx lbx r b ry bx kind l s)
include h

set_option maxRecDepth 100000 in
set_option maxHeartbeats 1000000 in
theorem does_fill (other : Bool) (i x old : Int) (A : Option Addr) (n cap : Nat) (xs : List Int) (hA : Ints .i64 w A n cap xs) (hne : 0 < n → ∀ ad, A = some ad → ad.block ≠ b ∧ ad.block ≠ bx) (hn : n ≤ 17592186044000) :
    Calls Try.prog 26 (doesArgs g gx r ry other 5 i x old A n cap) w fun e w' => e = .returned (.bool true) ∧ Stepped g lb gx lbx r b ry bx kind l s w w' := by
  have H0 := Lib.hid h
  obtain ⟨hxn, _, _, _, hcells⟩ := id hA
  subst hxn
  have HA := Lib.hid hA
  have HC := Lib.hid hcells
  have HN := Lib.hid hne
  have hni : (xs.length : Int) ≤ 17592186044000 := by omega
  have h1 : ∀ u ∈ xs.map (Value.int .i64), u.oneCell' = true := by simp [Value.oneCell']
  have H1 := Lib.hid h1
  obtain ⟨i0, hi, hz0, hz1, hz2⟩ := info_parts RowI.Try.infoI
  have hmx : Hid (0 + xs.length ≤ maxLen) := by unfold Hid maxLen; omega
  have hby : Hid ((0 + xs.length) * 8 ≤ 140737488355328) := by unfold Hid; omega
  have hmx2 : Hid (0 + xs.length + 2 ≤ maxLen) := by unfold Hid maxLen; omega
  have hby2 : Hid ((0 + xs.length + 2) * 8 ≤ 140737488355328) := by unfold Hid; omega
  clear h hA hcells hne h1
  unfold doesArgs
  go_enter Try.func26, Try.ntmps26
  go_wp2_with (first
    | (at_builtin; refine wpList_append_src (o := ⟨some 126, _, _, _, _, _⟩) rfl (.tmp 123) (.tmp 125) 47 rfl 2 i0 _ 1 8 Try.underlying47 hi hz0 hz1 hz2 rfl (by decide) (.slice (some ⟨w.heap.size + 1, 0, none⟩) 0 0) 0 [] rfl (ownsRow_new _ _ _ _ (World.size_alloc _ _)) A xs.length cap (xs.map (Value.int .i64)) rfl (by simp) (HA.out.src (((Keeps.refl [] w).alloc _).alloc _)) H1.out hmx.out hby.out ?_; intro v1 w1 hown1 hg1 hat1)
    | (at_builtin; refine wpList_append_lies _ (o := ⟨some 128, _, _, _, _, _⟩) rfl (.tmp 126) (.tmp 127) 47 rfl 0 2 i0 _ 1 8 Try.underlying47 hi hz0 hz1 hz2 rfl (by decide) v1 (0 + xs.length) ([] ++ xs.map (Value.int .i64)) rfl (hown1.alloc _) ⟨w1.heap.size, 0, none⟩ 2 2 [.int .i64 77, .int .i64 78] rfl rfl (World.news_of_block (new_at _ _ _ rfl)) (by simp [Value.oneCell']) (by decide) hmx2.out hby2.out (Nat.zero_le _) _ rfl ?_; intro g2 cap2 w2 hown2 hg2 hat2 hlt2; have ht := twice hg1 hat1 hg2 hat2 hown2; have HT := Lib.hid ht; have b5 : w2.cell? ⟨w.heap.size, 5, none⟩ = some (.slice A xs.length cap) := (ht.1.cell 5).trans rfl; have HO := Lib.hid hown2; have hc2 : (xs.length : Int) ≤ (cap2 : Int) := (by have := ht.2.2.2; omega); have hc3 := ht.2.2.2; clear ht hown1 hg1 hat1 hown2 hg2 hat2 hlt2))
  clear hi hz0 hz1 hz2
  have hsrc : Hid (0 < xs.length → ∃ ad, (some ⟨g2, 0, none⟩ : Option Addr) = some ad ∧ ∀ j v, (xs.map (Value.int .i64))[j]? = some v → w2.cell? (ad.add j) = some v) := by
    intro _
    refine ⟨_, rfl, fun j v hv => HO.out.cells (g := g2) rfl j v ?_⟩
    rw [List.nil_append, List.getElem?_append_left (by have := (List.getElem?_eq_some_iff.1 hv).1; exact this)]
    exact hv
  have HP : Hid (Pair w2 g lb gx lbx r b ry bx kind l s) := by
    have hk := HT.out.2.1
    exact ⟨H0.out.row.keeps hk (by simp) (by simp), H0.out.rox.keeps hk (by simp) (by simp), H0.out.met.keeps hk (by simp), H0.out.mex.keeps hk (by simp), H0.out.ne, H0.out.nb⟩
  have HF2 : Hid (Filled w 49 #[.bool other, .int .i64 5, .int .i64 i, .int .i64 x, .int .i64 old, .slice A xs.length cap] g2 cap2 A xs w2) := by
    refine ⟨HT.out.1, by simpa using HO.out, (Slc.of_ints HA.out).keeps HT.out.2.1, HT.out.2.2.1⟩
  refine (fill_prog w2 r b kind (some g) l HP.out.row (some ⟨g2, 0, none⟩) _ xs (by have := hmx.out; omega) hsrc.out).mono ?_
  rintro e w3 ⟨rfl, hr3, hk3⟩
  have hlt := H0.out.lt
  have hL := left_row RowI.ty HP.out.row HP.out.met hr3 hk3
  have hF := HP.out.first hL
  have hfl := HF2.out.keeps hk3 (by simp; omega) (fun h0 ad h => by simpa using (HN.out h0 ad h).1)
  have b5' : w3.cell? ⟨w.heap.size, 5, none⟩ = some (.slice A xs.length cap) := (hfl.1.cell 5).trans rfl
  have HL := Lib.hid hL
  have HF := Lib.hid hF
  have HF3 := Lib.hid hfl
  clear hL hF hfl hr3 hk3 b5 hlt HF2
  go_wp2_with fail
  refine (fill_ref w3 ry bx kind (some gx) l HF.out.1 A cap xs HF3.out.2.2.1 (fun h0 ad h => (HN.out h0 ad h).2)).mono ?_
  rintro e w4 ⟨rfl, hr4, hk4⟩
  have hlt := H0.out.lt
  have hM := left_row RefI.ty HF.out.1 HF.out.2 hr4 hk4
  have HS := Lib.hid (HP.out.second HL.out hM (fillL_len _ _) (by omega))
  have hfl := HF3.out.keeps hk4 (by simp; omega) (fun h0 ad h => by simpa using (HN.out h0 ad h).2)
  have hK4 : Stepped g lb gx lbx r b ry bx kind l s w w4 := by
    obtain ⟨lb', lbx', l', s', k1, k2, k3, k4, k5, k6⟩ := HS.out
    have := HT.out.2.1.size
    exact ⟨lb', lbx', l', s', k1, (HT.out.2.1.mono (T := [b, bx, g, lb, gx, lbx]) (by simp)).trans k2 (fun x hx => .inl hx), by omega, by omega, k5, k6⟩
  have HF4 := Lib.hid hfl
  have HK4 := Lib.hid hK4
  clear hM hr4 hk4 hlt hfl hK4 b5' HF HL HF3 HS HP hsrc HO
  have s5 : w4.cell? ⟨w.heap.size, 5, none⟩ = some (.slice A xs.length cap) := (HF4.out.1.cell 5).trans rfl
  have s6 : w4.cell? ⟨g2, xs.length, none⟩ = some (.int .i64 77) := (HF4.out.2.1.cellAt xs.length (by omega)).trans (by simp)
  have s7 : w4.cell? ⟨g2, xs.length + 1, none⟩ = some (.int .i64 78) := (HF4.out.2.1.cellAt (xs.length + 1) (by omega)).trans (by simp)
  have hw1 : IntKind.i64.wrap ((xs.length : Int) + 1) = (xs.length : Int) + 1 := IntWalk.i64_in _ (by omega)
  have g0 : (0 : Int) ≤ (xs.length : Int) := by omega
  have g1 : (xs.length : Int) < (xs.length : Int) + 2 := by omega
  have g2' : (0 : Int) ≤ (xs.length : Int) + 1 := by omega
  have g3 : (xs.length : Int) + 1 < (xs.length : Int) + 2 := by omega
  have g4 : ((xs.length : Int) + 1).toNat = xs.length + 1 := by omega
  have hs1 : Slc w4 (some ⟨g2, 0, none⟩) xs := by
    refine ⟨HF4.out.2.2.1.1, .inr ⟨g2, 0, rfl, (own_lt HF4.out.2.1 rfl), fun k y hy => ?_⟩⟩
    have hk := (List.getElem?_eq_some_iff.1 hy).1
    rw [Nat.zero_add, HF4.out.2.1.cellAt k (by omega), List.getElem?_append_left (by simpa using hk), List.getElem?_map, hy]
    rfl
  have HS1 := Lib.hid hs1
  clear hs1
  go_wp2_with fail
  have hb1 : w.heap.size < w4.heap.size := HF4.out.1.lt
  have hb2 : g2 < w4.heap.size := own_lt HF4.out.2.1 rfl
  have S5 := Lib.hid (And.intro s5 (And.intro s6 (And.intro s7 (And.intro hb1 hb2))))
  clear hb1 hb2
  go_cut [25] (fun v wx => v = .bool true ∧ Keeps [] w4 wx)
  case first =>
    go_region_held3 (fun w' => w'.cell? ⟨w.heap.size, 5, none⟩ = some (.slice A xs.length cap) ∧ w'.cell? ⟨g2, xs.length, none⟩ = some (.int .i64 77) ∧ w'.cell? ⟨g2, xs.length + 1, none⟩ = some (.int .i64 78)) (first | exact ⟨t5, t6, t7⟩ | go_keep) ((go_at_call 31; refine (sameRow_yes _ (some ⟨g2, 0, none⟩) A xs _ _ (Slc.keeps HS1.out (Keeps.refl [] w4).drew) (Slc.keeps HF4.out.2.2.1 (Keeps.refl [] w4).drew)).mono ?_; rintro e w5 ⟨rfl, hk5⟩; have t5 : w5.cell? ⟨w.heap.size, 5, none⟩ = some (.slice A xs.length cap) := (keeps_cell hk5.undrew S5.out.2.2.2.1 (List.not_mem_nil)).trans S5.out.1; have t6 : w5.cell? ⟨g2, xs.length, none⟩ = some (.int .i64 77) := (keeps_cell hk5.undrew S5.out.2.2.2.2 (List.not_mem_nil)).trans S5.out.2.1; have t7 : w5.cell? ⟨g2, xs.length + 1, none⟩ = some (.int .i64 78) := (keeps_cell hk5.undrew S5.out.2.2.2.2 (List.not_mem_nil)).trans S5.out.2.2.1; have HK5 := Lib.hid hk5.undrew; clear hk5))
    go_wp2_with fail
    go_meet
    exact ⟨rfl, HK5.out⟩
  case rest =>
    obtain ⟨rfl, hk5⟩ := hcut
    have HR : Hid (wc.ownsRow w.heap.size 2 1 (.slice (some ⟨g2, 0, none⟩) (xs.length + 2) cap2) (xs.length + 2) ((xs ++ [77, 78]).map (Value.int .i64)) ∧ w.heap.size ≤ g2 ∧ Stepped g lb gx lbx r b ry bx kind l s w wc) := by
      refine ⟨own_base (by simpa using own_keeps HF4.out.2.1 hk5 (by simp)) (by simp [Value.ownBlock]; have := HF4.out.2.2.2; omega), Nat.le_of_lt HF4.out.2.2.2, ?_⟩
      exact HK4.out.later hk5
    clear hk5 s5 s6 s7 S5 HS1 HF4 HK4
    go_wp2_with fail
    go_loopw [26] (fun j wr => ∃ (k : Nat) (zs : List Int), k ≤ xs.length + 2 ∧ j = .int .i64 k ∧ zs.length = xs.length + 2 ∧ wr.ownsRow w.heap.size 2 1 (.slice (some ⟨g2, 0, none⟩) (xs.length + 2) cap2) (xs.length + 2) (zs.map (Value.int .i64)) ∧ Stepped g lb gx lbx r b ry bx kind l s w wr) (fun j _ => xs.length + 2 - (intOf j).toNat)
    case atStart => exact ⟨0, xs ++ [77, 78], Nat.zero_le _, rfl, by simp, HR.out.1, HR.out.2.2⟩
    case round =>
      obtain ⟨k, zs, hk, rfl, hz, hown, hst⟩ := hrel
      have HO := Lib.hid hown
      have HST := Lib.hid hst
      have HZ := Lib.hid hz
      clear hown hst hz
      by_cases hlt : k < xs.length + 2
      · obtain ⟨z, hzk⟩ : ∃ z, zs[k]? = some z := ⟨_, List.getElem?_eq_getElem (by rw [HZ.out]; exact hlt)⟩
        have d1 : wr.cell? ⟨g2, k, none⟩ = some (.int .i64 z) := (HO.out.cellAt k (by omega)).trans (by rw [List.getElem?_map, hzk]; rfl)
        have d2 := HO.out.frozenAt k
        have k1 : (0 : Int) ≤ (k : Int) := by omega
        have k2 : (k : Int) < (xs.length : Int) + 2 := by omega
        clear hzk
        go_wp2_with fail
        go_roundw
        case rel =>
          refine ⟨k + 1, zs.set k (bits BinOp.xor IntKind.i64 z 1), by omega, by go_num, by simp [HZ.out], ?_, (by obtain ⟨cs, hcs⟩ := blk_own HO.out; exact HST.out.setNew HR.out.2.1 H0.out hcs _)⟩
          rw [List.map_set]
          exact (HO.out.stored k _).1
        case measure => simp [intOf]; omega
      · have hge : ¬ ((k : Int) < (xs.length : Int) + 2) := by omega
        go_wp2_with fail
        go_ret
        exact ⟨rfl, HST.out⟩
end
end Go.Proofs.Ytlpgcfgnimchaaa
