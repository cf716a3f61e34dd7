/- CommitBounds' plain law: a commit while others move in the slots from 1 on. No program in sight. -/
import Derived.Test.YtcoekpomiljofaaGreatCmAl
import Derived.Test.YtcoekpomiljofaaGreatCmSeats
namespace Go.Proofs.YtcoekpomiljofaaGreat.bd
open Go.RowKit Pol fd al
set_option linter.unusedVariables false
set_option linter.unusedSimpArgs false
def isD (h : Hd) : Bool := h.doomed && h.who == 1
/-- How many in the slots from 1 on thread 1 has doomed. -/
def dc (H : List Hd) : Nat := (H.drop 1).countP isD
/-- How many accesses to cells from the place a on. -/
def cnt (a : Nat) (S : Sp) : Nat := (S.met.log.drop a).countP fun e => e.kind == 1
theorem countP_set : ∀ (l : List Hd) (i : Nat) (y : Hd), (isD y = true → ∃ x, l[i]? = some x ∧ isD x = true) → (l.set i y).countP isD ≤ l.countP isD
  | [], _, _, _ => by simp
  | x :: l, 0, y, h => by
    simp only [List.set_cons_zero, List.countP_cons]
    cases hy : isD y
    · simp
    · obtain ⟨x', h1, h2⟩ := h hy
      simp at h1
      subst h1
      simp [h2]
  | x :: l, i + 1, y, h => by
    have ih := countP_set l i y (fun hy => by simpa using h hy)
    simp only [List.set_cons_succ, List.countP_cons]
    omega
theorem countP_set1 : ∀ (l : List Hd) (i : Nat) (y : Hd), (l.set i y).countP isD ≤ l.countP isD + 1
  | [], _, _ => by simp
  | x :: l, 0, y => by simp only [List.set_cons_zero, List.countP_cons]; split <;> split <;> omega
  | x :: l, i + 1, y => by
    have ih := countP_set1 l i y
    simp only [List.set_cons_succ, List.countP_cons]
    omega
theorem drop_set1 (H : List Hd) (i : Nat) (y : Hd) (hi : 1 ≤ i) : (H.set i y).drop 1 = (H.drop 1).set (i - 1) y := by
  obtain ⟨j, rfl⟩ : ∃ j, i = j + 1 := ⟨i - 1, by omega⟩
  cases H with
  | nil => simp
  | cons h t => simp
theorem dc_set {H : List Hd} {i : Nat} {y : Hd} (hi : 1 ≤ i) (h : isD y = true → ∃ x, H[i]? = some x ∧ isD x = true) : dc (H.set i y) ≤ dc H := by
  unfold dc
  rw [drop_set1 H i y hi]
  refine countP_set _ _ _ (fun hy => ?_)
  obtain ⟨x, h1, h2⟩ := h hy
  refine ⟨x, ?_, h2⟩
  rw [List.getElem?_drop]
  rw [show 1 + (i - 1) = i from by omega]
  exact h1
theorem dc_set1 {H : List Hd} {i : Nat} {y : Hd} (hi : 1 ≤ i) : dc (H.set i y) ≤ dc H + 1 := by
  unfold dc
  rw [drop_set1 H i y hi]
  exact countP_set1 _ _ _
theorem cnt_acc {S : Sp} {a : Nat} (ha : a ≤ S.met.log.length) (k p o : Int) (b : Bool) : a ≤ (S.acc k p o b).met.log.length ∧ cnt a (S.acc k p o b) = cnt a S + (if k = 1 then 1 else 0) := by
  have e : (S.acc k p o b).met.log = S.met.log ++ [⟨S.met.steps, S.met.thread, k, p, o, b⟩] := rfl
  refine ⟨by rw [e, List.length_append]; omega, ?_⟩
  unfold cnt
  rw [e, List.drop_append_of_le_length ha, List.countP_append]
  by_cases h : k = 1
  · subst h; simp
  · simp [h]
/-- What others leave. -/
structure Oth (a : Nat) (S S' : Sp) : Prop where
  c : S'.c = S.c
  g : S'.gate = S.gate
  C : S'.cells = S.cells
  len : S'.H.length = S.H.length
  own : S'.H[0]? = S.H[0]?
  dc : dc S'.H ≤ dc S.H
  lg : a ≤ S'.met.log.length
  cnt : cnt a S' = cnt a S
section
variable {a : Nat} {S S' S1 : Sp}
theorem Oth.refl (ha : a ≤ S.met.log.length) : Oth a S S := ⟨rfl, rfl, rfl, rfl, rfl, Nat.le_refl _, ha, rfl⟩
theorem Oth.acc (ha : a ≤ S.met.log.length) (k p o : Int) (b : Bool) (hk : k ≠ 1) : Oth a S (S.acc k p o b) := by
  obtain ⟨h1, h2⟩ := cnt_acc ha k p o b
  exact ⟨rfl, rfl, rfl, rfl, rfl, Nat.le_refl _, h1, by rw [h2, if_neg hk]; rfl⟩
theorem Oth.set (ha : a ≤ S.met.log.length) (k p o : Int) (b : Bool) (hk : k ≠ 1) {i : Int} (hi : 1 ≤ i) {y : Hd} (h : isD y = true → ∃ x, S.H[i.toNat]? = some x ∧ isD x = true) : Oth a S { S.acc k p o b with H := S.H.set i.toNat y } := by
  obtain ⟨h1, h2⟩ := cnt_acc ha k p o b
  refine ⟨rfl, rfl, rfl, by simp, ?_, dc_set (by omega) h, h1, ?_⟩
  · show (S.H.set i.toNat y)[0]? = _
    rw [List.getElem?_set_ne (by omega)]
  · show bd.cnt a (S.acc k p o b) = _
    rw [h2, if_neg hk]
    rfl
theorem Oth.free (ha : a ≤ S.met.log.length) {i : Int} (hi : 1 ≤ i) (g : Int) : Oth a S (S.free i g).2 := by
  unfold Sp.free
  split
  · exact .refl ha
  · split
    · exact .set ha _ _ _ _ (by decide) hi (fun h => by simp [isD] at h)
    · exact .acc ha _ _ _ _ (by decide)
theorem Oth.claim (ha : a ≤ S.met.log.length) {i : Int} (hi : 1 ≤ i) (t : Int) : Oth a S (S.claim i t).2 := by
  unfold Sp.claim
  split
  · exact .refl ha
  · split
    · exact .refl ha
    · split
      · exact .set ha _ _ _ _ (by decide) hi (fun h => by simp [isD] at h)
      · exact .acc ha _ _ _ _ (by decide)
theorem Oth.ready (ha : a ≤ S.met.log.length) {i : Int} (hi : 1 ≤ i) (g t : Int) : Oth a S (S.ready i g t).2 := by
  unfold Sp.ready
  split
  · exact .refl ha
  · split
    · exact .refl ha
    · rename_i x hx
      split
      · exact .set ha _ _ _ _ (by decide) hi (fun h => ⟨x, (nth_len hx).2.2, h⟩)
      · exact .acc ha _ _ _ _ (by decide)
theorem Oth.put (ha : a ≤ S.met.log.length) (i j v : Int) : Oth a S (S.put i j v).2 := by
  unfold Sp.put
  split
  · exact .refl ha
  · obtain ⟨h1, h2⟩ := cnt_acc ha 4 (2 * i + j) 2 true
    exact ⟨rfl, rfl, rfl, rfl, rfl, Nat.le_refl _, h1, by show bd.cnt a (S.acc 4 (2 * i + j) 2 true) = _; rw [h2]; rfl⟩
theorem Oth.begin (ha : a ≤ S.met.log.length) (t : Int) : Oth a S (S.begin t) := ⟨rfl, rfl, rfl, rfl, rfl, Nat.le_refl _, ha, rfl⟩
/-- What stays of a commit in slot 0. -/
structure Bb (c : Cf) (ws : List Pr) (a : Nat) (S : Sp) (x : Cm) : Prop where
  slot : x.slot = 0
  gen : x.gen = 1
  th : x.thread = 1
  stamp : x.stamp = 5
  ws : x.ws = ws
  number : x.number = 1
  c : S.c = c
  len : S.H.length = 8
  lg : a ≤ S.met.log.length
def Vok (l : List Vc) : Prop := ∀ v, v ∈ l → 1 ≤ v.slot ∧ v.slot < 8
/-- The ends: won, or not. -/
def Ends (c : Cf) (C : List Int) (ws : List Pr) (a : Nat) (S : Sp) (x : Cm) (wt : Int) : Prop :=
  (x.e = 0 ∧ x.won = true ∧ S.cells = puts C ws ∧ cnt a S = ws.length ∧ dc S.H ≤ x.victims.length ∧ wt = 0) ∨
  (x.won = false ∧ S.cells = C ∧ cnt a S = 0 ∧ dc S.H = 0 ∧ ((x.e = 9 ∧ c.tag = 2 ∧ c.bias < (x.victims.length : Int) ∧ wt = 1) ∨ (x.e = 8 ∧ c.tag = 3 ∧ wt = 0)))
/-- Where it stands; r: what is left at most, wt: how often it has waited. -/
inductive Bp (c : Cf) (C : List Int) (ws : List Pr) (a : Nat) (r : Nat) (S : Sp) (d : Int) (x : Cm) (wt : Int) : Prop
  | own (b : Bb c ws a S x) (st : x.st = .own) (ho : S.H[0]? = some hdL) (hg : S.gate = ⟨1, 1⟩) (hC : S.cells = C) (hc : cnt a S = 0) (hd_ : dc S.H = 0) (he : x.e = 0) (hw : x.won = false) (hwt : wt = 0) (hr : r = ws.length + 31)
  | looking (l : Lk) (b : Bb c ws a S x) (st : x.st = .looking) (hl : x.lk = some l) (hne : l.turns ≠ []) (ht : ∀ t, t ∈ l.turns → 1 ≤ t ∧ t < 8) (hv : Vok l.victims) (hws : l.words.length ≤ 1) (ho : S.H[0]? = some hdL) (hg : S.gate = ⟨1, 1⟩) (hC : S.cells = C) (hc : cnt a S = 0) (hd_ : dc S.H = 0) (he : x.e = 0) (hw : x.won = false) (hwt : wt = 0) (hr : r + (if l.looked then 1 + l.words.length else 0) = 4 * l.turns.length + l.victims.length + ws.length + 2)
  | doom (y : Dm) (b : Bb c ws a S x) (st : x.st = .doom) (hy : x.dm = some y) (hne : y.left ≠ []) (hv : Vok y.left) (hwho : y.who = 1) (ho : S.H[0]? = some hdL) (hg : S.gate = ⟨1, 1⟩) (hC : S.cells = C) (hc : cnt a S = 0) (hd_ : dc S.H + y.left.length ≤ x.victims.length) (he : x.e = 0) (hw : x.won = false) (hwt : wt = 0) (hr : r = y.left.length + ws.length + 2)
  | write (i : Nat) (b : Bb c ws a S x) (st : x.st = .write i) (hi : i < ws.length) (ho : S.H[0]? = some hdL) (hg : S.gate = ⟨1, 1⟩) (hC : S.cells = puts C (ws.take i)) (hc : cnt a S = i) (hd_ : dc S.H ≤ x.victims.length) (he : x.e = 0) (hw : x.won = false) (hwt : wt = 0) (hr : r = ws.length - i + 2)
  | give (b : Bb c ws a S x) (st : x.st = .give) (ho : S.H[0]? = some hdL) (hg : S.gate = ⟨1, 1⟩) (hC : S.cells = puts C ws) (hc : cnt a S = ws.length) (hd_ : dc S.H ≤ x.victims.length) (he : x.e = 0) (hwt : wt = 0) (hr : r = 2)
  | giveUp (b : Bb c ws a S x) (st : x.st = .giveUp) (ho : S.H[0]? = some hdL) (hg : S.gate = ⟨1, 1⟩) (hC : S.cells = C) (hc : cnt a S = 0) (hd_ : dc S.H = 0) (he : (x.e = 9 ∧ c.tag = 2 ∧ c.bias < (x.victims.length : Int)) ∨ (x.e = 8 ∧ c.tag = 3)) (hw : x.won = false) (hwt : wt = 0) (hr : r = 2)
  | free (b : Bb c ws a S x) (st : x.st = .free) (ho : S.H[0]? = some hdL) (hg : S.gate = ⟨2, 0⟩) (hE : Ends c C ws a S x wt) (hr : r = 1)
  | over (b : Bb c ws a S x) (st : x.st = .over) (hg : S.gate = ⟨2, 0⟩) (hE : Ends c C ws a S x wt) (hr : r = 0)
variable {c : Cf} {C : List Int} {ws : List Pr} {r : Nat} {d : Int} {x : Cm} {wt : Int}
theorem Bb.oth (b : Bb c ws a S x) (h : Oth a S S') : Bb c ws a S' x := ⟨b.slot, b.gen, b.th, b.stamp, b.ws, b.number, h.c.trans b.c, h.len.trans b.len, h.lg⟩
theorem Ends.oth (e : Ends c C ws a S x wt) (h : Oth a S S') : Ends c C ws a S' x wt := by
  have h1 := h.dc
  rcases e with ⟨e1, e2, e3, e4, e5, e6⟩ | ⟨e1, e2, e3, e4, e5⟩
  · exact .inl ⟨e1, e2, h.C.trans e3, h.cnt.trans e4, by omega, e6⟩
  · exact .inr ⟨e1, h.C.trans e2, h.cnt.trans e3, by omega, e5⟩
/-- Others move. -/
theorem Bp.oth (p : Bp c C ws a r S d x wt) (h : Oth a S S') : Bp c C ws a r S' d x wt := by
  have h1 := h.dc
  cases p with
  | own b st ho hg hC hc hd_ he hw hwt hr => exact .own (b.oth h) st (h.own.trans ho) (h.g.trans hg) (h.C.trans hC) (h.cnt.trans hc) (by omega) he hw hwt hr
  | looking l b st hl hne ht hv hws ho hg hC hc hd_ he hw hwt hr => exact .looking l (b.oth h) st hl hne ht hv hws (h.own.trans ho) (h.g.trans hg) (h.C.trans hC) (h.cnt.trans hc) (by omega) he hw hwt hr
  | doom y b st hy hne hv hwho ho hg hC hc hd_ he hw hwt hr => exact .doom y (b.oth h) st hy hne hv hwho (h.own.trans ho) (h.g.trans hg) (h.C.trans hC) (h.cnt.trans hc) (by omega) he hw hwt hr
  | write i b st hi ho hg hC hc hd_ he hw hwt hr => exact .write i (b.oth h) st hi (h.own.trans ho) (h.g.trans hg) (h.C.trans hC) (h.cnt.trans hc) (by omega) he hw hwt hr
  | give b st ho hg hC hc hd_ he hwt hr => exact .give (b.oth h) st (h.own.trans ho) (h.g.trans hg) (h.C.trans hC) (h.cnt.trans hc) (by omega) he hwt hr
  | giveUp b st ho hg hC hc hd_ he hw hwt hr => exact .giveUp (b.oth h) st (h.own.trans ho) (h.g.trans hg) (h.C.trans hC) (h.cnt.trans hc) (by omega) he hw hwt hr
  | free b st ho hg hE hr => exact .free (b.oth h) st (h.own.trans ho) (h.g.trans hg) (hE.oth h) hr
  | over b st hg hE hr => exact .over (b.oth h) st (h.g.trans hg) (hE.oth h) hr
theorem nth0 (h : S.H[0]? = some hdL) : nth S.H 0 = some hdL := by
  unfold nth
  rw [if_pos (by omega)]
  exact h
theorem done1 (h : S.met.done = 0) (k p o : Int) (b : Bool) : (S.acc k p o b).met.done = 1 := by
  show wrap64 (S.met.done + 1) = 1
  rw [h]
  kernel_rfl
theorem verdict_two {vs : List Vc} (h : verdict c 5 d vs = 2) : c.tag = 2 ∧ c.bias < (vs.length : Int) := by
  unfold verdict at h
  split at h
  · split at h
    · rename_i h1 h2
      exact ⟨h1, h2.1⟩
    · cases h
  · split at h
    · split at h <;> cases h
    · cases h
theorem verdict_three {vs : List Vc} (h : verdict c 5 d vs = 3) : c.tag = 3 := by
  unfold verdict at h
  split at h
  · split at h <;> cases h
  · split at h
    · assumption
    · cases h
/-- Behind a look's end. -/
theorem judged_bp {vs : List Vc} (b : Bb c ws a S x) (hv : x.victims = vs) (hvo : Vok vs) (hw1 : 1 ≤ ws.length) (ho : S.H[0]? = some hdL) (hg : S.gate = ⟨1, 1⟩) (hC : S.cells = C) (hc : cnt a S = 0) (hd_ : dc S.H = 0) (he : x.e = 0) (hw : x.won = false) {d' : Int} :
    ∃ r', r' ≤ vs.length + ws.length + 2 ∧ Bp c C ws a r' S d' (x.judged c d vs) 0 := by
  unfold Cm.judged
  rw [b.stamp]
  split
  · rename_i h
    obtain ⟨h1, h2⟩ := verdict_two h
    exact ⟨2, by omega, .giveUp ⟨b.slot, b.gen, b.th, rfl, b.ws, b.number, b.c, b.len, b.lg⟩ rfl ho hg hC hc hd_ (.inl ⟨rfl, h1, by show c.bias < (x.victims.length : Int); rw [hv]; exact h2⟩) hw rfl rfl⟩
  · split
    · rename_i h
      exact ⟨2, by omega, .giveUp ⟨b.slot, b.gen, b.th, rfl, b.ws, b.number, b.c, b.len, b.lg⟩ rfl ho hg hC hc hd_ (.inr ⟨rfl, verdict_three h⟩) hw rfl rfl⟩
    · have bb : Bb c ws a S (x.doomed (Dm.new x.thread vs)) := ⟨b.slot, b.gen, b.th, b.stamp, b.ws, b.number, b.c, b.len, b.lg⟩
      by_cases hz : vs = []
      · refine ⟨ws.length + 2, by omega, .write 0 bb ?_ (by omega) ho hg hC hc (by rw [hd_]; exact Nat.zero_le _) he hw rfl (by omega)⟩
        show (if (Dm.new x.thread vs).left = [] then Stg.write 0 else Stg.doom) = _
        rw [if_pos (by show vs = []; exact hz)]
      · refine ⟨vs.length + ws.length + 2, Nat.le_refl _, .doom (Dm.new x.thread vs) bb ?_ rfl hz hvo b.th ho hg hC hc ?_ he hw rfl rfl⟩
        · show (if (Dm.new x.thread vs).left = [] then Stg.write 0 else Stg.doom) = _
          rw [if_neg (by show ¬ vs = []; exact hz)]
        · show dc S.H + vs.length ≤ x.victims.length
          rw [hd_, hv]
          omega
/-- Behind a step of a look. -/
theorem behind_bp {l : Lk} (b : Bb c ws a S x) (ht : ∀ t, t ∈ l.turns → 1 ≤ t ∧ t < 8) (hv : Vok l.victims) (hws : l.words.length ≤ 1) (hlk : l.turns = [] → l.looked = false) (hw1 : 1 ≤ ws.length) (ho : S.H[0]? = some hdL) (hg : S.gate = ⟨1, 1⟩) (hC : S.cells = C) (hc : cnt a S = 0) (hd_ : dc S.H = 0) (he : x.e = 0) (hw : x.won = false)
    (hr : r + (if l.looked then 1 + l.words.length else 0) = 4 * l.turns.length + l.victims.length + ws.length + 2) : ∃ r', r' ≤ r ∧ Bp c C ws a r' S (x.behind l S.c d).2 (x.behind l S.c d).1 0 := by
  have bl : Bb c ws a S ({ x with lk := some l } : Cm) := ⟨b.slot, b.gen, b.th, b.stamp, b.ws, b.number, b.c, b.len, b.lg⟩
  unfold Cm.behind
  split
  · rename_i hz
    rw [hlk hz, hz] at hr
    simp at hr
    obtain ⟨r', h1, h2⟩ := judged_bp (vs := l.victims) (d := d) (d' := decided c x.stamp d l.victims) bl rfl hv hw1 ho hg hC hc hd_ he hw
    refine ⟨r', by omega, ?_⟩
    rw [b.c]
    exact h2
  · rename_i hz
    exact ⟨r, Nat.le_refl _, .looking l ⟨b.slot, b.gen, b.th, b.stamp, b.ws, b.number, b.c, b.len, b.lg⟩ rfl rfl hz ht hv hws ho hg hC hc hd_ he hw rfl hr⟩
/-- A step. -/
def Stp (c : Cf) (C : List Int) (ws : List Pr) (a : Nat) (r : Nat) (S : Sp) (d : Int) (x : Cm) (wt : Int) : Prop :=
  x.done = false ∧ (x.step S d).2.2.1.met.done = 1 ∧ ∃ r', r' < r ∧
    (((x.step S d).1 = 1 ∧ Bp c C ws a r' (x.step S d).2.2.1 (x.step S d).2.2.2 (x.step S d).2.1 wt) ∨ ((x.step S d).1 = 2 ∧ Bp c C ws a r' (x.step S d).2.2.1 (x.step S d).2.2.2 (x.step S d).2.1 (wt + 1)))
theorem stp_own (hdn : S.met.done = 0) (hw1 : 1 ≤ ws.length) (b : Bb c ws a S x) (st : x.st = .own) (ho : S.H[0]? = some hdL) (hg : S.gate = ⟨1, 1⟩) (hC : S.cells = C) (hc : cnt a S = 0) (hd_ : dc S.H = 0) (he : x.e = 0) (hw : x.won = false) (hwt : wt = 0) (hr : r = ws.length + 31) : Stp c C ws a r S d x wt := by
  have hlk : S.look x.slot = ((hdL, 0), S.acc 3 0 1 true) := by
    unfold Sp.look
    rw [b.slot, nth0 ho]
  have hlost : ¬ x.lost hdL := by
    unfold Cm.lost
    rw [b.gen]
    simp [hdL]
  have e : x.step S d = (1, (x.behind (Lk.new 8 0 (ofR S.c.bits x.to)) S.c d).1, S.acc 3 0 1 true, (x.behind (Lk.new 8 0 (ofR S.c.bits x.to)) S.c d).2) := by
    unfold Cm.step Cm.own_
    rw [st]
    simp only
    rw [hlk, if_neg hlost, b.len, b.slot]
  have ho2 : Oth a S (S.acc 3 0 1 true) := .acc b.lg _ _ _ _ (by decide)
  obtain ⟨r', h1, h2⟩ := behind_bp (r := ws.length + 30) (l := Lk.new 8 0 (ofR S.c.bits x.to)) (d := d) (b.oth ho2) (fun t ht => by
    have ht : t ∈ turnsTo 0 8 := ht
    rw [turns8] at ht
    simp at ht
    omega) (fun v hv => by simp [Lk.new] at hv) (by simp [Lk.new]) (fun _ => rfl) hw1 ho hg hC (ho2.cnt.trans hc) hd_ he hw (by
    show ws.length + 30 + 0 = 4 * (turnsTo 0 8).length + 0 + ws.length + 2
    rw [turns8]
    simp only [List.length_cons, List.length_nil]
    omega)
  refine ⟨by unfold Cm.done; rw [st]; rfl, by rw [e]; exact done1 hdn _ _ _ _, r', by omega, .inl ⟨by rw [e], ?_⟩⟩
  rw [e, hwt]
  exact h2
theorem stp_look {l : Lk} (hdn : S.met.done = 0) (hW : S.W.length = 2 * S.H.length) (hw1 : 1 ≤ ws.length) (b : Bb c ws a S x) (st : x.st = .looking) (hl : x.lk = some l) (hne : l.turns ≠ []) (ht : ∀ t, t ∈ l.turns → 1 ≤ t ∧ t < 8) (hv : Vok l.victims) (hws : l.words.length ≤ 1) (ho : S.H[0]? = some hdL) (hg : S.gate = ⟨1, 1⟩) (hC : S.cells = C) (hc : cnt a S = 0) (hd_ : dc S.H = 0) (he : x.e = 0) (hw : x.won = false) (hwt : wt = 0) (hr : r + (if l.looked then 1 + l.words.length else 0) = 4 * l.turns.length + l.victims.length + ws.length + 2) : Stp c C ws a r S d x wt := by
  have e : x.step S d = (1, (x.behind (l.step S).2.1 S.c d).1, (l.step S).2.2, (x.behind (l.step S).2.1 S.c d).2) := by
    unfold Cm.step Cm.look_
    rw [st, hl]
  obtain ⟨t, tl, hts⟩ : ∃ t tl, l.turns = t :: tl := by
    cases h : l.turns with
    | nil => exact absurd h hne
    | cons t tl => exact ⟨t, tl, rfl⟩
  obtain ⟨t1, t8⟩ := ht t (by rw [hts]; simp)
  have htl : ∀ q, q ∈ tl → 1 ≤ q ∧ q < 8 := fun q hq => ht q (by rw [hts]; simp [hq])
  rw [hts, List.length_cons] at hr
  have hlen := b.len
  obtain ⟨h, hh⟩ : ∃ h, nth S.H t = some h := by
    unfold nth
    rw [if_pos (by omega)]
    exact ⟨_, List.getElem?_eq_getElem (by omega)⟩
  have hlk : S.look t = ((h, 0), S.acc 3 t 1 true) := by unfold Sp.look; rw [hh]
  suffices hs : ∃ k, (l.step S).2.2 = S.acc k (if k = 3 then t else 2 * t + l.words.length) 1 true ∧ (k = 3 ∨ k = 4) ∧ (∀ q, q ∈ (l.step S).2.1.turns → 1 ≤ q ∧ q < 8) ∧ Vok (l.step S).2.1.victims ∧ (l.step S).2.1.words.length ≤ 1 ∧ ((l.step S).2.1.turns = [] → (l.step S).2.1.looked = false) ∧ ∃ r', r' < r ∧ r' + (if (l.step S).2.1.looked then 1 + (l.step S).2.1.words.length else 0) = 4 * (l.step S).2.1.turns.length + (l.step S).2.1.victims.length + ws.length + 2 by
    obtain ⟨k, s1, s2, s3, s4, s5, s6, r', s7, s8⟩ := hs
    have ho2 : Oth a S (l.step S).2.2 := by rw [s1]; exact .acc b.lg _ _ _ _ (by rcases s2 with rfl | rfl <;> decide)
    obtain ⟨r'', h1, h2⟩ := behind_bp (r := r') (l := (l.step S).2.1) (d := d) (b.oth ho2) s3 s4 s5 s6 hw1 (ho2.own.trans ho) (ho2.g.trans hg) (ho2.C.trans hC) (ho2.cnt.trans hc) (by have := ho2.dc; omega) he hw s8
    refine ⟨by unfold Cm.done; rw [st]; rfl, by rw [e, s1]; exact done1 hdn _ _ _ _, r'', by omega, .inl ⟨by rw [e], ?_⟩⟩
    rw [e, hwt]
    rw [ho2.c] at h2
    exact h2
  unfold Lk.step
  rw [hts]
  simp only
  cases hlo : l.looked
  · rw [hlo] at hr
    simp only [if_true]
    rw [hlk]
    refine ⟨3, by simp, .inl rfl, ?_⟩
    simp only [Bool.false_eq_true, if_false] at hr
    split
    · exact ⟨fun q hq => by
        have hq : q ∈ l.turns.tail := hq
        rw [hts] at hq
        exact htl q hq, hv, by simp [Lk.turn], fun _ => rfl, 4 * tl.length + l.victims.length + ws.length + 2, by omega, by
        show _ + 0 = 4 * (l.turns.tail).length + l.victims.length + ws.length + 2
        rw [hts]
        simp⟩
    · exact ⟨ht, hv, hws, fun hz => absurd hz hne, r - (1 + l.words.length), by omega, by
        show _ + (1 + l.words.length) = 4 * l.turns.length + l.victims.length + ws.length + 2
        rw [hts, List.length_cons]
        omega⟩
  · rw [hlo] at hr
    simp only [Bool.true_eq_false, if_false, if_true] at hr ⊢
    have hwd : ∃ v, S.word t l.words.length = ((v, 0), S.acc 4 (2 * t + l.words.length) 1 true) := by
      obtain ⟨v, hvv⟩ : ∃ v, wnth S t l.words.length = some v := by
        unfold wnth
        rw [if_pos ⟨⟨by omega, by omega⟩, by omega, by omega⟩]
        exact ⟨_, List.getElem?_eq_getElem (by omega)⟩
      refine ⟨v, ?_⟩
      unfold Sp.word
      rw [hvv]
    obtain ⟨v, hwv⟩ := hwd
    rw [hwv]
    refine ⟨4, by simp, .inr rfl, ?_⟩
    split
    · rename_i h2
      exact ⟨ht, hv, by show (l.words ++ [v]).length ≤ 1; rw [List.length_append]; simp only [List.length_cons, List.length_nil]; omega, fun hz => absurd hz hne, r - 1, by omega, by
        show _ + (if l.looked then 1 + (l.words ++ [v]).length else 0) = 4 * l.turns.length + l.victims.length + ws.length + 2
        rw [hlo, if_pos rfl, hts, List.length_append, List.length_cons]
        simp only [List.length_cons, List.length_nil]
        omega⟩
    · rename_i h2
      split
      · exact ⟨fun q hq => by
          have hq : q ∈ l.turns.tail := hq
          rw [hts] at hq
          exact htl q hq, fun q hq => by
          have hq : q ∈ l.victims ++ [⟨t, l.head.gen, l.head.stamp, l.head.thread⟩] := hq
          rw [List.mem_append, List.mem_singleton] at hq
          rcases hq with hq | rfl
          · exact hv q hq
          · exact ⟨t1, t8⟩, by simp [Lk.turn], fun _ => rfl, 4 * tl.length + (l.victims.length + 1) + ws.length + 2, by omega, by
          show _ + 0 = 4 * (l.turns.tail).length + (l.victims ++ [_]).length + ws.length + 2
          rw [hts, List.length_append]
          simp⟩
      · exact ⟨fun q hq => by
          have hq : q ∈ l.turns.tail := hq
          rw [hts] at hq
          exact htl q hq, hv, by simp [Lk.turn], fun _ => rfl, 4 * tl.length + l.victims.length + ws.length + 2, by omega, by
          show _ + 0 = 4 * (l.turns.tail).length + l.victims.length + ws.length + 2
          rw [hts]
          simp⟩
theorem stp_doom {y : Dm} (hdn : S.met.done = 0) (hw1 : 1 ≤ ws.length) (b : Bb c ws a S x) (st : x.st = .doom) (hy : x.dm = some y) (hne : y.left ≠ []) (hv : Vok y.left) (hwho : y.who = 1) (ho : S.H[0]? = some hdL) (hg : S.gate = ⟨1, 1⟩) (hC : S.cells = C) (hc : cnt a S = 0) (hd_ : dc S.H + y.left.length ≤ x.victims.length) (he : x.e = 0) (hw : x.won = false) (hwt : wt = 0) (hr : r = y.left.length + ws.length + 2) : Stp c C ws a r S d x wt := by
  obtain ⟨v, tl, hts⟩ : ∃ v tl, y.left = v :: tl := by
    cases h : y.left with
    | nil => exact absurd h hne
    | cons v tl => exact ⟨v, tl, rfl⟩
  obtain ⟨v1, v8⟩ := hv v (by rw [hts]; simp)
  have hlen := b.len
  obtain ⟨h, hh⟩ : ∃ h, nth S.H v.slot = some h := by
    unfold nth
    rw [if_pos (by omega)]
    exact ⟨_, List.getElem?_eq_getElem (by omega)⟩
  rw [hts, List.length_cons] at hr hd_
  -- what the dooming leaves of the space
  have hS : ∃ ok Sx, S.doom v.slot v.gen 1 = (ok, Sx) ∧ Sx.met = (S.acc 3 v.slot 3 (ok == 0)).met ∧ Sx.c = S.c ∧ Sx.gate = S.gate ∧ Sx.cells = S.cells ∧ Sx.H.length = S.H.length ∧ Sx.H[0]? = S.H[0]? ∧ dc Sx.H ≤ dc S.H + 1 := by
    unfold Sp.doom
    rw [if_neg (by omega), hh]
    simp only
    split
    · refine ⟨_, _, rfl, rfl, rfl, rfl, rfl, by simp, ?_, dc_set1 (by omega)⟩
      show (S.H.set v.slot.toNat _)[0]? = _
      rw [List.getElem?_set_ne (by omega)]
    · exact ⟨_, _, rfl, rfl, rfl, rfl, rfl, rfl, rfl, by show dc S.H ≤ _; omega⟩
  obtain ⟨ok, Sx, s0, s1, s2, s3, s4, s5, s6, s7⟩ := hS
  have ey : ∃ y', y.step S = (1, y', Sx) ∧ y'.left = tl ∧ y'.who = 1 := by
    unfold Dm.step
    rw [hts, hwho]
    simp only
    rw [s0]
    split
    · exact ⟨_, rfl, rfl, rfl⟩
    · exact ⟨_, rfl, rfl, rfl⟩
  obtain ⟨y', e1, e2, e3⟩ := ey
  have e : x.step S d = (1, x.doomed y', Sx, d) := by
    unfold Cm.step Cm.doom_
    rw [st, hy]
    simp only
    rw [e1]
  obtain ⟨l1, l2⟩ := cnt_acc b.lg 3 v.slot 3 (ok == 0)
  have hlg : a ≤ Sx.met.log.length := by rw [s1]; exact l1
  have hcn : cnt a Sx = 0 := by
    have : cnt a Sx = cnt a (S.acc 3 v.slot 3 (ok == 0)) := by unfold cnt; rw [s1]
    rw [this, l2, hc]
    rfl
  have bb : Bb c ws a Sx (x.doomed y') := ⟨b.slot, b.gen, b.th, b.stamp, b.ws, b.number, s2.trans b.c, s5.trans b.len, hlg⟩
  refine ⟨by unfold Cm.done; rw [st]; rfl, by rw [e]; show Sx.met.done = 1; rw [s1]; exact done1 hdn _ _ _ _, tl.length + ws.length + 2, by omega, .inl ⟨by rw [e], ?_⟩⟩
  rw [e]
  by_cases hz : tl = []
  · subst hz
    have : Bp c C ws a (ws.length - 0 + 2) Sx d (x.doomed y') wt := by
      refine .write 0 bb ?_ (by omega) (s6.trans ho) (s3.trans hg) (s4.trans hC) hcn ?_ he hw hwt rfl
      · show (if y'.left = [] then Stg.write 0 else Stg.doom) = _
        rw [if_pos e2]
      · show dc Sx.H ≤ x.victims.length
        simp only [List.length_nil] at hd_
        omega
    simpa using this
  · refine .doom y' bb ?_ rfl (by rw [e2]; exact hz) (fun u hu => hv u (by rw [hts]; rw [e2] at hu; simp [hu])) e3 (s6.trans ho) (s3.trans hg) (s4.trans hC) hcn ?_ he hw hwt (by rw [e2])
    · show (if y'.left = [] then Stg.write 0 else Stg.doom) = _
      rw [if_neg (by rw [e2]; exact hz)]
    · show dc Sx.H + y'.left.length ≤ x.victims.length
      rw [e2]
      omega
theorem stp_write {i : Nat} (hdn : S.met.done = 0) (hcells : ∀ p, p ∈ ws → 0 ≤ p.cell ∧ p.cell < (C.length : Int)) (b : Bb c ws a S x) (st : x.st = .write i) (hi : i < ws.length) (ho : S.H[0]? = some hdL) (hg : S.gate = ⟨1, 1⟩) (hC : S.cells = puts C (ws.take i)) (hc : cnt a S = i) (hd_ : dc S.H ≤ x.victims.length) (he : x.e = 0) (hw : x.won = false) (hwt : wt = 0) (hr : r = ws.length - i + 2) : Stp c C ws a r S d x wt := by
  obtain ⟨p, hp⟩ : ∃ p, ws[i]? = some p := ⟨_, List.getElem?_eq_getElem hi⟩
  have hcl := hcells p (List.mem_of_getElem? hp)
  have hlen : S.cells.length = C.length := by rw [hC, puts_len]
  obtain ⟨q, hq⟩ : ∃ q, nth S.cells p.cell = some q := by
    unfold nth
    rw [if_pos hcl.1]
    exact ⟨_, List.getElem?_eq_getElem (by omega)⟩
  have es : S.store p.cell p.x = (0, { S.acc 1 p.cell 2 true with cells := S.cells.set p.cell.toNat p.x }) := by
    unfold Sp.store
    rw [hq]
  have e : x.step S d = (1, x.at_ (if i + 1 < ws.length then .write (i + 1) else .give), { S.acc 1 p.cell 2 true with cells := S.cells.set p.cell.toNat p.x }, d) := by
    unfold Cm.step Cm.write_
    rw [st]
    simp only
    rw [b.ws, hp]
    simp only
    rw [es]
  have hC' : S.cells.set p.cell.toNat p.x = puts C (ws.take (i + 1)) := by rw [puts_snoc hp, ← hC]
  obtain ⟨l1, l2⟩ := cnt_acc b.lg 1 p.cell 2 true
  have hcn : cnt a { S.acc 1 p.cell 2 true with cells := S.cells.set p.cell.toNat p.x } = i + 1 := by
    show cnt a (S.acc 1 p.cell 2 true) = _
    rw [l2, hc]
    rfl
  have bb : ∀ s, Bb c ws a { S.acc 1 p.cell 2 true with cells := S.cells.set p.cell.toNat p.x } (x.at_ s) := fun s => ⟨b.slot, b.gen, b.th, b.stamp, b.ws, b.number, b.c, b.len, l1⟩
  refine ⟨by unfold Cm.done; rw [st]; rfl, by rw [e]; exact done1 hdn _ _ _ _, r - 1, by omega, .inl ⟨by rw [e], ?_⟩⟩
  rw [e]
  by_cases hl : i + 1 < ws.length
  · rw [if_pos hl]
    exact .write (i + 1) (bb _) rfl hl ho hg hC' hcn hd_ he hw hwt (by omega)
  · rw [if_neg hl]
    refine .give (bb _) rfl ho hg ?_ (hcn.trans (by omega)) hd_ he hwt (by omega)
    show S.cells.set p.cell.toNat p.x = _
    rw [hC', List.take_of_length_le (by omega)]
theorem stp_give (hdn : S.met.done = 0) (b : Bb c ws a S x) (st : x.st = .give) (ho : S.H[0]? = some hdL) (hg : S.gate = ⟨1, 1⟩) (hC : S.cells = puts C ws) (hc : cnt a S = ws.length) (hd_ : dc S.H ≤ x.victims.length) (he : x.e = 0) (hwt : wt = 0) (hr : r = 2) : Stp c C ws a r S d x wt := by
  have e : x.step S d = (1, { x with won := true, st := .free }, { S.acc 2 0 3 true with gate := ⟨1 + 1, 0⟩ }, d) := by
    unfold Cm.step
    rw [st]
    simp only
    rw [b.th, give_is1 hg]
  obtain ⟨l1, l2⟩ := cnt_acc b.lg 2 0 3 true
  refine ⟨by unfold Cm.done; rw [st]; rfl, by rw [e]; exact done1 hdn _ _ _ _, 1, by omega, .inl ⟨by rw [e], ?_⟩⟩
  rw [e]
  exact .free ⟨b.slot, b.gen, b.th, b.stamp, b.ws, b.number, b.c, b.len, l1⟩ rfl ho rfl (.inl ⟨he, rfl, hC, l2.trans hc, hd_, hwt⟩) rfl
theorem stp_giveUp (hdn : S.met.done = 0) (b : Bb c ws a S x) (st : x.st = .giveUp) (ho : S.H[0]? = some hdL) (hg : S.gate = ⟨1, 1⟩) (hC : S.cells = C) (hc : cnt a S = 0) (hd_ : dc S.H = 0) (he : (x.e = 9 ∧ c.tag = 2 ∧ c.bias < (x.victims.length : Int)) ∨ (x.e = 8 ∧ c.tag = 3)) (hw : x.won = false) (hwt : wt = 0) (hr : r = 2) : Stp c C ws a r S d x wt := by
  have e : x.step S d = (if x.e = 9 then 2 else 1, x.at_ .free, { S.acc 2 0 3 true with gate := ⟨1 + 1, 0⟩ }, d) := by
    unfold Cm.step
    rw [st]
    simp only
    rw [b.th, give_is1 hg]
  obtain ⟨l1, l2⟩ := cnt_acc b.lg 2 0 3 true
  have bb : Bb c ws a { S.acc 2 0 3 true with gate := ⟨1 + 1, 0⟩ } (x.at_ .free) := ⟨b.slot, b.gen, b.th, b.stamp, b.ws, b.number, b.c, b.len, l1⟩
  refine ⟨by unfold Cm.done; rw [st]; rfl, by rw [e]; exact done1 hdn _ _ _ _, 1, by omega, ?_⟩
  rw [e]
  rcases he with ⟨h1, h2, h3⟩ | ⟨h1, h2⟩
  · refine .inr ⟨by rw [h1]; rfl, .free bb rfl ho rfl (.inr ⟨hw, hC, l2.trans hc, hd_, .inl ⟨h1, h2, h3, by rw [hwt]; rfl⟩⟩) rfl⟩
  · refine .inl ⟨by rw [h1]; rfl, .free bb rfl ho rfl (.inr ⟨hw, hC, l2.trans hc, hd_, .inr ⟨h1, h2, hwt⟩⟩) rfl⟩
theorem dc_set0 (H : List Hd) (y : Hd) : dc (H.set 0 y) = dc H := by
  unfold dc
  cases H with
  | nil => rfl
  | cons h t => rfl
theorem stp_free (hdn : S.met.done = 0) (b : Bb c ws a S x) (st : x.st = .free) (ho : S.H[0]? = some hdL) (hg : S.gate = ⟨2, 0⟩) (hE : Ends c C ws a S x wt) (hr : r = 1) : Stp c C ws a r S d x wt := by
  have ef : S.free 0 1 = (0, { S.acc 3 0 3 true with H := S.H.set (Int.toNat 0) ⟨1, 0, 0, 0, false, 0⟩ }) := by
    unfold Sp.free
    rw [nth0 ho]
    simp only
    rw [if_pos (by simp [hdL])]
    rfl
  have e : x.step S d = (1, x.at_ .over, { S.acc 3 0 3 true with H := S.H.set (Int.toNat 0) ⟨1, 0, 0, 0, false, 0⟩ }, d) := by
    unfold Cm.step
    rw [st]
    simp only
    rw [b.slot, b.gen, ef]
  obtain ⟨l1, l2⟩ := cnt_acc b.lg 3 0 3 true
  refine ⟨by unfold Cm.done; rw [st]; rfl, by rw [e]; exact done1 hdn _ _ _ _, 0, by omega, .inl ⟨by rw [e], ?_⟩⟩
  rw [e]
  refine .over ⟨b.slot, b.gen, b.th, b.stamp, b.ws, b.number, b.c, by show (S.H.set _ _).length = 8; rw [List.length_set]; exact b.len, l1⟩ rfl hg ?_ rfl
  have hcn : cnt a { S.acc 3 0 3 true with H := S.H.set (Int.toNat 0) ⟨1, 0, 0, 0, false, 0⟩ } = cnt a S := l2
  have hdc : dc (S.H.set (Int.toNat 0) ⟨1, 0, 0, 0, false, 0⟩) = dc S.H := dc_set0 _ _
  rcases hE with ⟨e1, e2, e3, e4, e5, e6⟩ | ⟨e1, e2, e3, e4, e5⟩
  · exact .inl ⟨e1, e2, e3, hcn.trans e4, by show dc (S.H.set _ _) ≤ _; rw [hdc]; exact e5, e6⟩
  · exact .inr ⟨e1, e2, hcn.trans e3, by show dc (S.H.set _ _) = _; rw [hdc]; exact e4, e5⟩
theorem Bp.step (hdn : S.met.done = 0) (hW : S.W.length = 2 * S.H.length) (hw1 : 1 ≤ ws.length) (hcells : ∀ p, p ∈ ws → 0 ≤ p.cell ∧ p.cell < (C.length : Int)) (p : Bp c C ws a r S d x wt) (hst : x.st ≠ .over) : Stp c C ws a r S d x wt := by
  cases p with
  | own b st ho hg hC hc hd_ he hw hwt hr => exact stp_own hdn hw1 b st ho hg hC hc hd_ he hw hwt hr
  | looking l b st hl hne ht hv hws ho hg hC hc hd_ he hw hwt hr => exact stp_look hdn hW hw1 b st hl hne ht hv hws ho hg hC hc hd_ he hw hwt hr
  | doom y b st hy hne hv hwho ho hg hC hc hd_ he hw hwt hr => exact stp_doom hdn hw1 b st hy hne hv hwho ho hg hC hc hd_ he hw hwt hr
  | write i b st hi ho hg hC hc hd_ he hw hwt hr => exact stp_write hdn hcells b st hi ho hg hC hc hd_ he hw hwt hr
  | give b st ho hg hC hc hd_ he hwt hr => exact stp_give hdn b st ho hg hC hc hd_ he hwt hr
  | giveUp b st ho hg hC hc hd_ he hw hwt hr => exact stp_giveUp hdn b st ho hg hC hc hd_ he hw hwt hr
  | free b st ho hg hE hr => exact stp_free hdn b st ho hg hE hr
  | over b st hg hE hr => exact absurd st hst
theorem Bp.fin (p : Bp c C ws a r S d x wt) (hst : x.st = .over) : S.gate = ⟨2, 0⟩ ∧ Ends c C ws a S x wt := by
  cases p with
  | own b st => rw [hst] at st; cases st
  | looking l b st => rw [hst] at st; cases st
  | doom y b st => rw [hst] at st; cases st
  | write i b st => rw [hst] at st; cases st
  | give b st => rw [hst] at st; cases st
  | giveUp b st => rw [hst] at st; cases st
  | free b st => rw [hst] at st; cases st
  | over b st hg hE hr => exact ⟨hg, hE⟩
/-- Behind the first step. -/
theorem Bp.first {S0 : Sp} {x0 : Cm} (h0 : x0 = Cm.new 0 1 1 5 ws) (hc : S0.c = c) (hl : S0.H.length = 8) (ho : S0.H[0]? = some hdL) (hg : S0.gate = ⟨0, 0⟩) (hC : S0.cells = C) (hd_ : dc S0.H = 0) :
    (x0.step S0 d).1 = 1 ∧ (x0.step S0 d).2.1.number = 1 ∧ (x0.step S0 d).2.1.done = false ∧ (x0.step S0 d).2.2.2 = d ∧ Bp c C ws (x0.step S0 d).2.2.1.met.log.length (ws.length + 31) (x0.step S0 d).2.2.1 d (x0.step S0 d).2.1 0 := by
  subst h0
  have ht : S0.take 1 = ((1, 0), { S0.acc 2 0 3 true with gate := ⟨1, 1⟩ }) := by
    unfold Sp.take
    rw [if_neg (by omega), hg]
    rfl
  have e : (Cm.new 0 1 1 5 ws).step S0 d = (1, { Cm.new 0 1 1 5 ws with number := 1, st := .own }, { S0.acc 2 0 3 true with gate := ⟨1, 1⟩ }, d) := by
    show (((Cm.new 0 1 1 5 ws).take_ S0).1, ((Cm.new 0 1 1 5 ws).take_ S0).2.1, ((Cm.new 0 1 1 5 ws).take_ S0).2.2, d) = _
    unfold Cm.take_
    rw [show (Cm.new 0 1 1 5 ws).thread = 1 from rfl, ht]
    rfl
  rw [e]
  refine ⟨rfl, rfl, rfl, rfl, .own ⟨rfl, rfl, rfl, rfl, rfl, rfl, hc, hl, Nat.le_refl _⟩ rfl ho rfl hC ?_ hd_ rfl rfl rfl rfl⟩
  unfold cnt
  rw [List.drop_length]
  rfl
/-- One that another thread dooms. -/
theorem Oth.doom8 (ha : a ≤ S.met.log.length) {i : Int} (hi : 1 ≤ i) (g : Int) : Oth a S (S.doom i g 8).2 := by
  unfold Sp.doom
  split
  · exact .refl ha
  · split
    · exact .refl ha
    · rename_i x hx
      split
      · refine .set ha _ _ _ _ (by decide) hi (fun h => ⟨x, (nth_len hx).2.2, ?_⟩)
        unfold Hd.doom at h
        split at h
        · exact h
        · simp [isD] at h
      · exact .acc ha _ _ _ _ (by decide)
theorem Oth.trans {S2 : Sp} (h : Oth a S S1) (g : Oth a S1 S2) : Oth a S S2 := ⟨g.c.trans h.c, g.g.trans h.g, g.C.trans h.C, g.len.trans h.len, g.own.trans h.own, Nat.le_trans g.dc h.dc, g.lg, g.cnt.trans h.cnt⟩
theorem seat1_oth (ha : a ≤ S.met.log.length) {i : Int} (hi : 1 ≤ i) (p : ElSea13) : Oth a S (seat1 S i p) := by
  have h1 := Oth.claim ha hi (1 + i)
  have h2 := h1.trans (Oth.put h1.lg i 0 p.words.a)
  have h3 := h2.trans (Oth.put h2.lg i 1 p.words.b)
  unfold seat1
  split
  · have h4 := h3.trans (Oth.ready h3.lg hi 1 (1 + p.stamp % 1024))
    split
    · exact h4.trans (Oth.doom8 h4.lg hi 1)
    · exact h4
  · exact h3
theorem seatsF_oth (ha : a ≤ S.met.log.length) (l : List ElSea13) : ∀ i, Oth a S (seatsF S l i)
  | 0 => .refl ha
  | i + 1 => by
    have ih := seatsF_oth ha l i
    unfold seatsF
    split
    · exact ih
    · exact ih.trans (seat1_oth ih.lg (by omega) _)
theorem spL_dc {c : Cf} (h : 1 ≤ c.slots) : dc (spL c).H = 0 := by
  rw [(spL_is h).2.2]
  show dc ((List.replicate c.slots.toNat Hd.zero).set 0 hdL) = 0
  rw [dc_set0]
  unfold dc
  rw [List.drop_replicate, List.countP_replicate]
  simp [isD, Hd.zero]
end
end Go.Proofs.YtcoekpomiljofaaGreat.bd
