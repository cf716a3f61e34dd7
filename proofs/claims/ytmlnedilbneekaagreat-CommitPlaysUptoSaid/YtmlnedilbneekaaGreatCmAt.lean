/- Layer 13: where a commit lies, beside a space and a judge. -/
import Derived.Test.YtmlnedilbneekaaGreatPolJ
import Derived.Test.YtmlnedilbneekaaGreatSigTouched
import Derived.Test.YtmlnedilbneekaaGreatRegT
set_option linter.unusedVariables false
set_option linter.unusedSimpArgs false
namespace Go.Proofs.YtmlnedilbneekaaGreat
open Go.RowKit Pol
theorem ofR_ok {n : Int} (n0 : 1 ≤ n) (n1 : n ≤ 128) (l : List Int) : (ofR n l).ok := by unfold ofR; split; exact ofL_ok n0 n1 l; exact zero_ok
structure Pr where
 cell : Int
 x : Int
deriving DecidableEq
def Pr.cells (p : Pr) : List Value := [.int .i64 p.cell,.int .i64 p.x]
def prCells (l : List Pr) : List Value := l.flatMap Pr.cells
inductive Stg where
 | take | own | looking | doom | write (n : Nat) | give | giveUp | free | over
deriving DecidableEq
structure Cm where
 slot : Int
 gen : Int
 thread : Int
 stamp : Int
 ws : List Pr
 st : Stg
 number : Int
 lk : Option Lk
 dm : Option Dm
 e : Int
 won : Bool
def Cm.new (slot gen thread stamp : Int) (ws : List Pr) : Cm := ⟨slot,gen,thread,stamp,ws,.take,0,none,none,0,false⟩
def Cm.at_ (x : Cm) (s : Stg) : Cm := { x with st := s }
def Cm.to (x : Cm) : List Int := x.ws.map Pr.cell
def Cm.lost (x : Cm) (h : Hd) : Prop := h.state ≠ 2 ∨ h.gen ≠ x.gen ∨ h.doomed = true
instance (x : Cm) (h : Hd) : Decidable (x.lost h) := by unfold Cm.lost; infer_instance
def Cm.doomed (x : Cm) (y : Dm) : Cm := { x with dm := some y,st := if y.left = [] then .write 0 else .doom }
def Cm.judged (x : Cm) (c : Cf) (d : Int) (vs : List Vc) : Cm :=
 if verdict c x.stamp d vs = 2 then { x with e := 9,st := .giveUp }
 else if verdict c x.stamp d vs = 3 then { x with e := 8,st := .giveUp }
 else x.doomed (Dm.new x.thread vs)
def Cm.behind (x : Cm) (l : Lk) (c : Cf) (d : Int) : Cm × Int :=
 if l.turns = [] then ({ x with lk := some l }.judged c d l.victims,decided c x.stamp d l.victims) else ({ x with lk := some l,st := .looking },d)
def Cm.take_ (x : Cm) (S : Sp) : Int × Cm × Sp := if (S.take x.thread).1.2 = 0 then (1,{ x with number := (S.take x.thread).1.1,st := .own },(S.take x.thread).2) else (2,{ x with st := .take },(S.take x.thread).2)
def Cm.own_ (x : Cm) (S : Sp) (d : Int) : Cm × Sp × Int :=
 if x.lost (S.look x.slot).1.1 then ({ x with e := 7,st := .giveUp },(S.look x.slot).2,d)
 else ((x.behind (Lk.new S.H.length x.slot (ofR S.c.bits x.to)) S.c d).1,(S.look x.slot).2,(x.behind (Lk.new S.H.length x.slot (ofR S.c.bits x.to)) S.c d).2)
def Cm.look_ (x : Cm) (l : Lk) (S : Sp) (d : Int) : Cm × Sp × Int := ((x.behind (l.step S).2.1 S.c d).1,(l.step S).2.2,(x.behind (l.step S).2.1 S.c d).2)
def Cm.doom_ (x : Cm) (y : Dm) (S : Sp) : Cm × Sp := (x.doomed (y.step S).2.1,(y.step S).2.2)
def Cm.write_ (x : Cm) (n : Nat) (p : Pr) (S : Sp) : Cm × Sp := (x.at_ (if n + 1 < x.ws.length then .write (n + 1) else .give),(S.store p.cell p.x).2)
def Cm.step (x : Cm) (S : Sp) (d : Int) : Int × Cm × Sp × Int :=
 match x.st with
 | .take => ((x.take_ S).1,(x.take_ S).2.1,(x.take_ S).2.2,d)
 | .own => (1,(x.own_ S d).1,(x.own_ S d).2.1,(x.own_ S d).2.2)
 | .looking => match x.lk with
   | none => (1,x,S,d)
   | some l => (1,(x.look_ l S d).1,(x.look_ l S d).2.1,(x.look_ l S d).2.2)
 | .doom => match x.dm with
   | none => (1,x,S,d)
   | some y => (1,(x.doom_ y S).1,(x.doom_ y S).2,d)
 | .write n => match x.ws[n]? with
   | none => (1,x,S,d)
   | some p => (1,(x.write_ n p S).1,(x.write_ n p S).2,d)
 | .give => (1,{ x with won := true,st := .free },(S.give x.thread).2,d)
 | .giveUp => (if x.e = 9 then 2 else 1,x.at_ .free,(S.give x.thread).2,d)
 | .free => (1,x.at_ .over,(S.free x.slot x.gen).2,d)
 | .over => (3,x,S,d)
def Cm.done (x : Cm) : Bool := decide (x.st = .over)
def Cm.end_ (x : Cm) : Int := if x.st = .over then x.e else 4
def Cm.victims (x : Cm) : List Vc := match x.lk with | none => [] | some l => l.victims
structure Lk.In (n : Nat) (x : Lk) : Prop where
 sg : x.writes.ok
 turns : ∀ t,t ∈ x.turns → 0 ≤ t ∧ t < n
 sum : x.victims.length + x.turns.length ≤ n
 words : x.words.length ≤ 1
 wu : ∀ v,v ∈ x.words → isU v
 vs : ∀ v,v ∈ x.victims → 0 ≤ v.slot ∧ v.slot < n
structure Cm.Ok (n : Nat) (x : Cm) : Prop where
 n1 : 1 ≤ n
 n8 : n ≤ 8
 s0 : 0 ≤ x.slot
 s1 : x.slot < n
 t1 : 1 ≤ x.thread
 t8 : x.thread ≤ 8
 w1 : 1 ≤ x.ws.length
 w16 : x.ws.length ≤ 16
 lk : ∀ l,x.lk = some l → l.In n
 dm : ∀ y,x.dm = some y → y.doomed.length + y.left.length ≤ 8
 at_look : x.st = .looking → ∃ l,x.lk = some l
 at_doom : x.st = .doom → ∃ y,x.dm = some y
 at_write : ∀ k,x.st = .write k → k < x.ws.length
section
variable {n k : Nat} {x : Cm} {l : Lk} {y : Dm} {S : Sp} {c : Cf} {d : Int}
theorem Lk.In.ok (h : l.In n) (hn : n ≤ 8) : l.Ok 8 := ⟨h.sg,by have := h.sum; omega,fun t ht => by have := h.turns t ht; omega,h.words,h.wu,by have := h.sum; omega⟩
theorem Lk.In.new (hn : n ≤ 8) (slot : Int) {s : Sg} (hs : s.ok) : (Lk.new n slot s).In n :=
 ⟨hs,turnsTo_rng slot n,by simpa [Lk.new] using turnsTo_len slot n,by simp [Lk.new],by simp [Lk.new],by simp [Lk.new]⟩
theorem Lk.In.turn {x : Lk} (h : x.In n) : x.turn.In n :=
 ⟨h.sg,fun t ht => h.turns t (List.mem_of_mem_tail ht),by have := h.sum; show x.victims.length + x.turns.tail.length ≤ n; rw [List.length_tail]; omega,by simp [Lk.turn],by simp [Lk.turn],h.vs⟩
theorem Lk.In.step {x : Lk} (h : x.In n) (hu : S.wu) : (x.step S).2.1.In n := by
 unfold Lk.step
 split
 · exact h
 ·
  rename_i t tl ht
  split
  · split
    · exact Lk.In.turn (x := x.at_ _) ⟨h.sg,h.turns,h.sum,h.words,h.wu,h.vs⟩
    · exact ⟨h.sg,h.turns,h.sum,h.words,h.wu,h.vs⟩
  ·
   split
   · rename_i hl
     refine ⟨h.sg,h.turns,h.sum,by show (x.words ++ [_]).length ≤ 1; rw [List.length_append]; simp only [List.length_cons,List.length_nil]; omega,fun v hv => ?_,h.vs⟩
     simp only [Lk.word,List.mem_append,List.mem_singleton] at hv
     rcases hv with hv | rfl
     · exact h.wu v hv
     · exact hu.word _ _
   ·
    have hs := h.sum
    have htt := h.turns t (by rw [ht]; simp)
    split
    ·
     refine ⟨h.sg,fun t ht => h.turns t (List.mem_of_mem_tail ht),?_,by simp [Lk.turn],by simp [Lk.turn],fun v hv => ?_⟩
     · show (x.victims ++ [_]).length + x.turns.tail.length ≤ n
       rw [List.length_append,List.length_tail,ht]
       rw [ht] at hs
       simp only [List.length_cons,List.length_nil] at hs ⊢
       omega
     · have hv : v ∈ x.victims ++ [⟨t,x.head.gen,x.head.stamp,x.head.thread⟩] := hv
       rw [List.mem_append,List.mem_singleton] at hv
       rcases hv with hv | rfl
       · exact h.vs v hv
       · exact htt
    · exact ⟨h.sg,fun t ht => h.turns t (List.mem_of_mem_tail ht),by show x.victims.length + x.turns.tail.length ≤ n; rw [List.length_tail]; omega,by simp [Lk.turn],by simp [Lk.turn],h.vs⟩
theorem Dm.step_sum (h : y.doomed.length + y.left.length ≤ 8) : (y.step S).2.1.doomed.length + (y.step S).2.1.left.length ≤ 8 := by
 unfold Dm.step
 split
 · exact h
 · rename_i v t ht
   rw [ht] at h
   split
   · simp at h ⊢; omega
   · simp at h ⊢; omega
theorem Cm.Ok.turn (h : x.Ok n) (z : Cm) (e : z.slot = x.slot ∧ z.thread = x.thread ∧ z.ws = x.ws ∧ z.lk = x.lk ∧ z.dm = x.dm) (h1 : z.st ≠ .looking) (h2 : z.st ≠ .doom) (h3 : ∀ k,z.st = .write k → k < x.ws.length) : z.Ok n := by
 obtain ⟨e1,e2,e3,e4,e5⟩ := e
 exact ⟨h.n1,h.n8,e1 ▸ h.s0,e1 ▸ h.s1,e2 ▸ h.t1,e2 ▸ h.t8,e3 ▸ h.w1,e3 ▸ h.w16,fun l hl => h.lk l (e4 ▸ hl),fun y hy => h.dm y (e5 ▸ hy),fun hs => absurd hs h1,fun hs => absurd hs h2,fun k hs => by rw [e3]; exact h3 k hs⟩
theorem Cm.Ok.doomed (h : x.Ok n) (hy : y.doomed.length + y.left.length ≤ 8) : (x.doomed y).Ok n := by
 have hw := h.w1
 unfold Cm.doomed
 refine ⟨h.n1,h.n8,h.s0,h.s1,h.t1,h.t8,h.w1,h.w16,h.lk,fun z hz => by simp at hz; exact hz ▸ hy,fun hs => ?_,fun _ => ⟨y,rfl⟩,fun k hs => ?_⟩
 · dsimp only at hs
   split at hs <;> cases hs
 · dsimp only at hs
   split at hs
   · injection hs with hs; subst hs; exact hw
   · cases hs
theorem Cm.Ok.judged (h : x.Ok n) {vs : List Vc} (hv : vs.length ≤ 8) : (x.judged c d vs).Ok n := by
 unfold Cm.judged
 split
 · exact h.turn _ ⟨rfl,rfl,rfl,rfl,rfl⟩ (by simp) (by simp) (by simp)
 · split
   · exact h.turn _ ⟨rfl,rfl,rfl,rfl,rfl⟩ (by simp) (by simp) (by simp)
   · exact h.doomed (by simpa [Dm.new] using hv)
theorem Cm.Ok.seen (h : x.Ok n) (hl : l.In n) (s : Stg) (hs : s = .looking ∨ s = .own) : ({ x with lk := some l,st := s } : Cm).Ok n :=
 ⟨h.n1,h.n8,h.s0,h.s1,h.t1,h.t8,h.w1,h.w16,fun m hm => by simp at hm; exact hm ▸ hl,h.dm,fun _ => ⟨l,rfl⟩,fun e => (by rcases hs with rfl | rfl <;> cases e),fun k e => (by rcases hs with rfl | rfl <;> cases e)⟩
theorem Cm.Ok.relook (h : x.Ok n) (hl : l.In n) : ({ x with lk := some l } : Cm).Ok n :=
 ⟨h.n1,h.n8,h.s0,h.s1,h.t1,h.t8,h.w1,h.w16,fun m hm => by simp at hm; exact hm ▸ hl,h.dm,fun _ => ⟨l,rfl⟩,h.at_doom,h.at_write⟩
theorem Cm.Ok.behind (h : x.Ok n) (hl : l.In n) : (x.behind l c d).1.Ok n := by
 have hv : l.victims.length ≤ 8 := by have := hl.sum; have := h.n8; omega
 unfold Cm.behind
 split
 · have h1 : ({ x with lk := some l,st := .own } : Cm).Ok n := h.seen hl _ (.inr rfl)
   have h2 := h1.judged (c := c) (d := d) hv
   have e : ({ x with lk := some l } : Cm).judged c d l.victims = ({ x with lk := some l,st := .own } : Cm).judged c d l.victims := rfl
   rw [e]
   exact h2
 · exact h.seen hl _ (.inl rfl)
theorem Cm.Ok.step (h : x.Ok n) (hn : S.H.length = n) (hu : S.wu) (hc : S.c.ok) : (x.step S d).2.1.Ok n := by
 unfold Cm.step
 split
 · rename_i hs
   show (x.take_ S).2.1.Ok n
   unfold Cm.take_
   split
   · exact h.turn _ ⟨rfl,rfl,rfl,rfl,rfl⟩ (by simp) (by simp) (by simp)
   · exact h.turn _ ⟨rfl,rfl,rfl,rfl,rfl⟩ (by simp) (by simp) (by simp)
 · show (x.own_ S d).1.Ok n
   unfold Cm.own_
   split
   · exact h.turn _ ⟨rfl,rfl,rfl,rfl,rfl⟩ (by simp) (by simp) (by simp)
   · rw [hn]
     exact h.behind (Lk.In.new h.n8 _ (ofR_ok hc.2.2.1.1 hc.2.2.1.2 _))
 · split
   · exact h
   · rename_i l hl
     exact h.behind ((h.lk l hl).step hu)
 · split
   · exact h
   · rename_i y hy
     exact h.doomed (Dm.step_sum (h.dm y hy))
 ·
  rename_i k hs
  split
  · exact h
  ·
   refine h.turn _ ⟨rfl,rfl,rfl,rfl,rfl⟩ ?_ ?_ ?_
   · show (if _ then Stg.write (k + 1) else Stg.give) ≠ _
     split <;> simp
   · show (if _ then Stg.write (k + 1) else Stg.give) ≠ _
     split <;> simp
   · intro j e
     have e : (if k + 1 < x.ws.length then Stg.write (k + 1) else Stg.give) = .write j := e
     split at e
     · injection e with e; subst e; assumption
     · cases e
 · exact h.turn _ ⟨rfl,rfl,rfl,rfl,rfl⟩ (by simp) (by simp) (by simp)
 · exact h.turn _ ⟨rfl,rfl,rfl,rfl,rfl⟩ (by simp [Cm.at_]) (by simp [Cm.at_]) (by simp [Cm.at_])
 · exact h.turn _ ⟨rfl,rfl,rfl,rfl,rfl⟩ (by simp [Cm.at_]) (by simp [Cm.at_]) (by simp [Cm.at_])
 · exact h
theorem Sp.take_is (S : Sp) (t : Int) : (S.take t).2.c = S.c ∧ (S.take t).2.W = S.W ∧ (S.take t).2.H = S.H := by unfold Sp.take; split; exact ⟨rfl,rfl,rfl⟩; split <;> exact ⟨rfl,rfl,rfl⟩
theorem Sp.give_is (S : Sp) (t : Int) : (S.give t).2.c = S.c ∧ (S.give t).2.W = S.W ∧ (S.give t).2.H = S.H := by unfold Sp.give; split; exact ⟨rfl,rfl,rfl⟩; split <;> exact ⟨rfl,rfl,rfl⟩
theorem Sp.look_is (S : Sp) (i : Int) : (S.look i).2.c = S.c ∧ (S.look i).2.W = S.W ∧ (S.look i).2.H = S.H := by unfold Sp.look; split <;> exact ⟨rfl,rfl,rfl⟩
theorem Sp.word_is (S : Sp) (i j : Int) : (S.word i j).2.c = S.c ∧ (S.word i j).2.W = S.W ∧ (S.word i j).2.H = S.H := by unfold Sp.word; split <;> exact ⟨rfl,rfl,rfl⟩
theorem Sp.store_is (S : Sp) (i y : Int) : (S.store i y).2.c = S.c ∧ (S.store i y).2.W = S.W ∧ (S.store i y).2.H = S.H := by unfold Sp.store; split <;> exact ⟨rfl,rfl,rfl⟩
theorem Sp.free_is (S : Sp) (i g : Int) : (S.free i g).2.c = S.c ∧ (S.free i g).2.W = S.W ∧ (S.free i g).2.H.length = S.H.length := by unfold Sp.free; split; exact ⟨rfl,rfl,rfl⟩; split; exact ⟨rfl,rfl,by simp⟩; exact ⟨rfl,rfl,rfl⟩
theorem Sp.doom_is (S : Sp) (i g b : Int) : (S.doom i g b).2.c = S.c ∧ (S.doom i g b).2.W = S.W ∧ (S.doom i g b).2.H.length = S.H.length := by
 unfold Sp.doom
 split
 · exact ⟨rfl,rfl,rfl⟩
 · split
   · exact ⟨rfl,rfl,rfl⟩
   · split
     · exact ⟨rfl,rfl,by simp⟩
     · exact ⟨rfl,rfl,rfl⟩
theorem Lk.step_is (l : Lk) (S : Sp) : (l.step S).2.2.c = S.c ∧ (l.step S).2.2.W = S.W ∧ (l.step S).2.2.H = S.H := by
 unfold Lk.step
 split
 · exact ⟨rfl,rfl,rfl⟩
 · split
   · exact S.look_is _
   · exact S.word_is _ _
theorem Dm.step_is (y : Dm) (S : Sp) : (y.step S).2.2.c = S.c ∧ (y.step S).2.2.W = S.W ∧ (y.step S).2.2.H.length = S.H.length := by
 unfold Dm.step
 split
 · exact ⟨rfl,rfl,rfl⟩
 · exact S.doom_is _ _ _
theorem Cm.step_is (x : Cm) (S : Sp) (d : Int) : (x.step S d).2.2.1.c = S.c ∧ (x.step S d).2.2.1.W = S.W ∧ (x.step S d).2.2.1.H.length = S.H.length := by
 have hh : ∀ {A B : Sp},(A.c = B.c ∧ A.W = B.W ∧ A.H = B.H) → A.c = B.c ∧ A.W = B.W ∧ A.H.length = B.H.length := fun h => ⟨h.1,h.2.1,by rw [h.2.2]⟩
 unfold Cm.step
 split
 · show (x.take_ S).2.2.c = S.c ∧ (x.take_ S).2.2.W = S.W ∧ (x.take_ S).2.2.H.length = S.H.length
   unfold Cm.take_
   split <;> exact hh (S.take_is _)
 · show (x.own_ S d).2.1.c = S.c ∧ (x.own_ S d).2.1.W = S.W ∧ (x.own_ S d).2.1.H.length = S.H.length
   unfold Cm.own_
   split <;> exact hh (S.look_is _)
 · split
   · exact ⟨rfl,rfl,rfl⟩
   · rename_i l _
     exact hh (l.step_is S)
 · split
   · exact ⟨rfl,rfl,rfl⟩
   · rename_i y _
     exact y.step_is S
 · split
   · exact ⟨rfl,rfl,rfl⟩
   · exact hh (S.store_is _ _)
 · exact hh (S.give_is _)
 · exact hh (S.give_is _)
 · exact S.free_is _ _
 · exact ⟨rfl,rfl,rfl⟩
theorem Fit.cmstep (h : Fit k S) (x : Cm) (d : Int) : Fit (k + 1) (x.step S d).2.2.1 := by
 unfold Cm.step
 split
 · show Fit _ (x.take_ S).2.2
   unfold Cm.take_
   split <;> exact h.take _
 · show Fit _ (x.own_ S d).2.1
   unfold Cm.own_
   split <;> exact h.look _
 · split
   · exact h.succ
   · exact h.lkstep _
 · split
   · exact h.succ
   · exact h.dmstep _
 · split
   · exact h.succ
   · exact h.store _ _
 · exact h.give _
 · exact h.give _
 · exact h.free _ _
 · exact h.succ
theorem Sp.wu.same {A B : Sp} (h : B.wu) (e : A.W = B.W) : A.wu := by unfold Sp.wu; rw [e]; exact h
theorem decided_rng (hc : c.ok) (st : Int) (vs : List Vc) (h0 : 0 ≤ d) (h1 : d ≤ 64) : 0 ≤ decided c st d vs ∧ decided c st d vs ≤ 64 := by
 unfold decided
 split
 ·
  rename_i h
  unfold verdict at h
  have := hc.2.2.2.2.2
  split at h
  · split at h
    · omega
    · omega
  · split at h
    · split at h <;> omega
    · omega
 · exact ⟨h0,h1⟩
theorem Cm.step_rng (hc : S.c.ok) (h0 : 0 ≤ d) (h1 : d ≤ 64) (x : Cm) : 0 ≤ (x.step S d).2.2.2 ∧ (x.step S d).2.2.2 ≤ 64 := by
 have hb : ∀ l : Lk,0 ≤ (x.behind l S.c d).2 ∧ (x.behind l S.c d).2 ≤ 64 := fun l => by
  unfold Cm.behind
  split
  · exact decided_rng hc _ _ h0 h1
  · exact ⟨h0,h1⟩
 unfold Cm.step
 split
 · exact ⟨h0,h1⟩
 · show 0 ≤ (x.own_ S d).2.2 ∧ (x.own_ S d).2.2 ≤ 64
   unfold Cm.own_
   split
   · exact ⟨h0,h1⟩
   · exact hb _
 · split
   · exact ⟨h0,h1⟩
   · exact hb _
 · split <;> exact ⟨h0,h1⟩
 · split <;> exact ⟨h0,h1⟩
 · exact ⟨h0,h1⟩
 · exact ⟨h0,h1⟩
 · exact ⟨h0,h1⟩
 · exact ⟨h0,h1⟩
end
open Go.RowKit Pol
def stgVal (dp : Nat) : Stg → Value
 | .take => .iface 160 (.agg #[])
 | .own => .iface 269 (.agg #[])
 | .looking => .iface 276 (.agg #[])
 | .doom => .iface 279 (.agg #[PT dp])
 | .write n => .iface 282 (.agg #[.int .i64 n])
 | .give => .iface 289 (.agg #[])
 | .giveUp => .iface 275 (.agg #[])
 | .free => .iface 288 (.agg #[])
 | .over => .nilIface
def lkPtr : Option Nat → Value
 | none => .pointer none
 | some b => PT b
def cmVals (z : Sb) (jb : Nat) (wv nv : Value) (lp : Option Nat) (x : Cm) : Array Value :=
 #[PT z.p,PT jb,.int .i64 x.slot,.int .i64 x.gen,.int .i64 x.thread,.int .i64 x.stamp,wv,nv,.int .i64 x.number,lkPtr lp,.int .i64 x.e,.bool x.won]
def LkP (w0 w : World) (z : Sb) (F : List Nat) (lp : Option Nat) (G : List Nat) : Option Lk → Prop
 | none => lp = none ∧ G = []
 | some l => ∃ b,lp = some b ∧ LK w0 w z F b G l
def DmP (w0 w : World) (z : Sb) (F : List Nat) (dp : Nat) (G : List Nat) : Option Dm → Prop
 | none => G = []
 | some y => DM w0 w z F dp G y
structure CmN (w0 w : World) (z : Sb) (F : List Nat) (jb cb : Nat) (H : List Nat) (dp : Nat) (nv : Value) (x : Cm) : Prop where
 ex : ∃ wv lp Gl Gd,Blk w cb 164 (cmVals z jb wv nv lp x) ∧ w.ownsRow 0 81 2 wv x.ws.length (prCells x.ws) ∧ LkP w0 w z F lp Gl x.lk ∧ DmP w0 w z F dp Gd x.dm ∧
  H = cb :: (vblk wv ++ (Gl ++ Gd)) ∧ (∀ q,q ∈ cb :: vblk wv → q ∉ Gl ++ Gd) ∧ (∀ q,q ∈ Gl → q ∉ Gd)
 low : ∀ q,q ∈ H → w0.heap.size ≤ q
 off : ∀ q,q ∈ H → q ∉ F
 ty : ∀ q,q ∈ H → ∃ t,tyOf w q = some t ∧ t ∉ spFix
section
variable {w0 w w' w'' : World} {z : Sb} {F F' G G' H H' X : List Nat} {S S' : Sp} {k b jb cb dp dp' : Nat} {x x' : Cm} {l : Option Lk} {y : Option Dm} {lp : Option Nat} {nv nv' wv : Value} {c : Cf} {d d' : Int}
theorem LkP.keeps (h : LkP w0 w z F lp G l) (hk : Keeps X w w') (hX : ∀ q,q ∈ G → q ∉ X) (hF : ∀ q,q ∈ F' → q ∈ F ∨ w.heap.size ≤ q) : LkP w0 w' z F' lp G l := by
 cases l with
 | none => exact h
 | some l => obtain ⟨b,e,h⟩ := h; exact ⟨b,e,h.keeps hk hX hF⟩
theorem DmP.keeps (h : DmP w0 w z F dp G y) (hk : Keeps X w w') (hX : ∀ q,q ∈ G → q ∉ X) (hF : ∀ q,q ∈ F' → q ∈ F ∨ w.heap.size ≤ q) : DmP w0 w' z F' dp G y := by
 cases y with
 | none => exact h
 | some y => exact DM.keeps h hk hX hF
theorem CmN.lt (h : CmN w0 w z F jb cb H dp nv x) : ∀ q,q ∈ H → q < w.heap.size := fun q hq => by
 obtain ⟨t,ht,_⟩ := h.ty q hq
 exact tyOf_lt ht
theorem CmN.apt (h : CmN w0 w z F jb cb H dp nv x) : Apt w0 w F H := ⟨h.low,h.off,h.ty⟩
theorem CmN.keeps (h : CmN w0 w z F jb cb H dp nv x) (hk : Keeps X w w') (hX : ∀ q,q ∈ H → q ∉ X) (hF : ∀ q,q ∈ F' → q ∈ F ∨ w.heap.size ≤ q) : CmN w0 w' z F' jb cb H dp nv x := by
 have hlt := h.lt
 obtain ⟨⟨wv,lp,Gl,Gd,h1,h2,h3,h4,rfl,h6,h7⟩,hlow,hoff,hty⟩ := h
 refine ⟨⟨wv,lp,Gl,Gd,h1.keeps hk (hX cb (by simp)),own_keeps h2 hk (fun q hq => hX q (by simp [vblk,hq])),h3.keeps hk (fun q hq => hX q (by simp [hq])) hF,h4.keeps hk (fun q hq => hX q (by simp [hq])) hF,rfl,h6,h7⟩,hlow,fun q hq hf => ?_,fun q hq => ?_⟩
 · rcases hF q hf with hg | hg
   · exact hoff q hq hg
   · have := hlt q hq; omega
 · obtain ⟨t,ht,hn⟩ := hty q hq
   exact ⟨t,tyOf_keeps ht hk (hX q hq),hn⟩
theorem CmN.calm (h : CmN w0 w z F jb cb H dp nv x) (hk : Keeps [] w w') : CmN w0 w' z F jb cb H dp nv x := h.keeps hk (by simp) (fun q hq => .inl hq)
theorem CmN.bare (h : CmN w0 w z F jb cb H dp nv x) : CmN w0 w z [] jb cb H dp nv x := h.keeps (Keeps.refl [] w) (by simp) (by simp)
theorem LkP.beside (h : LkP w0 w z [] lp G l) (hF : ∀ q,q ∈ G → q ∉ F) : LkP w0 w z F lp G l := by
 cases l with
 | none => exact h
 | some l => obtain ⟨b,e,h⟩ := h; exact ⟨b,e,h.ex,h.low,hF⟩
theorem DmP.beside (h : DmP w0 w z [] dp G y) (hF : ∀ q,q ∈ G → q ∉ F) : DmP w0 w z F dp G y := by
 cases y with
 | none => exact h
 | some y => exact ⟨h.ex,h.low,hF⟩
theorem CmN.beside (h : CmN w0 w z [] jb cb H dp nv x) (hF : ∀ q,q ∈ H → q ∉ F) : CmN w0 w z F jb cb H dp nv x := by
 obtain ⟨⟨wv,lp,Gl,Gd,h1,h2,h3,h4,rfl,h6,h7⟩,hlow,hoff,hty⟩ := h
 exact ⟨⟨wv,lp,Gl,Gd,h1,h2,h3.beside (fun q hq => hF q (by simp [hq])),h4.beside (fun q hq => hF q (by simp [hq])),rfl,h6,h7⟩,hlow,hF,hty⟩
theorem CmN.blk (h : CmN w0 w z F jb cb H dp nv x) : ∃ wv lp,Blk w cb 164 (cmVals z jb wv nv lp x) := by
 obtain ⟨⟨wv,lp,Gl,Gd,h1,_⟩,_⟩ := h
 exact ⟨wv,lp,h1⟩
theorem CmN.inH (h : CmN w0 w z F jb cb H dp nv x) : cb ∈ H := by
 obtain ⟨⟨wv,lp,Gl,Gd,h1,h2,h3,h4,rfl,_⟩,_⟩ := h
 simp
theorem CmN.fix (h : CmN w0 w z F jb cb H dp nv x) : w.cell? ⟨cb,0,none⟩ = some (PT z.p) ∧ w.cell? ⟨cb,1,none⟩ = some (PT jb) ∧ w.cell? ⟨cb,2,none⟩ = some (.int .i64 x.slot) ∧ w.cell? ⟨cb,3,none⟩ = some (.int .i64 x.gen) ∧ w.cell? ⟨cb,4,none⟩ = some (.int .i64 x.thread) ∧ w.cell? ⟨cb,5,none⟩ = some (.int .i64 x.stamp) := by
 obtain ⟨wv,lp,h1⟩ := h.blk
 exact ⟨(h1.cell 0).trans rfl,(h1.cell 1).trans rfl,(h1.cell 2).trans rfl,(h1.cell 3).trans rfl,(h1.cell 4).trans rfl,(h1.cell 5).trans rfl⟩
theorem CmN.var (h : CmN w0 w z F jb cb H dp nv x) : w.cell? ⟨cb,7,none⟩ = some nv ∧ w.cell? ⟨cb,8,none⟩ = some (.int .i64 x.number) ∧ w.cell? ⟨cb,10,none⟩ = some (.int .i64 x.e) ∧ w.cell? ⟨cb,11,none⟩ = some (.bool x.won) := by
 obtain ⟨wv,lp,h1⟩ := h.blk
 exact ⟨(h1.cell 7).trans rfl,(h1.cell 8).trans rfl,(h1.cell 10).trans rfl,(h1.cell 11).trans rfl⟩
theorem CmN.frozen (h : CmN w0 w z F jb cb H dp nv x) (i : Nat) : w.frozen? ⟨cb,i,none⟩ = false := by
 obtain ⟨wv,lp,h1⟩ := h.blk
 exact h1.frozen i
theorem CmN.look_none (h : CmN w0 w z F jb cb H dp nv x) (hl : x.lk = none) : w.cell? ⟨cb,9,none⟩ = some (.pointer none) := by
 obtain ⟨⟨wv,lp,Gl,Gd,h1,h2,h3,_⟩,_⟩ := h
 rw [hl] at h3
 rw [h3.1] at h1
 exact (h1.cell 9).trans rfl
theorem CmN.look_some {l : Lk} (h : CmN w0 w z F jb cb H dp nv x) (hl : x.lk = some l) : ∃ b G,w.cell? ⟨cb,9,none⟩ = some (PT b) ∧ LK w0 w z F b G l ∧ (∀ q,q ∈ G → q ∈ H ∧ q ≠ cb) := by
 obtain ⟨⟨wv,lp,Gl,Gd,h1,h2,h3,h4,rfl,h6,h7⟩,_⟩ := h
 rw [hl] at h3
 obtain ⟨b,rfl,h3⟩ := h3
 exact ⟨b,Gl,(h1.cell 9).trans rfl,h3,fun q hq => ⟨by simp [hq],fun e => h6 cb (by simp) (by rw [← e]; simp [hq])⟩⟩
theorem CmN.writes (h : CmN w0 w z F jb cb H dp nv x) : ∃ wv,w.cell? ⟨cb,6,none⟩ = some wv ∧ w.ownsRow 0 81 2 wv x.ws.length (prCells x.ws) := by
 obtain ⟨⟨wv,lp,Gl,Gd,h1,h2,_⟩,_⟩ := h
 exact ⟨wv,(h1.cell 6).trans rfl,h2⟩
theorem CmN.set (h : CmN w0 w z F jb cb H dp nv x) (i : Nat) (v : Value) (he : ∀ wv lp,(cmVals z jb wv nv lp x).setIfInBounds i v = cmVals z jb wv nv' lp x') (e1 : x'.ws = x.ws) (e2 : x'.lk = x.lk) (e3 : x'.dm = x.dm) : CmN w0 (w.setCell ⟨cb,i,none⟩ v) z F jb cb H dp nv' x' := by
 have hk : Keeps [cb] w (w.setCell ⟨cb,i,none⟩ v) := (Keeps.refl [cb] w).setCell (.inl (by simp)) _
 obtain ⟨⟨wv,lp,Gl,Gd,h1,h2,h3,h4,rfl,h6,h7⟩,hlow,hoff,hty⟩ := h
 have hw : ∀ q,q ∈ vblk wv → q ≠ cb := fun q hq e => by
  subst e
  have a := own_tyOf h2 (by simpa [vblk] using hq)
  rw [h1.tyOf] at a
  injection a with a
  exact absurd a (by decide)
 have hg : ∀ q,q ∈ Gl ++ Gd → q ∉ [cb] := fun q hq hx => by
  simp only [List.mem_singleton] at hx
  subst hx
  exact h6 q (by simp) hq
 refine ⟨⟨wv,lp,Gl,Gd,he wv lp ▸ h1.set_ i v,?_,?_,?_,rfl,h6,h7⟩,hlow,hoff,fun q hq => ?_⟩
 · rw [e1]; exact own_keeps h2 hk (fun q hq => by simp only [List.mem_singleton]; exact hw q (by simpa [vblk] using hq))
 · rw [e2]; exact h3.keeps hk (fun q hq => hg q (by simp [hq])) (fun q hq => .inl hq)
 · rw [e3]; exact h4.keeps hk (fun q hq => hg q (by simp [hq])) (fun q hq => .inl hq)
 ·
  obtain ⟨t,ht,hn⟩ := hty q hq
  by_cases e : q = cb
  · subst e
    have := h1.set_ i v
    rw [ht.symm.trans h1.tyOf] at *
    exact ⟨_,this.tyOf,by decide⟩
  · exact ⟨t,tyOf_keeps ht hk (by simp [e]),hn⟩
def WentC (w0 w w' : World) (z : Sb) (F H : List Nat) (jb cb dp : Nat) (nv : Value) (S' : Sp) (c : Cf) (d' : Int) (x' : Cm) : Prop :=
 ∃ F' H',SP w0 w' z F' S' ∧ JAt w' jb c d' ∧ CmN w0 w' z F' jb cb H' dp nv x' ∧ Keeps (jb :: (H ++ F)) w w' ∧ (∀ q,q ∈ F' → q ∈ F ∨ w.heap.size ≤ q) ∧ (∀ q,q ∈ H' → q ∈ H ∨ w.heap.size ≤ q)
structure CmTrio (w0 w : World) (z : Sb) (F H : List Nat) (jb cb dp : Nat) (nv : Value) (S : Sp) (c : Cf) (d : Int) (x : Cm) : Prop where
 sp : SP w0 w z F S
 j : JAt w jb c d
 cm : CmN w0 w z F jb cb H dp nv x
 jH : jb ∉ H
 jlow : w0.heap.size ≤ jb
theorem CmTrio.jF (h : CmTrio w0 w z F H jb cb dp nv S c d x) : jb ∉ F := h.sp.out h.j (by decide)
theorem CmTrio.calm (h : CmTrio w0 w z F H jb cb dp nv S c d x) (hk : Keeps [] w w') : CmTrio w0 w' z F H jb cb dp nv S c d x := ⟨h.sp.calm hk,Blk.keeps h.j hk (by simp),h.cm.calm hk,h.jH,h.jlow⟩
theorem CmTrio.still (h : CmTrio w0 w z F H jb cb dp nv S c d x) (hk : Keeps [] w w') : WentC w0 w w' z F H jb cb dp nv S c d x :=
 ⟨F,H,h.sp.calm hk,Blk.keeps h.j hk (by simp),h.cm.calm hk,hk.mono (by simp),fun q hq => .inl hq,fun q hq => .inl hq⟩
theorem CmTrio.call (h : CmTrio w0 w z F H jb cb dp nv S c d x) (hW : Went w0 w w' z F S') : ∃ F',CmTrio w0 w' z F' H jb cb dp nv S' c d x ∧ Keeps F w w' ∧ (∀ q,q ∈ F' → q ∈ F ∨ w.heap.size ≤ q) := by
 obtain ⟨F',h1,h2,h3⟩ := hW
 exact ⟨F',⟨h1,Blk.keeps h.j h2 h.jF,h.cm.keeps h2 h.cm.off h3,h.jH,h.jlow⟩,h2,h3⟩
theorem WentC.trio (h : CmTrio w0 w z F H jb cb dp nv S c d x) (hw : WentC w0 w w' z F H jb cb dp' nv' S' c d' x') : ∃ F' H',CmTrio w0 w' z F' H' jb cb dp' nv' S' c d' x' ∧ Keeps (jb :: (H ++ F)) w w' ∧ (∀ q,q ∈ F' → q ∈ F ∨ w.heap.size ≤ q) ∧ (∀ q,q ∈ H' → q ∈ H ∨ w.heap.size ≤ q) := by
 obtain ⟨F',H',h1,h2,h3,h4,h5,h6⟩ := hw
 refine ⟨F',H',⟨h1,h2,h3,fun hx => ?_,h.jlow⟩,h4,h5,h6⟩
 rcases h6 jb hx with hg | hg
 · exact h.jH hg
 · have := Blk.lt h.j; omega
theorem WentC.of (h : CmTrio w0 w' z F' H' jb cb dp nv S c d x) (hk : Keeps (jb :: (H ++ F)) w w') (hF : ∀ q,q ∈ F' → q ∈ F ∨ w.heap.size ≤ q) (hH : ∀ q,q ∈ H' → q ∈ H ∨ w.heap.size ≤ q) : WentC w0 w w' z F H jb cb dp nv S c d x :=
 ⟨F',H',h.sp,h.j,h.cm,hk,hF,hH⟩
theorem WentC.trans {w1 : World} {F1 H1 : List Nat} (hk : Keeps (jb :: (H ++ F)) w w1) (hF : ∀ q,q ∈ F1 → q ∈ F ∨ w.heap.size ≤ q) (hH : ∀ q,q ∈ H1 → q ∈ H ∨ w.heap.size ≤ q) (h2 : WentC w0 w1 w' z F1 H1 jb cb dp nv S' c d' x') : WentC w0 w w' z F H jb cb dp nv S' c d' x' := by
 obtain ⟨F',H',a1,a2,a3,a4,a5,a6⟩ := h2
 have hsz := hk.size
 refine ⟨F',H',a1,a2,a3,hk.trans a4 (fun q hq => ?_),fun q hq => ?_,fun q hq => ?_⟩
 · simp only [List.mem_cons,List.mem_append] at hq ⊢
   rcases hq with rfl | hq | hq
   · exact .inl (.inl rfl)
   · exact (hH q hq).imp (fun h => .inr (.inl h)) id
   · exact (hF q hq).imp (fun h => .inr (.inr h)) id
 · rcases a5 q hq with hg | hg
   · exact hF q hg
   · exact .inr (by omega)
 · rcases a6 q hq with hg | hg
   · exact hH q hg
   · exact .inr (by omega)
theorem WentC.set (hw : WentC w0 w w' z F H jb cb dp nv S' c d' x) (i : Nat) (v : Value) (he : ∀ wv lp,(cmVals z jb wv nv lp x).setIfInBounds i v = cmVals z jb wv nv' lp x') (e1 : x'.ws = x.ws) (e2 : x'.lk = x.lk) (e3 : x'.dm = x.dm) (hj : jb < w.heap.size) (hjH : jb ∉ H) : WentC w0 w (w'.setCell ⟨cb,i,none⟩ v) z F H jb cb dp nv' S' c d' x' := by
 obtain ⟨F',H',a1,a2,a3,a4,a5,a6⟩ := hw
 have hk : Keeps [cb] w' (w'.setCell ⟨cb,i,none⟩ v) := (Keeps.refl [cb] w').setCell (.inl (by simp)) _
 have hjc : jb ∉ [cb] := fun hx => by
  simp only [List.mem_singleton] at hx
  subst hx
  rcases a6 _ a3.inH with hg | hg
  · exact hjH hg
  · omega
 refine ⟨F',H',a1.apt a3.apt hk (fun q hq => by simp at hq; subst hq; exact a3.inH),Blk.keeps a2 hk hjc,a3.set i v he e1 e2 e3,a4.trans hk (fun q hq => ?_),a5,a6⟩
 simp only [List.mem_singleton] at hq
 subst hq
 rcases a6 _ a3.inH with hg | hg
 · exact .inl (by simp [hg])
 · exact .inr hg
theorem WentC.calm (hw : WentC w0 w w' z F H jb cb dp nv S' c d' x) (hk : Keeps [] w' w'') : WentC w0 w w'' z F H jb cb dp nv S' c d' x := by
 obtain ⟨F',H',a1,a2,a3,a4,a5,a6⟩ := hw
 exact ⟨F',H',a1.calm hk,Blk.keeps a2 hk (by simp),a3.calm hk,a4.trans hk (by simp),a5,a6⟩
theorem CmN.st (h : CmN w0 w z F jb cb H dp nv x) (s : Stg) : CmN w0 w z F jb cb H dp nv (x.at_ s) := by
 obtain ⟨⟨wv,lp,Gl,Gd,h1,h2,h3,h4,h5,h6,h7⟩,hlow,hoff,hty⟩ := h
 exact ⟨⟨wv,lp,Gl,Gd,h1,h2,h3,h4,h5,h6,h7⟩,hlow,hoff,hty⟩
theorem WentC.st (hw : WentC w0 w w' z F H jb cb dp nv S' c d' x) (s : Stg) : WentC w0 w w' z F H jb cb dp nv S' c d' (x.at_ s) := by
 obtain ⟨F',H',a1,a2,a3,a4,a5,a6⟩ := hw
 exact ⟨F',H',a1,a2,a3.st s,a4,a5,a6⟩
end
end Go.Proofs.YtmlnedilbneekaaGreat