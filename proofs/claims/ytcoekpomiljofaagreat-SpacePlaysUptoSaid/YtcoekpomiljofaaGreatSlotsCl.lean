/- Package slots: Claim, Ready, Doom, Free. -/
import Derived.Test.YtcoekpomiljofaaGreatSlotsTr
namespace Go.Proofs.YtcoekpomiljofaaGreat
open Go.RowKit
set_option linter.unusedVariables false
theorem enter_claim1 : ∀ args w, (callFunc 60 args).run Tryz.prog w = .ok (.enter 60 args) w := fun _ _ => by simp [callFunc, go_sem, Tryz.func60]; rfl
theorem enter_claim2 : ∀ args w, (callFunc 61 args).run Tryz.prog w = .ok (.enter 61 args) w := fun _ _ => by simp [callFunc, go_sem, Tryz.func61]; rfl
theorem enter_ready1 : ∀ args w, (callFunc 62 args).run Tryz.prog w = .ok (.enter 62 args) w := fun _ _ => by simp [callFunc, go_sem, Tryz.func62]; rfl
theorem enter_ready2 : ∀ args w, (callFunc 63 args).run Tryz.prog w = .ok (.enter 63 args) w := fun _ _ => by simp [callFunc, go_sem, Tryz.func63]; rfl
theorem enter_doom1 : ∀ args w, (callFunc 139 args).run Tryz.prog w = .ok (.enter 139 args) w := fun _ _ => by simp [callFunc, go_sem, Tryz.func139]; rfl
theorem enter_doom2 : ∀ args w, (callFunc 140 args).run Tryz.prog w = .ok (.enter 140 args) w := fun _ _ => by simp [callFunc, go_sem, Tryz.func140]; rfl
theorem enter_free1 : ∀ args w, (callFunc 141 args).run Tryz.prog w = .ok (.enter 141 args) w := fun _ _ => by simp [callFunc, go_sem, Tryz.func141]; rfl
theorem enter_free2 : ∀ args w, (callFunc 142 args).run Tryz.prog w = .ok (.enter 142 args) w := fun _ _ => by simp [callFunc, go_sem, Tryz.func142]; rfl
theorem TLeft.wide {t : Tb} {mp : Option Nat} {H : List Hd} {W : List Int} {lb : Nat} {s : MS} {w wB w2 w3 : World} (hT : TLeft t mp H W lb s wB w2) (hk : Keeps [] w wB) (hk2 : Keeps [] w2 w3) : TLeft t mp H W lb s w w3 := by
  obtain ⟨h1, lb', h2, h3, h4⟩ := hT
  have hz := hk.size
  exact ⟨h1.calm hk2, lb', h2.keeps hk2 (by simp), ((hk.mono (T := t.b :: t.c :: foot mp lb) (by simp)).trans h3 (fun x hx => .inl hx)).trans hk2 (by simp), by omega⟩

set_option maxRecDepth 100000 in
theorem claim_ok (w : World) (t : Tb) (mp : Option Nat) (H : List Hd) (W : List Int) (h : TabAt w t mp H W) (lb : Nat) (s : MS) (hm : MetAt MT w mp lb s) (hl : Room mp s) (k : Nat) (x : Hd) (hx : H[k]? = some x) (th : Int) (t1 : 1 ≤ th) (t2 : th ≤ 8) (h0 : x.state = 0) :
    Calls Tryz.prog 14 #[.pointer (some ⟨t.q, 0, none⟩), .int .i64 k, .int .i64 th] w fun e w' => e = .returned (.tuple #[.int .i64 (wrap64 (x.gen + 1)), .int .i64 0]) ∧ TLeft t mp (H.set k ⟨wrap64 (x.gen + 1), 1, 0, th, false, 0⟩) W lb (s.note 3 k 3 true) w w' := by
  have hk : k < H.length := (List.getElem?_eq_some_iff.1 hx).1
  have kB : Keeps [] w (w.alloc (.cells #[.int .i64 th] 3)) := (Keeps.refl _ _).alloc _
  have B0 := Lib.hid (show Blk (w.alloc (.cells #[.int .i64 th] 3)) (w.heap.size) 3 #[.int .i64 th] from Blk.new _ _ _)
  have QT := Lib.hid (there_yes (w.alloc (.cells #[.int .i64 th] 3)) t mp H W (h.calm kB) k (by omega) (by omega))
  have QX := Lib.hid (trade_y (w.alloc (.cells #[.int .i64 th] 3)) t mp H W (h.calm kB) lb s (hm.keeps kB (by simp)) hl k x hx 60 61 #[] #[.pointer (some ⟨w.heap.size, 0, none⟩)] ⟨wrap64 (x.gen + 1), 1, 0, th, false, 0⟩ enter_claim1 enter_claim2
    (fun w' hk' => by simpa using claim1_yes w' x h0) (fun w' hk' => by simpa using claim2 w' x _ th (((B0.out.keeps hk' (by simp)).cell 0).trans rfl)))
  have KB := Lib.hid kB
  clear h hm hl hx kB
  go_enter Tryz.func14, Tryz.ntmps14
  go_wp2_with fail
  refine (sThread_yes _ th t1 t2).mono ?_
  rintro e wa ⟨rfl, rfl⟩
  go_wp2_with fail
  refine QT.out.mono ?_
  rintro e wb ⟨rfl, rfl⟩
  go_wp2_with fail
  refine QX.out.mono ?_
  rintro e w2 ⟨rfl, hT⟩
  have HT := Lib.hid hT
  clear hT QX QT
  go_wp2_with fail
  go_ret2
  exact ⟨rfl, HT.out.wide KB.out ((Keeps.refl _ _).alloc _)⟩

set_option maxRecDepth 100000 in
theorem claim_held (w : World) (t : Tb) (mp : Option Nat) (H : List Hd) (W : List Int) (h : TabAt w t mp H W) (lb : Nat) (s : MS) (hm : MetAt MT w mp lb s) (hl : Room mp s) (k : Nat) (x : Hd) (hx : H[k]? = some x) (th : Int) (t1 : 1 ≤ th) (t2 : th ≤ 8) (hnv : x.gen ≠ -1) (h0 : ¬ x.state = 0) :
    Calls Tryz.prog 14 #[.pointer (some ⟨t.q, 0, none⟩), .int .i64 k, .int .i64 th] w fun e w' => e = .returned (.tuple #[.int .i64 0, .int .i64 5]) ∧ TLeft t mp (H) W lb (s.note 3 k 3 false) w w' := by
  have hk : k < H.length := (List.getElem?_eq_some_iff.1 hx).1
  have kB : Keeps [] w (w.alloc (.cells #[.int .i64 th] 3)) := (Keeps.refl _ _).alloc _
  have B0 := Lib.hid (show Blk (w.alloc (.cells #[.int .i64 th] 3)) (w.heap.size) 3 #[.int .i64 th] from Blk.new _ _ _)
  have QT := Lib.hid (there_yes (w.alloc (.cells #[.int .i64 th] 3)) t mp H W (h.calm kB) k (by omega) (by omega))
  have QX := Lib.hid (trade_n (w.alloc (.cells #[.int .i64 th] 3)) t mp H W (h.calm kB) lb s (hm.keeps kB (by simp)) hl k x hx (fun e => hnv (by rw [e]; rfl)) 60 61 #[] #[.pointer (some ⟨w.heap.size, 0, none⟩)] ⟨wrap64 (x.gen + 1), 1, 0, th, false, 0⟩ enter_claim1 enter_claim2
    (fun w' hk' => by simpa using claim1_no w' x h0) (fun w' hk' => by simpa using claim2 w' x _ th (((B0.out.keeps hk' (by simp)).cell 0).trans rfl)))
  have KB := Lib.hid kB
  clear h hm hl hx kB
  go_enter Tryz.func14, Tryz.ntmps14
  go_wp2_with fail
  refine (sThread_yes _ th t1 t2).mono ?_
  rintro e wa ⟨rfl, rfl⟩
  go_wp2_with fail
  refine QT.out.mono ?_
  rintro e wb ⟨rfl, rfl⟩
  go_wp2_with fail
  refine QX.out.mono ?_
  rintro e w2 ⟨rfl, hT⟩
  have HT := Lib.hid hT
  clear hT QX QT
  go_wp2_with fail
  go_ret2
  exact ⟨rfl, HT.out.wide KB.out ((Keeps.refl _ _).alloc _)⟩

theorem claim_bad (w : World) (q : Nat) (k : Int) (th : Int) (ht : th < 1 ∨ 8 < th) :
    Calls Tryz.prog 14 #[.pointer (some ⟨q, 0, none⟩), .int .i64 k, .int .i64 th] w fun e w' => e = .returned (.tuple #[.int .i64 0, .int .i64 1]) ∧ Keeps [] w w' := by
  have kB : Keeps [] w (w.alloc (.cells #[.int .i64 th] 3)) := (Keeps.refl _ _).alloc _
  have B0 := Lib.hid (show Blk (w.alloc (.cells #[.int .i64 th] 3)) (w.heap.size) 3 #[.int .i64 th] from Blk.new _ _ _)
  clear B0
  have KB := Lib.hid kB
  clear kB
  have QT := Lib.hid (sThread_no (w.alloc (.cells #[.int .i64 th] 3)) th ht)
  clear ht
  go_enter Tryz.func14, Tryz.ntmps14
  go_wp2_with fail
  refine QT.out.mono ?_
  rintro e wa ⟨rfl, rfl⟩
  go_wp2_with fail
  go_ret2
  exact ⟨rfl, KB.out⟩

theorem claim_place (w : World) (t : Tb) (mp : Option Nat) (H : List Hd) (W : List Int) (h : TabAt w t mp H W) (k : Int) (hk : k < 0 ∨ (H.length : Int) ≤ k) (th : Int) (t1 : 1 ≤ th) (t2 : th ≤ 8) :
    Calls Tryz.prog 14 #[.pointer (some ⟨t.q, 0, none⟩), .int .i64 k, .int .i64 th] w fun e w' => e = .returned (.tuple #[.int .i64 0, .int .i64 2]) ∧ Keeps [] w w' := by
  have kB : Keeps [] w (w.alloc (.cells #[.int .i64 th] 3)) := (Keeps.refl _ _).alloc _
  have B0 := Lib.hid (show Blk (w.alloc (.cells #[.int .i64 th] 3)) (w.heap.size) 3 #[.int .i64 th] from Blk.new _ _ _)
  clear B0
  have QT := Lib.hid (there_no (w.alloc (.cells #[.int .i64 th] 3)) t mp H W (h.calm kB) k hk)
  have KB := Lib.hid kB
  clear h kB hk
  go_enter Tryz.func14, Tryz.ntmps14
  go_wp2_with fail
  refine (sThread_yes _ th t1 t2).mono ?_
  rintro e wa ⟨rfl, rfl⟩
  go_wp2_with fail
  refine QT.out.mono ?_
  rintro e wb ⟨rfl, rfl⟩
  go_wp2_with fail
  go_ret2
  exact ⟨rfl, KB.out⟩

set_option maxRecDepth 100000 in
theorem ready_ok (w : World) (t : Tb) (mp : Option Nat) (H : List Hd) (W : List Int) (h : TabAt w t mp H W) (lb : Nat) (s : MS) (hm : MetAt MT w mp lb s) (hl : Room mp s) (k : Nat) (x : Hd) (hx : H[k]? = some x) (g st : Int) (t1 : 1 ≤ st) (h0 : x.state = 1) (h1 : x.gen = g) :
    Calls Tryz.prog 15 #[.pointer (some ⟨t.q, 0, none⟩), .int .i64 k, .int .i64 g, .int .i64 st] w fun e w' => e = .returned (.int .i64 0) ∧ TLeft t mp (H.set k ⟨x.gen, 2, st, x.thread, x.doomed, x.who⟩) W lb (s.note 3 k 3 true) w w' := by
  have hk : k < H.length := (List.getElem?_eq_some_iff.1 hx).1
  have kB : Keeps [] w ((w.alloc (.cells #[.int .i64 g] 3)).alloc (.cells #[.int .i64 st] 3)) := ((Keeps.refl _ _).alloc _).alloc _
  have B0 := Lib.hid (show Blk ((w.alloc (.cells #[.int .i64 g] 3)).alloc (.cells #[.int .i64 st] 3)) (w.heap.size) 3 #[.int .i64 g] from (Blk.new _ _ _).alloc _)
  have B1 := Lib.hid (show Blk ((w.alloc (.cells #[.int .i64 g] 3)).alloc (.cells #[.int .i64 st] 3)) (w.heap.size + 1) 3 #[.int .i64 st] from new_at _ _ _ (by simp))
  have QT := Lib.hid (there_yes ((w.alloc (.cells #[.int .i64 g] 3)).alloc (.cells #[.int .i64 st] 3)) t mp H W (h.calm kB) k (by omega) (by omega))
  have QX := Lib.hid (trade_y ((w.alloc (.cells #[.int .i64 g] 3)).alloc (.cells #[.int .i64 st] 3)) t mp H W (h.calm kB) lb s (hm.keeps kB (by simp)) hl k x hx 62 63 #[.pointer (some ⟨w.heap.size, 0, none⟩)] #[.pointer (some ⟨w.heap.size + 1, 0, none⟩)] ⟨x.gen, 2, st, x.thread, x.doomed, x.who⟩ enter_ready1 enter_ready2
    (fun w' hk' => by simpa using ready1_yes w' x _ g (((B0.out.keeps hk' (by simp)).cell 0).trans rfl) h0 h1) (fun w' hk' => by simpa using ready2 w' x _ st (((B1.out.keeps hk' (by simp)).cell 0).trans rfl)))
  have KB := Lib.hid kB
  clear h hm hl hx kB
  go_enter Tryz.func15, Tryz.ntmps15
  go_wp2_with fail
  refine QT.out.mono ?_
  rintro e wb ⟨rfl, rfl⟩
  go_wp2_with fail
  refine QX.out.mono ?_
  rintro e w2 ⟨rfl, hT⟩
  have HT := Lib.hid hT
  clear hT QX QT
  go_wp2_with fail
  go_ret
  exact ⟨rfl, HT.out.wide KB.out ((Keeps.refl _ _).alloc _)⟩

set_option maxRecDepth 100000 in
theorem ready_no (w : World) (t : Tb) (mp : Option Nat) (H : List Hd) (W : List Int) (h : TabAt w t mp H W) (lb : Nat) (s : MS) (hm : MetAt MT w mp lb s) (hl : Room mp s) (k : Nat) (x : Hd) (hx : H[k]? = some x) (g st : Int) (t1 : 1 ≤ st) (hnv : x.gen ≠ -1) (h0 : x.state = 1) (h1 : ¬ x.gen = g) :
    Calls Tryz.prog 15 #[.pointer (some ⟨t.q, 0, none⟩), .int .i64 k, .int .i64 g, .int .i64 st] w fun e w' => e = .returned (.int .i64 4) ∧ TLeft t mp (H) W lb (s.note 3 k 3 false) w w' := by
  have hk : k < H.length := (List.getElem?_eq_some_iff.1 hx).1
  have kB : Keeps [] w ((w.alloc (.cells #[.int .i64 g] 3)).alloc (.cells #[.int .i64 st] 3)) := ((Keeps.refl _ _).alloc _).alloc _
  have B0 := Lib.hid (show Blk ((w.alloc (.cells #[.int .i64 g] 3)).alloc (.cells #[.int .i64 st] 3)) (w.heap.size) 3 #[.int .i64 g] from (Blk.new _ _ _).alloc _)
  have B1 := Lib.hid (show Blk ((w.alloc (.cells #[.int .i64 g] 3)).alloc (.cells #[.int .i64 st] 3)) (w.heap.size + 1) 3 #[.int .i64 st] from new_at _ _ _ (by simp))
  have QT := Lib.hid (there_yes ((w.alloc (.cells #[.int .i64 g] 3)).alloc (.cells #[.int .i64 st] 3)) t mp H W (h.calm kB) k (by omega) (by omega))
  have QX := Lib.hid (trade_n ((w.alloc (.cells #[.int .i64 g] 3)).alloc (.cells #[.int .i64 st] 3)) t mp H W (h.calm kB) lb s (hm.keeps kB (by simp)) hl k x hx (fun e => hnv (by rw [e]; rfl)) 62 63 #[.pointer (some ⟨w.heap.size, 0, none⟩)] #[.pointer (some ⟨w.heap.size + 1, 0, none⟩)] ⟨x.gen, 2, st, x.thread, x.doomed, x.who⟩ enter_ready1 enter_ready2
    (fun w' hk' => by simpa using ready1_no w' x _ g (((B0.out.keeps hk' (by simp)).cell 0).trans rfl) h0 h1) (fun w' hk' => by simpa using ready2 w' x _ st (((B1.out.keeps hk' (by simp)).cell 0).trans rfl)))
  have KB := Lib.hid kB
  clear h hm hl hx kB
  go_enter Tryz.func15, Tryz.ntmps15
  go_wp2_with fail
  refine QT.out.mono ?_
  rintro e wb ⟨rfl, rfl⟩
  go_wp2_with fail
  refine QX.out.mono ?_
  rintro e w2 ⟨rfl, hT⟩
  have HT := Lib.hid hT
  clear hT QX QT
  go_wp2_with fail
  go_ret
  exact ⟨rfl, HT.out.wide KB.out ((Keeps.refl _ _).alloc _)⟩

set_option maxRecDepth 100000 in
theorem ready_not (w : World) (t : Tb) (mp : Option Nat) (H : List Hd) (W : List Int) (h : TabAt w t mp H W) (lb : Nat) (s : MS) (hm : MetAt MT w mp lb s) (hl : Room mp s) (k : Nat) (x : Hd) (hx : H[k]? = some x) (g st : Int) (t1 : 1 ≤ st) (hnv : x.gen ≠ -1) (h0 : ¬ x.state = 1) :
    Calls Tryz.prog 15 #[.pointer (some ⟨t.q, 0, none⟩), .int .i64 k, .int .i64 g, .int .i64 st] w fun e w' => e = .returned (.int .i64 4) ∧ TLeft t mp (H) W lb (s.note 3 k 3 false) w w' := by
  have hk : k < H.length := (List.getElem?_eq_some_iff.1 hx).1
  have kB : Keeps [] w ((w.alloc (.cells #[.int .i64 g] 3)).alloc (.cells #[.int .i64 st] 3)) := ((Keeps.refl _ _).alloc _).alloc _
  have B0 := Lib.hid (show Blk ((w.alloc (.cells #[.int .i64 g] 3)).alloc (.cells #[.int .i64 st] 3)) (w.heap.size) 3 #[.int .i64 g] from (Blk.new _ _ _).alloc _)
  have B1 := Lib.hid (show Blk ((w.alloc (.cells #[.int .i64 g] 3)).alloc (.cells #[.int .i64 st] 3)) (w.heap.size + 1) 3 #[.int .i64 st] from new_at _ _ _ (by simp))
  have QT := Lib.hid (there_yes ((w.alloc (.cells #[.int .i64 g] 3)).alloc (.cells #[.int .i64 st] 3)) t mp H W (h.calm kB) k (by omega) (by omega))
  have QX := Lib.hid (trade_n ((w.alloc (.cells #[.int .i64 g] 3)).alloc (.cells #[.int .i64 st] 3)) t mp H W (h.calm kB) lb s (hm.keeps kB (by simp)) hl k x hx (fun e => hnv (by rw [e]; rfl)) 62 63 #[.pointer (some ⟨w.heap.size, 0, none⟩)] #[.pointer (some ⟨w.heap.size + 1, 0, none⟩)] ⟨x.gen, 2, st, x.thread, x.doomed, x.who⟩ enter_ready1 enter_ready2
    (fun w' hk' => by simpa using ready1_not w' x _ g (((B0.out.keeps hk' (by simp)).cell 0).trans rfl) h0) (fun w' hk' => by simpa using ready2 w' x _ st (((B1.out.keeps hk' (by simp)).cell 0).trans rfl)))
  have KB := Lib.hid kB
  clear h hm hl hx kB
  go_enter Tryz.func15, Tryz.ntmps15
  go_wp2_with fail
  refine QT.out.mono ?_
  rintro e wb ⟨rfl, rfl⟩
  go_wp2_with fail
  refine QX.out.mono ?_
  rintro e w2 ⟨rfl, hT⟩
  have HT := Lib.hid hT
  clear hT QX QT
  go_wp2_with fail
  go_ret
  exact ⟨rfl, HT.out.wide KB.out ((Keeps.refl _ _).alloc _)⟩

theorem ready_bad (w : World) (q : Nat) (k : Int) (g st : Int) (ht : st < 1) :
    Calls Tryz.prog 15 #[.pointer (some ⟨q, 0, none⟩), .int .i64 k, .int .i64 g, .int .i64 st] w fun e w' => e = .returned (.int .i64 1) ∧ Keeps [] w w' := by
  have kB : Keeps [] w ((w.alloc (.cells #[.int .i64 g] 3)).alloc (.cells #[.int .i64 st] 3)) := ((Keeps.refl _ _).alloc _).alloc _
  have B0 := Lib.hid (show Blk ((w.alloc (.cells #[.int .i64 g] 3)).alloc (.cells #[.int .i64 st] 3)) (w.heap.size) 3 #[.int .i64 g] from (Blk.new _ _ _).alloc _)
  have B1 := Lib.hid (show Blk ((w.alloc (.cells #[.int .i64 g] 3)).alloc (.cells #[.int .i64 st] 3)) (w.heap.size + 1) 3 #[.int .i64 st] from new_at _ _ _ (by simp))
  clear B0 B1
  have KB := Lib.hid kB
  clear kB
  go_enter Tryz.func15, Tryz.ntmps15
  go_wp2_with fail
  go_ret
  exact ⟨rfl, KB.out⟩

theorem ready_place (w : World) (t : Tb) (mp : Option Nat) (H : List Hd) (W : List Int) (h : TabAt w t mp H W) (k : Int) (hk : k < 0 ∨ (H.length : Int) ≤ k) (g st : Int) (t1 : 1 ≤ st) :
    Calls Tryz.prog 15 #[.pointer (some ⟨t.q, 0, none⟩), .int .i64 k, .int .i64 g, .int .i64 st] w fun e w' => e = .returned (.int .i64 2) ∧ Keeps [] w w' := by
  have kB : Keeps [] w ((w.alloc (.cells #[.int .i64 g] 3)).alloc (.cells #[.int .i64 st] 3)) := ((Keeps.refl _ _).alloc _).alloc _
  have B0 := Lib.hid (show Blk ((w.alloc (.cells #[.int .i64 g] 3)).alloc (.cells #[.int .i64 st] 3)) (w.heap.size) 3 #[.int .i64 g] from (Blk.new _ _ _).alloc _)
  have B1 := Lib.hid (show Blk ((w.alloc (.cells #[.int .i64 g] 3)).alloc (.cells #[.int .i64 st] 3)) (w.heap.size + 1) 3 #[.int .i64 st] from new_at _ _ _ (by simp))
  clear B0 B1
  have QT := Lib.hid (there_no ((w.alloc (.cells #[.int .i64 g] 3)).alloc (.cells #[.int .i64 st] 3)) t mp H W (h.calm kB) k hk)
  have KB := Lib.hid kB
  clear h kB hk
  go_enter Tryz.func15, Tryz.ntmps15
  go_wp2_with fail
  refine QT.out.mono ?_
  rintro e wb ⟨rfl, rfl⟩
  go_wp2_with fail
  go_ret
  exact ⟨rfl, KB.out⟩

set_option maxRecDepth 100000 in
theorem doom_new (w : World) (t : Tb) (mp : Option Nat) (H : List Hd) (W : List Int) (h : TabAt w t mp H W) (lb : Nat) (s : MS) (hm : MetAt MT w mp lb s) (hl : Room mp s) (k : Nat) (x : Hd) (hx : H[k]? = some x) (g by_ : Int) (t1 : 1 ≤ by_) (t2 : by_ ≤ 8) (h0 : x.state = 2) (h1 : x.gen = g) (hd : x.doomed = false) :
    Calls Tryz.prog 70 #[.pointer (some ⟨t.q, 0, none⟩), .int .i64 k, .int .i64 g, .int .i64 by_] w fun e w' => e = .returned (.int .i64 0) ∧ TLeft t mp (H.set k ⟨x.gen, x.state, x.stamp, x.thread, true, by_⟩) W lb (s.note 3 k 3 true) w w' := by
  have hk : k < H.length := (List.getElem?_eq_some_iff.1 hx).1
  have kB : Keeps [] w ((w.alloc (.cells #[.int .i64 g] 3)).alloc (.cells #[.int .i64 by_] 3)) := ((Keeps.refl _ _).alloc _).alloc _
  have B0 := Lib.hid (show Blk ((w.alloc (.cells #[.int .i64 g] 3)).alloc (.cells #[.int .i64 by_] 3)) (w.heap.size) 3 #[.int .i64 g] from (Blk.new _ _ _).alloc _)
  have B1 := Lib.hid (show Blk ((w.alloc (.cells #[.int .i64 g] 3)).alloc (.cells #[.int .i64 by_] 3)) (w.heap.size + 1) 3 #[.int .i64 by_] from new_at _ _ _ (by simp))
  have QT := Lib.hid (there_yes ((w.alloc (.cells #[.int .i64 g] 3)).alloc (.cells #[.int .i64 by_] 3)) t mp H W (h.calm kB) k (by omega) (by omega))
  have QX := Lib.hid (trade_y ((w.alloc (.cells #[.int .i64 g] 3)).alloc (.cells #[.int .i64 by_] 3)) t mp H W (h.calm kB) lb s (hm.keeps kB (by simp)) hl k x hx 139 140 #[.pointer (some ⟨w.heap.size, 0, none⟩)] #[.pointer (some ⟨w.heap.size + 1, 0, none⟩)] ⟨x.gen, x.state, x.stamp, x.thread, true, by_⟩ enter_doom1 enter_doom2
    (fun w' hk' => by simpa using doom1_yes w' x _ g (((B0.out.keeps hk' (by simp)).cell 0).trans rfl) h0 h1) (fun w' hk' => by simpa using doom2_new w' x _ by_ (((B1.out.keeps hk' (by simp)).cell 0).trans rfl) hd))
  have KB := Lib.hid kB
  clear h hm hl hx kB
  go_enter Tryz.func70, Tryz.ntmps70
  go_wp2_with fail
  refine (sThread_yes _ by_ t1 t2).mono ?_
  rintro e wa ⟨rfl, rfl⟩
  go_wp2_with fail
  refine QT.out.mono ?_
  rintro e wb ⟨rfl, rfl⟩
  go_wp2_with fail
  refine QX.out.mono ?_
  rintro e w2 ⟨rfl, hT⟩
  have HT := Lib.hid hT
  clear hT QX QT
  go_wp2_with fail
  go_ret
  exact ⟨rfl, HT.out.wide KB.out ((Keeps.refl _ _).alloc _)⟩

set_option maxRecDepth 100000 in
theorem doom_old (w : World) (t : Tb) (mp : Option Nat) (H : List Hd) (W : List Int) (h : TabAt w t mp H W) (lb : Nat) (s : MS) (hm : MetAt MT w mp lb s) (hl : Room mp s) (k : Nat) (x : Hd) (hx : H[k]? = some x) (g by_ : Int) (t1 : 1 ≤ by_) (t2 : by_ ≤ 8) (h0 : x.state = 2) (h1 : x.gen = g) (hd : x.doomed = true) :
    Calls Tryz.prog 70 #[.pointer (some ⟨t.q, 0, none⟩), .int .i64 k, .int .i64 g, .int .i64 by_] w fun e w' => e = .returned (.int .i64 0) ∧ TLeft t mp (H.set k x) W lb (s.note 3 k 3 true) w w' := by
  have hk : k < H.length := (List.getElem?_eq_some_iff.1 hx).1
  have kB : Keeps [] w ((w.alloc (.cells #[.int .i64 g] 3)).alloc (.cells #[.int .i64 by_] 3)) := ((Keeps.refl _ _).alloc _).alloc _
  have B0 := Lib.hid (show Blk ((w.alloc (.cells #[.int .i64 g] 3)).alloc (.cells #[.int .i64 by_] 3)) (w.heap.size) 3 #[.int .i64 g] from (Blk.new _ _ _).alloc _)
  have B1 := Lib.hid (show Blk ((w.alloc (.cells #[.int .i64 g] 3)).alloc (.cells #[.int .i64 by_] 3)) (w.heap.size + 1) 3 #[.int .i64 by_] from new_at _ _ _ (by simp))
  have QT := Lib.hid (there_yes ((w.alloc (.cells #[.int .i64 g] 3)).alloc (.cells #[.int .i64 by_] 3)) t mp H W (h.calm kB) k (by omega) (by omega))
  have QX := Lib.hid (trade_y ((w.alloc (.cells #[.int .i64 g] 3)).alloc (.cells #[.int .i64 by_] 3)) t mp H W (h.calm kB) lb s (hm.keeps kB (by simp)) hl k x hx 139 140 #[.pointer (some ⟨w.heap.size, 0, none⟩)] #[.pointer (some ⟨w.heap.size + 1, 0, none⟩)] x enter_doom1 enter_doom2
    (fun w' hk' => by simpa using doom1_yes w' x _ g (((B0.out.keeps hk' (by simp)).cell 0).trans rfl) h0 h1) (fun w' hk' => by simpa using doom2_old w' x _ by_ (((B1.out.keeps hk' (by simp)).cell 0).trans rfl) hd))
  have KB := Lib.hid kB
  clear h hm hl hx kB
  go_enter Tryz.func70, Tryz.ntmps70
  go_wp2_with fail
  refine (sThread_yes _ by_ t1 t2).mono ?_
  rintro e wa ⟨rfl, rfl⟩
  go_wp2_with fail
  refine QT.out.mono ?_
  rintro e wb ⟨rfl, rfl⟩
  go_wp2_with fail
  refine QX.out.mono ?_
  rintro e w2 ⟨rfl, hT⟩
  have HT := Lib.hid hT
  clear hT QX QT
  go_wp2_with fail
  go_ret
  exact ⟨rfl, HT.out.wide KB.out ((Keeps.refl _ _).alloc _)⟩

set_option maxRecDepth 100000 in
theorem doom_no0 (w : World) (t : Tb) (mp : Option Nat) (H : List Hd) (W : List Int) (h : TabAt w t mp H W) (lb : Nat) (s : MS) (hm : MetAt MT w mp lb s) (hl : Room mp s) (k : Nat) (x : Hd) (hx : H[k]? = some x) (g by_ : Int) (t1 : 1 ≤ by_) (t2 : by_ ≤ 8) (hnv : x.gen ≠ -1) (h0 : x.state = 2) (h1 : ¬ x.gen = g) (hd : x.doomed = false) :
    Calls Tryz.prog 70 #[.pointer (some ⟨t.q, 0, none⟩), .int .i64 k, .int .i64 g, .int .i64 by_] w fun e w' => e = .returned (.int .i64 4) ∧ TLeft t mp (H) W lb (s.note 3 k 3 false) w w' := by
  have hk : k < H.length := (List.getElem?_eq_some_iff.1 hx).1
  have kB : Keeps [] w ((w.alloc (.cells #[.int .i64 g] 3)).alloc (.cells #[.int .i64 by_] 3)) := ((Keeps.refl _ _).alloc _).alloc _
  have B0 := Lib.hid (show Blk ((w.alloc (.cells #[.int .i64 g] 3)).alloc (.cells #[.int .i64 by_] 3)) (w.heap.size) 3 #[.int .i64 g] from (Blk.new _ _ _).alloc _)
  have B1 := Lib.hid (show Blk ((w.alloc (.cells #[.int .i64 g] 3)).alloc (.cells #[.int .i64 by_] 3)) (w.heap.size + 1) 3 #[.int .i64 by_] from new_at _ _ _ (by simp))
  have QT := Lib.hid (there_yes ((w.alloc (.cells #[.int .i64 g] 3)).alloc (.cells #[.int .i64 by_] 3)) t mp H W (h.calm kB) k (by omega) (by omega))
  have QX := Lib.hid (trade_n ((w.alloc (.cells #[.int .i64 g] 3)).alloc (.cells #[.int .i64 by_] 3)) t mp H W (h.calm kB) lb s (hm.keeps kB (by simp)) hl k x hx (fun e => hnv (by rw [e]; rfl)) 139 140 #[.pointer (some ⟨w.heap.size, 0, none⟩)] #[.pointer (some ⟨w.heap.size + 1, 0, none⟩)] ⟨x.gen, x.state, x.stamp, x.thread, true, by_⟩ enter_doom1 enter_doom2
    (fun w' hk' => by simpa using doom1_no w' x _ g (((B0.out.keeps hk' (by simp)).cell 0).trans rfl) h0 h1) (fun w' hk' => by simpa using doom2_new w' x _ by_ (((B1.out.keeps hk' (by simp)).cell 0).trans rfl) hd))
  have KB := Lib.hid kB
  clear h hm hl hx kB
  go_enter Tryz.func70, Tryz.ntmps70
  go_wp2_with fail
  refine (sThread_yes _ by_ t1 t2).mono ?_
  rintro e wa ⟨rfl, rfl⟩
  go_wp2_with fail
  refine QT.out.mono ?_
  rintro e wb ⟨rfl, rfl⟩
  go_wp2_with fail
  refine QX.out.mono ?_
  rintro e w2 ⟨rfl, hT⟩
  have HT := Lib.hid hT
  clear hT QX QT
  go_wp2_with fail
  go_ret
  exact ⟨rfl, HT.out.wide KB.out ((Keeps.refl _ _).alloc _)⟩

set_option maxRecDepth 100000 in
theorem doom_not0 (w : World) (t : Tb) (mp : Option Nat) (H : List Hd) (W : List Int) (h : TabAt w t mp H W) (lb : Nat) (s : MS) (hm : MetAt MT w mp lb s) (hl : Room mp s) (k : Nat) (x : Hd) (hx : H[k]? = some x) (g by_ : Int) (t1 : 1 ≤ by_) (t2 : by_ ≤ 8) (hnv : x.gen ≠ -1) (h0 : ¬ x.state = 2) (hd : x.doomed = false) :
    Calls Tryz.prog 70 #[.pointer (some ⟨t.q, 0, none⟩), .int .i64 k, .int .i64 g, .int .i64 by_] w fun e w' => e = .returned (.int .i64 4) ∧ TLeft t mp (H) W lb (s.note 3 k 3 false) w w' := by
  have hk : k < H.length := (List.getElem?_eq_some_iff.1 hx).1
  have kB : Keeps [] w ((w.alloc (.cells #[.int .i64 g] 3)).alloc (.cells #[.int .i64 by_] 3)) := ((Keeps.refl _ _).alloc _).alloc _
  have B0 := Lib.hid (show Blk ((w.alloc (.cells #[.int .i64 g] 3)).alloc (.cells #[.int .i64 by_] 3)) (w.heap.size) 3 #[.int .i64 g] from (Blk.new _ _ _).alloc _)
  have B1 := Lib.hid (show Blk ((w.alloc (.cells #[.int .i64 g] 3)).alloc (.cells #[.int .i64 by_] 3)) (w.heap.size + 1) 3 #[.int .i64 by_] from new_at _ _ _ (by simp))
  have QT := Lib.hid (there_yes ((w.alloc (.cells #[.int .i64 g] 3)).alloc (.cells #[.int .i64 by_] 3)) t mp H W (h.calm kB) k (by omega) (by omega))
  have QX := Lib.hid (trade_n ((w.alloc (.cells #[.int .i64 g] 3)).alloc (.cells #[.int .i64 by_] 3)) t mp H W (h.calm kB) lb s (hm.keeps kB (by simp)) hl k x hx (fun e => hnv (by rw [e]; rfl)) 139 140 #[.pointer (some ⟨w.heap.size, 0, none⟩)] #[.pointer (some ⟨w.heap.size + 1, 0, none⟩)] ⟨x.gen, x.state, x.stamp, x.thread, true, by_⟩ enter_doom1 enter_doom2
    (fun w' hk' => by simpa using doom1_not w' x _ g (((B0.out.keeps hk' (by simp)).cell 0).trans rfl) h0) (fun w' hk' => by simpa using doom2_new w' x _ by_ (((B1.out.keeps hk' (by simp)).cell 0).trans rfl) hd))
  have KB := Lib.hid kB
  clear h hm hl hx kB
  go_enter Tryz.func70, Tryz.ntmps70
  go_wp2_with fail
  refine (sThread_yes _ by_ t1 t2).mono ?_
  rintro e wa ⟨rfl, rfl⟩
  go_wp2_with fail
  refine QT.out.mono ?_
  rintro e wb ⟨rfl, rfl⟩
  go_wp2_with fail
  refine QX.out.mono ?_
  rintro e w2 ⟨rfl, hT⟩
  have HT := Lib.hid hT
  clear hT QX QT
  go_wp2_with fail
  go_ret
  exact ⟨rfl, HT.out.wide KB.out ((Keeps.refl _ _).alloc _)⟩

set_option maxRecDepth 100000 in
theorem doom_no1 (w : World) (t : Tb) (mp : Option Nat) (H : List Hd) (W : List Int) (h : TabAt w t mp H W) (lb : Nat) (s : MS) (hm : MetAt MT w mp lb s) (hl : Room mp s) (k : Nat) (x : Hd) (hx : H[k]? = some x) (g by_ : Int) (t1 : 1 ≤ by_) (t2 : by_ ≤ 8) (hnv : x.gen ≠ -1) (h0 : x.state = 2) (h1 : ¬ x.gen = g) (hd : x.doomed = true) :
    Calls Tryz.prog 70 #[.pointer (some ⟨t.q, 0, none⟩), .int .i64 k, .int .i64 g, .int .i64 by_] w fun e w' => e = .returned (.int .i64 4) ∧ TLeft t mp (H) W lb (s.note 3 k 3 false) w w' := by
  have hk : k < H.length := (List.getElem?_eq_some_iff.1 hx).1
  have kB : Keeps [] w ((w.alloc (.cells #[.int .i64 g] 3)).alloc (.cells #[.int .i64 by_] 3)) := ((Keeps.refl _ _).alloc _).alloc _
  have B0 := Lib.hid (show Blk ((w.alloc (.cells #[.int .i64 g] 3)).alloc (.cells #[.int .i64 by_] 3)) (w.heap.size) 3 #[.int .i64 g] from (Blk.new _ _ _).alloc _)
  have B1 := Lib.hid (show Blk ((w.alloc (.cells #[.int .i64 g] 3)).alloc (.cells #[.int .i64 by_] 3)) (w.heap.size + 1) 3 #[.int .i64 by_] from new_at _ _ _ (by simp))
  have QT := Lib.hid (there_yes ((w.alloc (.cells #[.int .i64 g] 3)).alloc (.cells #[.int .i64 by_] 3)) t mp H W (h.calm kB) k (by omega) (by omega))
  have QX := Lib.hid (trade_n ((w.alloc (.cells #[.int .i64 g] 3)).alloc (.cells #[.int .i64 by_] 3)) t mp H W (h.calm kB) lb s (hm.keeps kB (by simp)) hl k x hx (fun e => hnv (by rw [e]; rfl)) 139 140 #[.pointer (some ⟨w.heap.size, 0, none⟩)] #[.pointer (some ⟨w.heap.size + 1, 0, none⟩)] x enter_doom1 enter_doom2
    (fun w' hk' => by simpa using doom1_no w' x _ g (((B0.out.keeps hk' (by simp)).cell 0).trans rfl) h0 h1) (fun w' hk' => by simpa using doom2_old w' x _ by_ (((B1.out.keeps hk' (by simp)).cell 0).trans rfl) hd))
  have KB := Lib.hid kB
  clear h hm hl hx kB
  go_enter Tryz.func70, Tryz.ntmps70
  go_wp2_with fail
  refine (sThread_yes _ by_ t1 t2).mono ?_
  rintro e wa ⟨rfl, rfl⟩
  go_wp2_with fail
  refine QT.out.mono ?_
  rintro e wb ⟨rfl, rfl⟩
  go_wp2_with fail
  refine QX.out.mono ?_
  rintro e w2 ⟨rfl, hT⟩
  have HT := Lib.hid hT
  clear hT QX QT
  go_wp2_with fail
  go_ret
  exact ⟨rfl, HT.out.wide KB.out ((Keeps.refl _ _).alloc _)⟩

set_option maxRecDepth 100000 in
theorem doom_not1 (w : World) (t : Tb) (mp : Option Nat) (H : List Hd) (W : List Int) (h : TabAt w t mp H W) (lb : Nat) (s : MS) (hm : MetAt MT w mp lb s) (hl : Room mp s) (k : Nat) (x : Hd) (hx : H[k]? = some x) (g by_ : Int) (t1 : 1 ≤ by_) (t2 : by_ ≤ 8) (hnv : x.gen ≠ -1) (h0 : ¬ x.state = 2) (hd : x.doomed = true) :
    Calls Tryz.prog 70 #[.pointer (some ⟨t.q, 0, none⟩), .int .i64 k, .int .i64 g, .int .i64 by_] w fun e w' => e = .returned (.int .i64 4) ∧ TLeft t mp (H) W lb (s.note 3 k 3 false) w w' := by
  have hk : k < H.length := (List.getElem?_eq_some_iff.1 hx).1
  have kB : Keeps [] w ((w.alloc (.cells #[.int .i64 g] 3)).alloc (.cells #[.int .i64 by_] 3)) := ((Keeps.refl _ _).alloc _).alloc _
  have B0 := Lib.hid (show Blk ((w.alloc (.cells #[.int .i64 g] 3)).alloc (.cells #[.int .i64 by_] 3)) (w.heap.size) 3 #[.int .i64 g] from (Blk.new _ _ _).alloc _)
  have B1 := Lib.hid (show Blk ((w.alloc (.cells #[.int .i64 g] 3)).alloc (.cells #[.int .i64 by_] 3)) (w.heap.size + 1) 3 #[.int .i64 by_] from new_at _ _ _ (by simp))
  have QT := Lib.hid (there_yes ((w.alloc (.cells #[.int .i64 g] 3)).alloc (.cells #[.int .i64 by_] 3)) t mp H W (h.calm kB) k (by omega) (by omega))
  have QX := Lib.hid (trade_n ((w.alloc (.cells #[.int .i64 g] 3)).alloc (.cells #[.int .i64 by_] 3)) t mp H W (h.calm kB) lb s (hm.keeps kB (by simp)) hl k x hx (fun e => hnv (by rw [e]; rfl)) 139 140 #[.pointer (some ⟨w.heap.size, 0, none⟩)] #[.pointer (some ⟨w.heap.size + 1, 0, none⟩)] x enter_doom1 enter_doom2
    (fun w' hk' => by simpa using doom1_not w' x _ g (((B0.out.keeps hk' (by simp)).cell 0).trans rfl) h0) (fun w' hk' => by simpa using doom2_old w' x _ by_ (((B1.out.keeps hk' (by simp)).cell 0).trans rfl) hd))
  have KB := Lib.hid kB
  clear h hm hl hx kB
  go_enter Tryz.func70, Tryz.ntmps70
  go_wp2_with fail
  refine (sThread_yes _ by_ t1 t2).mono ?_
  rintro e wa ⟨rfl, rfl⟩
  go_wp2_with fail
  refine QT.out.mono ?_
  rintro e wb ⟨rfl, rfl⟩
  go_wp2_with fail
  refine QX.out.mono ?_
  rintro e w2 ⟨rfl, hT⟩
  have HT := Lib.hid hT
  clear hT QX QT
  go_wp2_with fail
  go_ret
  exact ⟨rfl, HT.out.wide KB.out ((Keeps.refl _ _).alloc _)⟩

theorem doom_bad (w : World) (q : Nat) (k : Int) (g by_ : Int) (ht : by_ < 1 ∨ 8 < by_) :
    Calls Tryz.prog 70 #[.pointer (some ⟨q, 0, none⟩), .int .i64 k, .int .i64 g, .int .i64 by_] w fun e w' => e = .returned (.int .i64 1) ∧ Keeps [] w w' := by
  have kB : Keeps [] w ((w.alloc (.cells #[.int .i64 g] 3)).alloc (.cells #[.int .i64 by_] 3)) := ((Keeps.refl _ _).alloc _).alloc _
  have B0 := Lib.hid (show Blk ((w.alloc (.cells #[.int .i64 g] 3)).alloc (.cells #[.int .i64 by_] 3)) (w.heap.size) 3 #[.int .i64 g] from (Blk.new _ _ _).alloc _)
  have B1 := Lib.hid (show Blk ((w.alloc (.cells #[.int .i64 g] 3)).alloc (.cells #[.int .i64 by_] 3)) (w.heap.size + 1) 3 #[.int .i64 by_] from new_at _ _ _ (by simp))
  clear B0 B1
  have KB := Lib.hid kB
  clear kB
  have QT := Lib.hid (sThread_no ((w.alloc (.cells #[.int .i64 g] 3)).alloc (.cells #[.int .i64 by_] 3)) by_ ht)
  clear ht
  go_enter Tryz.func70, Tryz.ntmps70
  go_wp2_with fail
  refine QT.out.mono ?_
  rintro e wa ⟨rfl, rfl⟩
  go_wp2_with fail
  go_ret
  exact ⟨rfl, KB.out⟩

theorem doom_place (w : World) (t : Tb) (mp : Option Nat) (H : List Hd) (W : List Int) (h : TabAt w t mp H W) (k : Int) (hk : k < 0 ∨ (H.length : Int) ≤ k) (g by_ : Int) (t1 : 1 ≤ by_) (t2 : by_ ≤ 8) :
    Calls Tryz.prog 70 #[.pointer (some ⟨t.q, 0, none⟩), .int .i64 k, .int .i64 g, .int .i64 by_] w fun e w' => e = .returned (.int .i64 2) ∧ Keeps [] w w' := by
  have kB : Keeps [] w ((w.alloc (.cells #[.int .i64 g] 3)).alloc (.cells #[.int .i64 by_] 3)) := ((Keeps.refl _ _).alloc _).alloc _
  have B0 := Lib.hid (show Blk ((w.alloc (.cells #[.int .i64 g] 3)).alloc (.cells #[.int .i64 by_] 3)) (w.heap.size) 3 #[.int .i64 g] from (Blk.new _ _ _).alloc _)
  have B1 := Lib.hid (show Blk ((w.alloc (.cells #[.int .i64 g] 3)).alloc (.cells #[.int .i64 by_] 3)) (w.heap.size + 1) 3 #[.int .i64 by_] from new_at _ _ _ (by simp))
  clear B0 B1
  have QT := Lib.hid (there_no ((w.alloc (.cells #[.int .i64 g] 3)).alloc (.cells #[.int .i64 by_] 3)) t mp H W (h.calm kB) k hk)
  have KB := Lib.hid kB
  clear h kB hk
  go_enter Tryz.func70, Tryz.ntmps70
  go_wp2_with fail
  refine (sThread_yes _ by_ t1 t2).mono ?_
  rintro e wa ⟨rfl, rfl⟩
  go_wp2_with fail
  refine QT.out.mono ?_
  rintro e wb ⟨rfl, rfl⟩
  go_wp2_with fail
  go_ret
  exact ⟨rfl, KB.out⟩

set_option maxRecDepth 100000 in
theorem free_ok (w : World) (t : Tb) (mp : Option Nat) (H : List Hd) (W : List Int) (h : TabAt w t mp H W) (lb : Nat) (s : MS) (hm : MetAt MT w mp lb s) (hl : Room mp s) (k : Nat) (x : Hd) (hx : H[k]? = some x) (g : Int)  (h0 : ¬ x.state = 0) (h1 : x.gen = g) :
    Calls Tryz.prog 71 #[.pointer (some ⟨t.q, 0, none⟩), .int .i64 k, .int .i64 g] w fun e w' => e = .returned (.int .i64 0) ∧ TLeft t mp (H.set k ⟨x.gen, 0, 0, 0, false, 0⟩) W lb (s.note 3 k 3 true) w w' := by
  have hk : k < H.length := (List.getElem?_eq_some_iff.1 hx).1
  have kB : Keeps [] w (w.alloc (.cells #[.int .i64 g] 3)) := (Keeps.refl _ _).alloc _
  have B0 := Lib.hid (show Blk (w.alloc (.cells #[.int .i64 g] 3)) (w.heap.size) 3 #[.int .i64 g] from Blk.new _ _ _)
  have QT := Lib.hid (there_yes (w.alloc (.cells #[.int .i64 g] 3)) t mp H W (h.calm kB) k (by omega) (by omega))
  have QX := Lib.hid (trade_y (w.alloc (.cells #[.int .i64 g] 3)) t mp H W (h.calm kB) lb s (hm.keeps kB (by simp)) hl k x hx 141 142 #[.pointer (some ⟨w.heap.size, 0, none⟩)] #[] ⟨x.gen, 0, 0, 0, false, 0⟩ enter_free1 enter_free2
    (fun w' hk' => by simpa using free1_yes w' x _ g (((B0.out.keeps hk' (by simp)).cell 0).trans rfl) h0 h1) (fun w' hk' => by simpa using free2 w' x))
  have KB := Lib.hid kB
  clear h hm hl hx kB
  go_enter Tryz.func71, Tryz.ntmps71
  go_wp2_with fail
  refine QT.out.mono ?_
  rintro e wb ⟨rfl, rfl⟩
  go_wp2_with fail
  refine QX.out.mono ?_
  rintro e w2 ⟨rfl, hT⟩
  have HT := Lib.hid hT
  clear hT QX QT
  go_wp2_with fail
  go_ret
  exact ⟨rfl, HT.out.wide KB.out ((Keeps.refl _ _).alloc _)⟩

set_option maxRecDepth 100000 in
theorem free_no (w : World) (t : Tb) (mp : Option Nat) (H : List Hd) (W : List Int) (h : TabAt w t mp H W) (lb : Nat) (s : MS) (hm : MetAt MT w mp lb s) (hl : Room mp s) (k : Nat) (x : Hd) (hx : H[k]? = some x) (g : Int)  (hnv : x.gen ≠ -1) (h0 : ¬ x.state = 0) (h1 : ¬ x.gen = g) :
    Calls Tryz.prog 71 #[.pointer (some ⟨t.q, 0, none⟩), .int .i64 k, .int .i64 g] w fun e w' => e = .returned (.int .i64 4) ∧ TLeft t mp (H) W lb (s.note 3 k 3 false) w w' := by
  have hk : k < H.length := (List.getElem?_eq_some_iff.1 hx).1
  have kB : Keeps [] w (w.alloc (.cells #[.int .i64 g] 3)) := (Keeps.refl _ _).alloc _
  have B0 := Lib.hid (show Blk (w.alloc (.cells #[.int .i64 g] 3)) (w.heap.size) 3 #[.int .i64 g] from Blk.new _ _ _)
  have QT := Lib.hid (there_yes (w.alloc (.cells #[.int .i64 g] 3)) t mp H W (h.calm kB) k (by omega) (by omega))
  have QX := Lib.hid (trade_n (w.alloc (.cells #[.int .i64 g] 3)) t mp H W (h.calm kB) lb s (hm.keeps kB (by simp)) hl k x hx (fun e => hnv (by rw [e]; rfl)) 141 142 #[.pointer (some ⟨w.heap.size, 0, none⟩)] #[] ⟨x.gen, 0, 0, 0, false, 0⟩ enter_free1 enter_free2
    (fun w' hk' => by simpa using free1_no w' x _ g (((B0.out.keeps hk' (by simp)).cell 0).trans rfl) h0 h1) (fun w' hk' => by simpa using free2 w' x))
  have KB := Lib.hid kB
  clear h hm hl hx kB
  go_enter Tryz.func71, Tryz.ntmps71
  go_wp2_with fail
  refine QT.out.mono ?_
  rintro e wb ⟨rfl, rfl⟩
  go_wp2_with fail
  refine QX.out.mono ?_
  rintro e w2 ⟨rfl, hT⟩
  have HT := Lib.hid hT
  clear hT QX QT
  go_wp2_with fail
  go_ret
  exact ⟨rfl, HT.out.wide KB.out ((Keeps.refl _ _).alloc _)⟩

set_option maxRecDepth 100000 in
theorem free_not (w : World) (t : Tb) (mp : Option Nat) (H : List Hd) (W : List Int) (h : TabAt w t mp H W) (lb : Nat) (s : MS) (hm : MetAt MT w mp lb s) (hl : Room mp s) (k : Nat) (x : Hd) (hx : H[k]? = some x) (g : Int)  (hnv : x.gen ≠ -1) (h0 : x.state = 0) :
    Calls Tryz.prog 71 #[.pointer (some ⟨t.q, 0, none⟩), .int .i64 k, .int .i64 g] w fun e w' => e = .returned (.int .i64 4) ∧ TLeft t mp (H) W lb (s.note 3 k 3 false) w w' := by
  have hk : k < H.length := (List.getElem?_eq_some_iff.1 hx).1
  have kB : Keeps [] w (w.alloc (.cells #[.int .i64 g] 3)) := (Keeps.refl _ _).alloc _
  have B0 := Lib.hid (show Blk (w.alloc (.cells #[.int .i64 g] 3)) (w.heap.size) 3 #[.int .i64 g] from Blk.new _ _ _)
  have QT := Lib.hid (there_yes (w.alloc (.cells #[.int .i64 g] 3)) t mp H W (h.calm kB) k (by omega) (by omega))
  have QX := Lib.hid (trade_n (w.alloc (.cells #[.int .i64 g] 3)) t mp H W (h.calm kB) lb s (hm.keeps kB (by simp)) hl k x hx (fun e => hnv (by rw [e]; rfl)) 141 142 #[.pointer (some ⟨w.heap.size, 0, none⟩)] #[] ⟨x.gen, 0, 0, 0, false, 0⟩ enter_free1 enter_free2
    (fun w' hk' => by simpa using free1_not w' x _ g (((B0.out.keeps hk' (by simp)).cell 0).trans rfl) h0) (fun w' hk' => by simpa using free2 w' x))
  have KB := Lib.hid kB
  clear h hm hl hx kB
  go_enter Tryz.func71, Tryz.ntmps71
  go_wp2_with fail
  refine QT.out.mono ?_
  rintro e wb ⟨rfl, rfl⟩
  go_wp2_with fail
  refine QX.out.mono ?_
  rintro e w2 ⟨rfl, hT⟩
  have HT := Lib.hid hT
  clear hT QX QT
  go_wp2_with fail
  go_ret
  exact ⟨rfl, HT.out.wide KB.out ((Keeps.refl _ _).alloc _)⟩

theorem free_place (w : World) (t : Tb) (mp : Option Nat) (H : List Hd) (W : List Int) (h : TabAt w t mp H W) (k : Int) (hk : k < 0 ∨ (H.length : Int) ≤ k) (g : Int)  :
    Calls Tryz.prog 71 #[.pointer (some ⟨t.q, 0, none⟩), .int .i64 k, .int .i64 g] w fun e w' => e = .returned (.int .i64 2) ∧ Keeps [] w w' := by
  have kB : Keeps [] w (w.alloc (.cells #[.int .i64 g] 3)) := (Keeps.refl _ _).alloc _
  have B0 := Lib.hid (show Blk (w.alloc (.cells #[.int .i64 g] 3)) (w.heap.size) 3 #[.int .i64 g] from Blk.new _ _ _)
  clear B0
  have QT := Lib.hid (there_no (w.alloc (.cells #[.int .i64 g] 3)) t mp H W (h.calm kB) k hk)
  have KB := Lib.hid kB
  clear h kB hk
  go_enter Tryz.func71, Tryz.ntmps71
  go_wp2_with fail
  refine QT.out.mono ?_
  rintro e wb ⟨rfl, rfl⟩
  go_wp2_with fail
  go_ret
  exact ⟨rfl, KB.out⟩
end Go.Proofs.YtcoekpomiljofaaGreat
