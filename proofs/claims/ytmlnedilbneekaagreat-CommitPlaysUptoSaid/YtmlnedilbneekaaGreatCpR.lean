/- CommitPlays: the bundle at its start; judges laid; commits made anew. -/
import Derived.Test.YtmlnedilbneekaaGreatCpB
import Derived.Test.YtmlnedilbneekaaGreatMake
set_option linter.unusedVariables false
set_option linter.unusedSimpArgs false
namespace Go.Proofs.YtmlnedilbneekaaGreat
open Go.RowKit Pol
namespace CP
open PR Cd Rj
section
variable {f : Fx} {w0 w w1 w2 w' : World} {O : Option (Nat × Array Value)} {S S' T T' : Sp} {X X' Y Y' : MC} {J J' K K' : MJ} {i j a b cb jb kb k m : Nat} {x x' : Cm} {d d' : Int} {F G Hm Hd : List Nat}
theorem start (hs : SP w0 w f.z F S) (hr : RP w0 w f.y G T) (hd : ∀ u,u ∈ F → u ∉ G) (hF : ∀ u,u ∈ F → u < m) (hG : ∀ u,u ∈ G → u < m) (h0 : w0.heap.size ≤ m) (h1 : m ≤ f.xb) (h2 : f.xb < f.yb) (h3 : f.yb < f.jb) (h4 : f.jb < f.kb)
 (bx : Blk w f.xb 56 (arr3 (fun _ => (none : Option (Nat × Cm))))) (byy : Blk w f.yb 58 (arr3 (fun _ => (none : Option (Nat × Cm))))) (bj : Blk w f.jb 60 (arr3 (fun _ => (none : Option (Nat × Int))))) (bk : Blk w f.kb 62 (arr3 (fun _ => (none : Option (Nat × Int))))) :
 Rg f w0 w none S T (fun _ => none) (fun _ => none) (fun _ => none) (fun _ => none) := by
 refine ⟨fun p => match p with
  | .s => F
  | .r => G
  | .xs => [f.xb]
  | .ys => [f.yb]
  | .js => [f.jb]
  | .ks => [f.kb]
  | _ => [],fun p => ?_,parts_lies _ _ _ _ _ _ _ _ _,fun p => ?_,fun p q hpq => ?_,hs.keep⟩
 ·
  cases p with
  | s => exact hs
  | r => exact hr
  | xs => exact ⟨rfl,bx⟩
  | ys => exact ⟨rfl,byy⟩
  | js => exact ⟨rfl,bj⟩
  | ks => exact ⟨rfl,bk⟩
  | o => exact rfl
  | j i => exact rfl
  | k i => exact rfl
  | c i => exact rfl
  | d i => exact rfl
 ·
  cases p with
  | s => exact hs.apart
  | r => exact hr.apart
  | xs => exact apart_blk bx (by omega) (by decide)
  | ys => exact apart_blk byy (by omega) (by decide)
  | js => exact apart_blk bj (by omega) (by decide)
  | ks => exact apart_blk bk (by omega) (by decide)
  | o => exact Apart.nil
  | j i => exact Apart.nil
  | k i => exact Apart.nil
  | c i => exact Apart.nil
  | d i => exact Apart.nil
 ·
  intro c h5 h6
  cases p <;> cases q <;> first | exact hpq rfl | skip
  all_goals
   simp only [List.mem_cons,List.not_mem_nil,or_false] at h5 h6
  all_goals first
   | exact hd c h5 h6
   | exact hd c h6 h5
   | (have := hF c h5; omega)
   | (have := hF c h6; omega)
   | (have := hG c h5; omega)
   | (have := hG c h6; omega)
   | omega
theorem setJ (h : Rg f w0 w O S T (fun _ => none) (fun _ => none) J K) (hi : i < 3) (hk : Keeps [] w w1) (ha : JAt w1 a f.c d) (hl : w.heap.size ≤ a) (hv : w1.setCell ⟨f.jb,i,none⟩ (PT a) = w2) : Rg f w0 w2 O S T (fun _ => none) (fun _ => none) (upd' J i (some (a,d))) K := by
 obtain ⟨G,hs⟩ := h
 have hgj := (hs.at_ .js).1
 have hjl : f.jb < w.heap.size := hs.lt .js f.jb (by rw [hgj]; simp)
 have hk2 : Keeps [f.jb] w1 w2 := hv ▸ Sq.r.setCell (.inl (by simp)) _
 have kk : Keeps [f.jb] w w2 := (hk.mono (T := [f.jb]) (by simp)).trans hk2 (fun u hu => .inl hu)
 have hbase := hs.keep.size
 have ha2 : JAt w2 a f.c d := Blk.keeps ha hk2 (by simp; omega)
 have bj2 : Blk w2 f.jb 60 (arr3 (upd' J i (some (a,d)))) := by
  rw [← hv,← arr3_set J hi]
  exact ((hs.at_ .js).2.keeps hk (by simp)).set_ i (pv (some (a,d)))
 refine ⟨upd' G (.j i) [a],hs.two .js (.j i) (by simp) kk (fun q hq => .inl (by rw [hgj]; exact hq)) (fun u u1 u2 => ⟨?_,upd_off _ _ _ u2⟩) ?_ (parts_lies _ _ _ _ _ _ _ _ _ _) ?_ ?_ ?_ (parts_lies _ _ _ _ _ _ _ _ _ _) ?_ ?_ ?_⟩
 ·
  cases u with
  | js => exact absurd rfl u1
  | j q =>
    have hqi : q ≠ i := fun e => u2 (e ▸ rfl)
    simp only [parts_j]
    rw [upd_off _ _ _ hqi]
  | _ => rfl
 · rw [upd_off _ _ _ (by simp)]; exact ⟨hgj,bj2⟩
 · rw [upd_off _ _ _ (by simp),hgj]; exact apart_blk bj2 ((hs.apart .js).low f.jb (by rw [hgj]; simp)) (by decide)
 · rw [upd_off _ _ _ (by simp)]; exact fun q hq => .inl (.inl hq)
 · rw [upd_at,parts_j,upd_at]; exact ⟨rfl,ha2⟩
 · rw [upd_at]; exact apart_blk ha2 (by omega) (by decide)
 · rw [upd_at]; intro q hq; simp at hq; exact .inr (by omega)
 · rw [upd_off _ _ _ (by simp),upd_at,hgj]; intro q hq hg; simp at hq hg; omega
theorem setK (h : Rg f w0 w O S T (fun _ => none) (fun _ => none) J K) (hi : i < 3) (hk : Keeps [] w w1) (ha : JD w1 a f.c d) (hl : w.heap.size ≤ a) (hv : w1.setCell ⟨f.kb,i,none⟩ (PT a) = w2) : Rg f w0 w2 O S T (fun _ => none) (fun _ => none) J (upd' K i (some (a,d))) := by
 obtain ⟨G,hs⟩ := h
 have hgj := (hs.at_ .ks).1
 have hjl : f.kb < w.heap.size := hs.lt .ks f.kb (by rw [hgj]; simp)
 have hk2 : Keeps [f.kb] w1 w2 := hv ▸ Sq.r.setCell (.inl (by simp)) _
 have kk : Keeps [f.kb] w w2 := (hk.mono (T := [f.kb]) (by simp)).trans hk2 (fun u hu => .inl hu)
 have hbase := hs.keep.size
 have ha2 : JD w2 a f.c d := Blk.keeps ha hk2 (by simp; omega)
 have bj2 : Blk w2 f.kb 62 (arr3 (upd' K i (some (a,d)))) := by
  rw [← hv,← arr3_set K hi]
  exact ((hs.at_ .ks).2.keeps hk (by simp)).set_ i (pv (some (a,d)))
 refine ⟨upd' G (.k i) [a],hs.two .ks (.k i) (by simp) kk (fun q hq => .inl (by rw [hgj]; exact hq)) (fun u u1 u2 => ⟨?_,upd_off _ _ _ u2⟩) ?_ (parts_lies _ _ _ _ _ _ _ _ _ _) ?_ ?_ ?_ (parts_lies _ _ _ _ _ _ _ _ _ _) ?_ ?_ ?_⟩
 ·
  cases u with
  | ks => exact absurd rfl u1
  | k q =>
    have hqi : q ≠ i := fun e => u2 (e ▸ rfl)
    simp only [parts_k]
    rw [upd_off _ _ _ hqi]
  | _ => rfl
 · rw [upd_off _ _ _ (by simp)]; exact ⟨hgj,bj2⟩
 · rw [upd_off _ _ _ (by simp),hgj]; exact apart_blk bj2 ((hs.apart .ks).low f.kb (by rw [hgj]; simp)) (by decide)
 · rw [upd_off _ _ _ (by simp)]; exact fun q hq => .inl (.inl hq)
 · rw [upd_at,parts_k,upd_at]; exact ⟨rfl,ha2⟩
 · rw [upd_at]; exact apart_blk ha2 (by omega) (by decide)
 · rw [upd_at]; intro q hq; simp at hq; exact .inr (by omega)
 · rw [upd_off _ _ _ (by simp),upd_at,hgj]; intro q hq hg; simp at hq hg; omega
theorem renew {p q : Option (Nat × Cm)} (h : Rg f w0 w O S T X Y J K) (hk : Keeps [] w w1) (hp : PC w0 f.z J i p w1 Hm) (hpl : ∀ u,u ∈ Hm → w.heap.size ≤ u) (hq : PE f.y f.n K i q w1 Hd) (hql : ∀ u,u ∈ Hd → w.heap.size ≤ u ∧ ∃ t,tyOf w1 u = some t ∧ t ∉ fixT) (hmd : ∀ u,u ∈ Hm → u ∉ Hd)
 (hk2 : Keeps [f.xb,f.yb] w1 w2) (bx : Blk w2 f.xb 56 (arr3 (upd' X i p))) (byy : Blk w2 f.yb 58 (arr3 (upd' Y i q))) : Rg f w0 w2 O S T (upd' X i p) (upd' Y i q) J K := by
 obtain ⟨G,hs⟩ := h
 have hgx := (hs.at_ .xs).1
 have hgy := (hs.at_ .ys).1
 have hxl : f.xb < w.heap.size := hs.lt .xs f.xb (by rw [hgx]; simp)
 have hyl : f.yb < w.heap.size := hs.lt .ys f.yb (by rw [hgy]; simp)
 have kk : Keeps [f.xb,f.yb] w w2 := (hk.mono (T := [f.xb,f.yb]) (by simp)).trans hk2 (fun u hu => .inl hu)
 have hbase := hs.keep.size
 have hoff : ∀ g : List Nat,(∀ u,u ∈ g → w.heap.size ≤ u) → ∀ u,u ∈ g → u ∉ [f.xb,f.yb] := fun g hg u hu => by
  have := hg u hu
  simp only [List.mem_cons,List.not_mem_nil,or_false]
  omega
 have hga : Apart w0 w1 [f.xb,f.yb] := (((hs.apart .xs).sub (Y := [f.xb]) (by rw [hgx]; simp)).keeps hk (by simp)).app (((hs.apart .ys).sub (Y := [f.yb]) (by rw [hgy]; simp)).keeps hk (by simp))
 have hp2 : PC w0 f.z J i p w2 Hm := PC_lies f.z J i p w1 w2 Hm [f.xb,f.yb] hp hk2 (hoff Hm hpl) hga
 have hq2 : PE f.y f.n K i q w2 Hd := PE_lies (w0 := w0) f.y f.n K i q w1 w2 Hd [f.xb,f.yb] hq hk2 (hoff Hd (fun u hu => (hql u hu).1)) hga
 have am : Apart w0 w2 Hm := ⟨fun u hu => by have := hpl u hu; omega,fun u hu => by
  cases p with
  | none => rw [show Hm = [] from hp2] at hu; simp at hu
  | some c =>
    obtain ⟨jb,d,dp,_,h5⟩ := hp2
    exact CmN.tyf h5 u hu⟩
 have ad : Apart w0 w2 Hd := ⟨fun u hu => by have := (hql u hu).1; omega,fun u hu => by
  obtain ⟨h5,t,h6,h7⟩ := hql u hu
  exact ⟨t,tyOf_keeps h6 hk2 (hoff Hd (fun u hu => (hql u hu).1) u hu),h7⟩⟩
 refine ⟨upd' (upd' G (.c i) Hm) (.d i) Hd,hs.step (fun u => u = .xs ∨ u = .ys ∨ u = .c i ∨ u = .d i) kk (fun u hu => ?_) (fun u hu => ?_) (fun u hu => ?_) (fun u v hu hv huv => ?_)⟩
 · simp at hu
   rcases hu with rfl | rfl
   · exact ⟨.xs,by simp,by rw [hgx]; simp⟩
   · exact ⟨.ys,by simp,by rw [hgy]; simp⟩
 ·
  refine ⟨?_,by rw [upd_off _ _ _ (fun e => hu (by simp [e])),upd_off _ _ _ (fun e => hu (by simp [e]))]⟩
  cases u with
  | c q =>
    have : q ≠ i := fun e => hu (by simp [e])
    simp only [parts_c]
    rw [upd_off _ _ _ this]
  | d q =>
    have : q ≠ i := fun e => hu (by simp [e])
    simp only [parts_d]
    rw [upd_off _ _ _ this]
  | xs => exact absurd (.inl rfl) hu
  | ys => exact absurd (.inr (.inl rfl)) hu
  | _ => rfl
 ·
  rcases hu with rfl | rfl | rfl | rfl
  · rw [upd_off _ _ _ (by simp),upd_off _ _ _ (by simp)]
    exact ⟨⟨hgx,bx⟩,parts_lies _ _ _ _ _ _ _ _ _ _,by rw [hgx]; exact apart_blk bx ((hs.apart .xs).low f.xb (by rw [hgx]; simp)) (by decide),fun u hu => .inl ⟨.xs,by simp,hu⟩⟩
  · rw [upd_off _ _ _ (by simp),upd_off _ _ _ (by simp)]
    exact ⟨⟨hgy,byy⟩,parts_lies _ _ _ _ _ _ _ _ _ _,by rw [hgy]; exact apart_blk byy ((hs.apart .ys).low f.yb (by rw [hgy]; simp)) (by decide),fun u hu => .inl ⟨.ys,by simp,hu⟩⟩
  · rw [upd_off _ _ _ (by simp),upd_at]
    exact ⟨by rw [parts_c,upd_at]; exact hp2,parts_lies _ _ _ _ _ _ _ _ _ _,am,fun u hu => .inr (hpl u hu)⟩
  · rw [upd_at]
    exact ⟨by rw [parts_d,upd_at]; exact hq2,parts_lies _ _ _ _ _ _ _ _ _ _,ad,fun u hu => .inr (hql u hu).1⟩
 ·
  have hold : ∀ u,u ∈ G .xs ∨ u ∈ G .ys → u < w.heap.size := fun u hu => hu.elim (hs.lt .xs u) (hs.lt .ys u)
  have hgx' : upd' (upd' G (.c i) Hm) (.d i) Hd .xs = G .xs := by rw [upd_off _ _ _ (by simp),upd_off _ _ _ (by simp)]
  have hgy' : upd' (upd' G (.c i) Hm) (.d i) Hd .ys = G .ys := by rw [upd_off _ _ _ (by simp),upd_off _ _ _ (by simp)]
  have hgm' : upd' (upd' G (.c i) Hm) (.d i) Hd (.c i) = Hm := by rw [upd_off _ _ _ (by simp),upd_at]
  have hgd' : upd' (upd' G (.c i) Hm) (.d i) Hd (.d i) = Hd := by rw [upd_at]
  have hd2 := fun u hu => (hql u hu).1
  intro t ht hc
  rcases hu with rfl | rfl | rfl | rfl <;> rcases hv with rfl | rfl | rfl | rfl <;> first | exact huv rfl | skip
  all_goals
   simp only [hgx',hgy',hgm',hgd'] at ht hc
  · exact hs.dif .xs .ys (by simp) t ht hc
  · have := hold t (.inl ht); have := hpl t hc; omega
  · have := hold t (.inl ht); have := hd2 t hc; omega
  · exact hs.dif .xs .ys (by simp) t hc ht
  · have := hold t (.inr ht); have := hpl t hc; omega
  · have := hold t (.inr ht); have := hd2 t hc; omega
  · have := hold t (.inl hc); have := hpl t ht; omega
  · have := hold t (.inr hc); have := hpl t ht; omega
  · exact hmd t ht hc
  · have := hold t (.inl hc); have := hd2 t ht; omega
  · have := hold t (.inr hc); have := hd2 t ht; omega
  · exact hmd t hc ht
theorem new_ok {c : Cf} {n : Nat} {sl ge th st : Int} {ws : List Pr} (hc : c.ok) (hn : c.slots = (n : Int)) (he : mayE c sl th st ws = 0) : (Cm.new sl ge th st ws).Ok n := by
 obtain ⟨h1,h2⟩ := mayE_len he
 obtain ⟨r1,r2,r3,r4⟩ := mayE_rng he
 have hs := hc.2.1
 exact ⟨by omega,by omega,r3,by show sl < _; omega,r1,r2,h1,h2,fun l e => (by cases e),fun y e => (by cases e),fun e => (by cases e),fun e => (by cases e),fun k e => (by cases e)⟩
end
end CP
end Go.Proofs.YtmlnedilbneekaaGreat