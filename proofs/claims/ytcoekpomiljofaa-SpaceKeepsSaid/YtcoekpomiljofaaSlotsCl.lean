/- Package slots: Claim, Ready, Doom, Free. -/
import Derived.Test.YtcoekpomiljofaaSlotsTr
namespace Go.Proofs.Ytcoekpomiljofaa
open Go.RowKit
set_option linter.unusedVariables false
theorem TLeft.wide {t : Tb} {mp : Option Nat} {H : List Hd} {W : List Int} {lb : Nat} {s : MS} {w wB w2 w3 : World} (hT : TLeft t mp H W lb s wB w2) (hk : Keeps [] w wB) (hk2 : Keeps [] w2 w3) : TLeft t mp H W lb s w w3 := by
  obtain ⟨h1, lb', h2, h3, h4⟩ := hT
  have hz := hk.size
  exact ⟨h1.calm hk2, lb', h2.keeps hk2 (by simp), ((hk.mono (T := t.b :: t.c :: foot mp lb) (by simp)).trans h3 (fun x hx => .inl hx)).trans hk2 (by simp), by omega⟩





















end Go.Proofs.Ytcoekpomiljofaa
