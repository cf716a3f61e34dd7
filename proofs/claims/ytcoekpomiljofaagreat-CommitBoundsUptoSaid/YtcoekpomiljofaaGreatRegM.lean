/- RegL's state, more asked: a stronger S may take over in the middle of a region (behind a call that makes a row). -/
import Derived.Test.YtcoekpomiljofaaGreatRegT
namespace Go.Proofs.YtcoekpomiljofaaGreat
open Go
set_option linter.unusedVariables false
section
variable {P : Program} {ops : Array Oper} {Q : Exit → Act → World → Prop} {md : Region.Mode} {S S2 : World → Prop} {last : Nat}
theorem wpAnyL_more (hS : ∀ w, S2 w → S w) : ∀ (fuel : Nat) (listed : Array Bool) (a : Act) (w : World), wpAnyL P md ops Q S2 last fuel listed a w → wpAnyL P md ops Q S last fuel listed a w
  | 0, _, _, _, h => h
  | fuel + 1, _, _, _, h => ⟨h.1, fun i hi => wpOp_mono (fun a' w' h' => ⟨fun hl => hS _ (h'.1 hl), wpAnyL_more hS fuel _ a' w' h'.2⟩) (h.2 i hi)⟩
end
end Go.Proofs.YtcoekpomiljofaaGreat
