/-
  DERIVED. GIVEN WITH THE SEED: THE CARDS: each row of YtlpgcfgnimchaaaDoorRows.lean that lists a variable, with what it lists TIED to the program's text (the seventh form; the later family's looks); each row that meets fmt, with fmt's text TOLD by the authors' own Lean function (tested against real Go, not proved from fmt's source: count such statements apart). THE CARD IS WHAT COUNTS. Prove the row's statement (the work); the ties are given (YtlpgcfgnimchaaaDoorTie.lean); close each card by the builder's one call (the guide's Derived/Test/ToyasCard.lean, 'card_holds'). Laid BY PROGRAM, IN A SANDBOX (cutbox-door.mjs). By AI agents, Wed Nov 11 2026. No macro, syntax, notation, axiom, sorry.
-/
import Derived.Test.YtlpgcfgnimchaaaDoorRows
import GoSem.ClaimSeven
namespace Go.Proofs.YtlpgcfgnimchaaaDoor
namespace Rows

/-- THE TIED CARD OF 'quashlaw02.SigHashes'. -/
def sigHashesCard : Claim7 := { stood := { row := sigHashesRow, standIns := [], harness := (true, "25450871f911c3b848384da84ffdfa0874cea1a272371d8e3509332bd1674c7f"), looks := false }, kinds := [], alts := [], laidByText := true, laidKinds := [.data], laidTests := true, laidLooks := .later }
def SigHashesCardSaid : Prop := Claim7.holds Tryd.pinned (.plain (OpenSpec.ofChange sigHashesSpec)) sigHashesCard

/-- THE TIED CARD OF 'quashlaw02.SigOf'. -/
def sigOfCard : Claim7 := { stood := { row := sigOfRow, standIns := [], harness := (true, "25450871f911c3b848384da84ffdfa0874cea1a272371d8e3509332bd1674c7f"), looks := false }, kinds := [], alts := [], laidByText := true, laidKinds := [.data], laidTests := true, laidLooks := .later }
def SigOfCardSaid : Prop := Claim7.holds Tryd.pinned (.plain (OpenSpec.ofChange sigOfSpec)) sigOfCard

/-- THE TIED CARD OF 'quashlaw02.SigTouches'. -/
def sigTouchesCard : Claim7 := { stood := { row := sigTouchesRow, standIns := [], harness := (true, "25450871f911c3b848384da84ffdfa0874cea1a272371d8e3509332bd1674c7f"), looks := false }, kinds := [], alts := [], laidByText := true, laidKinds := [.data], laidTests := true, laidLooks := .later }
def SigTouchesCardSaid : Prop := Claim7.holds Tryd.pinned (.plain (OpenSpec.ofChange sigTouchesSpec)) sigTouchesCard

/-- THE TIED CARD OF 'quashlaw02.SigSound'. -/
def sigSoundCard : Claim7 := { stood := { row := sigSoundRow, standIns := [], harness := (true, "25450871f911c3b848384da84ffdfa0874cea1a272371d8e3509332bd1674c7f"), looks := false }, kinds := [], alts := [], laidByText := true, laidKinds := [.data], laidTests := true, laidLooks := .later }
def SigSoundCardSaid : Prop := Claim7.holds Tryd.pinned (.plain (OpenSpec.ofChange sigSoundSpec)) sigSoundCard

/-- THE TIED CARD OF 'quashlaw02.SigSets'. -/
def sigSetsCard : Claim7 := { stood := { row := sigSetsRow, standIns := [], harness := (true, "25450871f911c3b848384da84ffdfa0874cea1a272371d8e3509332bd1674c7f"), looks := false }, kinds := [], alts := [], laidByText := true, laidKinds := [.data], laidTests := true, laidLooks := .later }
def SigSetsCardSaid : Prop := Claim7.holds Tryd.pinned (.plain (OpenSpec.ofChange sigSetsSpec)) sigSetsCard

/-- THE TIED CARD OF 'quashlaw02.SigBack'. -/
def sigBackCard : Claim7 := { stood := { row := sigBackRow, standIns := [], harness := (true, "25450871f911c3b848384da84ffdfa0874cea1a272371d8e3509332bd1674c7f"), looks := false }, kinds := [], alts := [], laidByText := true, laidKinds := [.data], laidTests := true, laidLooks := .later }
def SigBackCardSaid : Prop := Claim7.holds Tryd.pinned (.plain (OpenSpec.ofChange sigBackSpec)) sigBackCard

/-- THE SECOND FORM's CARD OF 'quashlaw02.SigHashes'. -/
def sigHashesUptoCard : Claim7 := { stood := { row := sigHashesUptoRow, standIns := [], harness := (true, "25450871f911c3b848384da84ffdfa0874cea1a272371d8e3509332bd1674c7f"), looks := false }, kinds := [], alts := [], laidByText := true, laidKinds := [.data], laidTests := true, laidLooks := .later }
def SigHashesUptoCardSaid : Prop := Claim7.holds Tryd.pinned (.plain (OpenSpec.upto sigHashesSpec)) sigHashesUptoCard

/-- THE SECOND FORM's CARD OF 'quashlaw02.SigOf'. -/
def sigOfUptoCard : Claim7 := { stood := { row := sigOfUptoRow, standIns := [], harness := (true, "25450871f911c3b848384da84ffdfa0874cea1a272371d8e3509332bd1674c7f"), looks := false }, kinds := [], alts := [], laidByText := true, laidKinds := [.data], laidTests := true, laidLooks := .later }
def SigOfUptoCardSaid : Prop := Claim7.holds Tryd.pinned (.plain (OpenSpec.upto sigOfSpec)) sigOfUptoCard

/-- THE SECOND FORM's CARD OF 'quashlaw02.SigTouches'. -/
def sigTouchesUptoCard : Claim7 := { stood := { row := sigTouchesUptoRow, standIns := [], harness := (true, "25450871f911c3b848384da84ffdfa0874cea1a272371d8e3509332bd1674c7f"), looks := false }, kinds := [], alts := [], laidByText := true, laidKinds := [.data], laidTests := true, laidLooks := .later }
def SigTouchesUptoCardSaid : Prop := Claim7.holds Tryd.pinned (.plain (OpenSpec.upto sigTouchesSpec)) sigTouchesUptoCard

/-- THE SECOND FORM's CARD OF 'quashlaw02.SigSound'. -/
def sigSoundUptoCard : Claim7 := { stood := { row := sigSoundUptoRow, standIns := [], harness := (true, "25450871f911c3b848384da84ffdfa0874cea1a272371d8e3509332bd1674c7f"), looks := false }, kinds := [], alts := [], laidByText := true, laidKinds := [.data], laidTests := true, laidLooks := .later }
def SigSoundUptoCardSaid : Prop := Claim7.holds Tryd.pinned (.plain (OpenSpec.upto sigSoundSpec)) sigSoundUptoCard

/-- THE SECOND FORM's CARD OF 'quashlaw02.SigSets'. -/
def sigSetsUptoCard : Claim7 := { stood := { row := sigSetsUptoRow, standIns := [], harness := (true, "25450871f911c3b848384da84ffdfa0874cea1a272371d8e3509332bd1674c7f"), looks := false }, kinds := [], alts := [], laidByText := true, laidKinds := [.data], laidTests := true, laidLooks := .later }
def SigSetsUptoCardSaid : Prop := Claim7.holds Tryd.pinned (.plain (OpenSpec.upto sigSetsSpec)) sigSetsUptoCard

/-- THE SECOND FORM's CARD OF 'quashlaw02.SigBack'. -/
def sigBackUptoCard : Claim7 := { stood := { row := sigBackUptoRow, standIns := [], harness := (true, "25450871f911c3b848384da84ffdfa0874cea1a272371d8e3509332bd1674c7f"), looks := false }, kinds := [], alts := [], laidByText := true, laidKinds := [.data], laidTests := true, laidLooks := .later }
def SigBackUptoCardSaid : Prop := Claim7.holds Tryd.pinned (.plain (OpenSpec.upto sigBackSpec)) sigBackUptoCard
end Rows
end Go.Proofs.YtlpgcfgnimchaaaDoor
