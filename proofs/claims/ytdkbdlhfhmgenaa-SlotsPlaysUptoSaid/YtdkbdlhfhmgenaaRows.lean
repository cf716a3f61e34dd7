/-
  No cell of these rows narrows 'for every input' (looked for: loops, veiled, ifaces, maps, wideKeys, modest, calm, conditions, laid).
  DERIVED. THE GIVEN ROWS OF THIS SEAT. 7 by the template 'for every input the law returns true; each argument reads behind the call as it read before'; 0 by the template 'total and deterministic' (their statements: YtdkbdlhfhmgenaaTotals.lean).
  GIVEN WITH THE SEED: the statements are not yours to turn. If you find one false, say at which input.
  Laid BY PROGRAM, IN A SANDBOX (cutbox-rows.mjs): the forced cells as the released guide's own fill.sh prints them over the translation c659d070e09431d8… (all of the seat's roots in one cut). By AI agents, Wed Nov 11 2026. No macro, syntax, notation, axiom, sorry.
-/
import Derived.Test.YtdkbdlhfhmgenaaChecked
import GoSem.Claim
import GoSem.ClaimJoined
import GoSem.ClaimMapViews
import Derived.JoinedTies
import Derived.KernelRfl
namespace Go.Proofs.Ytdkbdlhfhmgenaa
/- THE CELL 'sum', in the pinned program and in every row, IS THE sha256 OF THE DUMP (.gsa) THAT YtdkbdlhfhmgenaaProg.lean LOADS. Nothing in Lean hashes anything: it is a label: what it is worth is what the hold of that sum in a sandbox is worth. -/
noncomputable def Try.pinned : Pinned := { name := "ytdkbdlhfhmgenaa", sum := "c659d070e09431d8b85c4d31bc981894ac4e9bb08b67148d9f510b71f4ef1249", checked := Try.checked }
namespace Rows
def none {H : Type} : Left H := { results := [], args := [] }

/-- 'quashlaw05.GateTurns': WHATEVER THE INPUT: true; the input reads as it did. -/
def gateTurnsSpec : ChangeSpec := { name := "gateTurns", fn := fun _ => fun
  | [d] => { results := [.lit (.bool true)], args := [d] }
  | _ => none }
def gateTurnsRow : OpenClaim := { program := "ytdkbdlhfhmgenaa", sum := "c659d070e09431d8b85c4d31bc981894ac4e9bb08b67148d9f510b71f4ef1249", func := "quash/quashlaw05.GateTurns", spec := "gateTurns", apart := false }
def GateTurnsSaid : Prop := gateTurnsRow.holds Try.pinned (OpenSpec.ofChange gateTurnsSpec)

/-- ITS FALSE NEIGHBOUR: 'it returns false'. Refute it at one input. -/
def gateTurnsWrong : ChangeSpec := { name := "gateTurns", fn := fun _ => fun
  | [d] => { results := [.lit (.bool false)], args := [d] }
  | _ => none }
def GateTurnsWrongFalsely : Prop := gateTurnsRow.holds Try.pinned (OpenSpec.ofChange gateTurnsWrong)

/-- 'quashlaw05.GatePlays': WHATEVER THE INPUT: true; the input reads as it did. -/
def gatePlaysSpec : ChangeSpec := { name := "gatePlays", fn := fun _ => fun
  | [d] => { results := [.lit (.bool true)], args := [d] }
  | _ => none }
def gatePlaysRow : OpenClaim := { program := "ytdkbdlhfhmgenaa", sum := "c659d070e09431d8b85c4d31bc981894ac4e9bb08b67148d9f510b71f4ef1249", func := "quash/quashlaw05.GatePlays", spec := "gatePlays", apart := false }
def GatePlaysSaid : Prop := gatePlaysRow.holds Try.pinned (OpenSpec.ofChange gatePlaysSpec)

/-- ITS FALSE NEIGHBOUR: 'it returns false'. Refute it at one input. -/
def gatePlaysWrong : ChangeSpec := { name := "gatePlays", fn := fun _ => fun
  | [d] => { results := [.lit (.bool false)], args := [d] }
  | _ => none }
def GatePlaysWrongFalsely : Prop := gatePlaysRow.holds Try.pinned (OpenSpec.ofChange gatePlaysWrong)

/-- 'quashlaw06.SlotsHolds': WHATEVER THE INPUT: true; the input reads as it did. -/
def slotsHoldsSpec : ChangeSpec := { name := "slotsHolds", fn := fun _ => fun
  | [d1, d2] => { results := [.lit (.bool true)], args := [d1, d2] }
  | _ => none }
def slotsHoldsRow : OpenClaim := { program := "ytdkbdlhfhmgenaa", sum := "c659d070e09431d8b85c4d31bc981894ac4e9bb08b67148d9f510b71f4ef1249", func := "quash/quashlaw06.SlotsHolds", spec := "slotsHolds", unfollowed := true, recurses := true, apart := false }
def SlotsHoldsSaid : Prop := slotsHoldsRow.holds Try.pinned (OpenSpec.ofChange slotsHoldsSpec)

/-- ITS FALSE NEIGHBOUR: 'it returns false'. Refute it at one input. -/
def slotsHoldsWrong : ChangeSpec := { name := "slotsHolds", fn := fun _ => fun
  | [d1, d2] => { results := [.lit (.bool false)], args := [d1, d2] }
  | _ => none }
def SlotsHoldsWrongFalsely : Prop := slotsHoldsRow.holds Try.pinned (OpenSpec.ofChange slotsHoldsWrong)

/-- 'quashlaw06.SlotsLives': WHATEVER THE INPUT: true; the input reads as it did. -/
def slotsLivesSpec : ChangeSpec := { name := "slotsLives", fn := fun _ => fun
  | [d1, d2, d3, d4] => { results := [.lit (.bool true)], args := [d1, d2, d3, d4] }
  | _ => none }
def slotsLivesRow : OpenClaim := { program := "ytdkbdlhfhmgenaa", sum := "c659d070e09431d8b85c4d31bc981894ac4e9bb08b67148d9f510b71f4ef1249", func := "quash/quashlaw06.SlotsLives", spec := "slotsLives", unfollowed := true, recurses := true, apart := false }
def SlotsLivesSaid : Prop := slotsLivesRow.holds Try.pinned (OpenSpec.ofChange slotsLivesSpec)

/-- ITS FALSE NEIGHBOUR: 'it returns false'. Refute it at one input. -/
def slotsLivesWrong : ChangeSpec := { name := "slotsLives", fn := fun _ => fun
  | [d1, d2, d3, d4] => { results := [.lit (.bool false)], args := [d1, d2, d3, d4] }
  | _ => none }
def SlotsLivesWrongFalsely : Prop := slotsLivesRow.holds Try.pinned (OpenSpec.ofChange slotsLivesWrong)

/-- 'quashlaw06.SlotsWords': WHATEVER THE INPUT: true; the input reads as it did. -/
def slotsWordsSpec : ChangeSpec := { name := "slotsWords", fn := fun _ => fun
  | [d] => { results := [.lit (.bool true)], args := [d] }
  | _ => none }
def slotsWordsRow : OpenClaim := { program := "ytdkbdlhfhmgenaa", sum := "c659d070e09431d8b85c4d31bc981894ac4e9bb08b67148d9f510b71f4ef1249", func := "quash/quashlaw06.SlotsWords", spec := "slotsWords", unfollowed := true, recurses := true, apart := false }
def SlotsWordsSaid : Prop := slotsWordsRow.holds Try.pinned (OpenSpec.ofChange slotsWordsSpec)

/-- ITS FALSE NEIGHBOUR: 'it returns false'. Refute it at one input. -/
def slotsWordsWrong : ChangeSpec := { name := "slotsWords", fn := fun _ => fun
  | [d] => { results := [.lit (.bool false)], args := [d] }
  | _ => none }
def SlotsWordsWrongFalsely : Prop := slotsWordsRow.holds Try.pinned (OpenSpec.ofChange slotsWordsWrong)

/-- 'quashlaw06.SlotsApart': WHATEVER THE INPUT: true; the input reads as it did. -/
def slotsApartSpec : ChangeSpec := { name := "slotsApart", fn := fun _ => fun
  | [d1, d2, d3] => { results := [.lit (.bool true)], args := [d1, d2, d3] }
  | _ => none }
def slotsApartRow : OpenClaim := { program := "ytdkbdlhfhmgenaa", sum := "c659d070e09431d8b85c4d31bc981894ac4e9bb08b67148d9f510b71f4ef1249", func := "quash/quashlaw06.SlotsApart", spec := "slotsApart", unfollowed := true, recurses := true, apart := false }
def SlotsApartSaid : Prop := slotsApartRow.holds Try.pinned (OpenSpec.ofChange slotsApartSpec)

/-- ITS FALSE NEIGHBOUR: 'it returns false'. Refute it at one input. -/
def slotsApartWrong : ChangeSpec := { name := "slotsApart", fn := fun _ => fun
  | [d1, d2, d3] => { results := [.lit (.bool false)], args := [d1, d2, d3] }
  | _ => none }
def SlotsApartWrongFalsely : Prop := slotsApartRow.holds Try.pinned (OpenSpec.ofChange slotsApartWrong)

/-- 'quashlaw06.SlotsPlays': WHATEVER THE INPUT: true; the input reads as it did. -/
def slotsPlaysSpec : ChangeSpec := { name := "slotsPlays", fn := fun _ => fun
  | [d1, d2, d3] => { results := [.lit (.bool true)], args := [d1, d2, d3] }
  | _ => none }
def slotsPlaysRow : OpenClaim := { program := "ytdkbdlhfhmgenaa", sum := "c659d070e09431d8b85c4d31bc981894ac4e9bb08b67148d9f510b71f4ef1249", func := "quash/quashlaw06.SlotsPlays", spec := "slotsPlays", unfollowed := true, recurses := true, apart := false }
def SlotsPlaysSaid : Prop := slotsPlaysRow.holds Try.pinned (OpenSpec.ofChange slotsPlaysSpec)

/-- ITS FALSE NEIGHBOUR: 'it returns false'. Refute it at one input. -/
def slotsPlaysWrong : ChangeSpec := { name := "slotsPlays", fn := fun _ => fun
  | [d1, d2, d3] => { results := [.lit (.bool false)], args := [d1, d2, d3] }
  | _ => none }
def SlotsPlaysWrongFalsely : Prop := slotsPlaysRow.holds Try.pinned (OpenSpec.ofChange slotsPlaysWrong)

/- THE SECOND FORM. 'bulk': how many values and letters a reading holds, each counted each time it is reached (what is shared counts as often as it is met; a slice's spare places count too). A statement '..UptoSaid' is the law's where the arguments, and the package variables that the reading takes, are together of bulk at most 1048576: NARROWER than '..Said'. Prove '..Said' where nothing that the law and all that it calls make is longer than what came in: it says more and counts as full. Else prove '..UptoSaid'. A law counts once. -/
mutual
def uptoBulk {H : Type} : DataW H → Nat
  | .lit (.string bytes) => bytes.length + 1
  | .lit _ => 1
  | .nil => 1
  | .ptr d => uptoBulk d + 1
  | .slice elems spare => uptoBulkAll elems + uptoBulkAll spare + 1
  | .agg parts => uptoBulkAll parts + 1
  | .iface _ d => uptoBulk d + 1
  | .map entries => uptoBulkEntries entries + 1
  | .held _ => 1
def uptoBulkAll {H : Type} : List (DataW H) → Nat
  | [] => 0
  | d :: r => uptoBulk d + uptoBulkAll r
def uptoBulkEntries {H : Type} : List (Lit × DataW H) → Nat
  | [] => 0
  | x :: r => uptoBulkEntry x + uptoBulkEntries r
def uptoBulkEntry {H : Type} : Lit × DataW H → Nat
  | (.string bytes, d) => bytes.length + uptoBulk d + 1
  | (_, d) => uptoBulk d + 1
 end
def uptoSmall : (H : Type) → List (DataW H) → Bool := fun _ ds => decide (uptoBulkAll ds ≤ 1048576)
def OpenSpec.upto (s : _root_.Go.ChangeSpec) : _root_.Go.OpenSpec := { _root_.Go.OpenSpec.ofChange s with cond := some uptoSmall }

/-- 'quashlaw05.GateTurns', WHERE WHAT IT READS IS OF BULK AT MOST 1048576: true; the input reads as it did. -/
def gateTurnsUptoRow : OpenClaim := { program := "ytdkbdlhfhmgenaa", sum := "c659d070e09431d8b85c4d31bc981894ac4e9bb08b67148d9f510b71f4ef1249", func := "quash/quashlaw05.GateTurns", spec := "gateTurns", apart := false, narrowed := true }
def GateTurnsUptoSaid : Prop := gateTurnsUptoRow.holds Try.pinned (OpenSpec.upto gateTurnsSpec)

/-- 'quashlaw05.GatePlays', WHERE WHAT IT READS IS OF BULK AT MOST 1048576: true; the input reads as it did. -/
def gatePlaysUptoRow : OpenClaim := { program := "ytdkbdlhfhmgenaa", sum := "c659d070e09431d8b85c4d31bc981894ac4e9bb08b67148d9f510b71f4ef1249", func := "quash/quashlaw05.GatePlays", spec := "gatePlays", apart := false, narrowed := true }
def GatePlaysUptoSaid : Prop := gatePlaysUptoRow.holds Try.pinned (OpenSpec.upto gatePlaysSpec)

/-- 'quashlaw06.SlotsHolds', WHERE WHAT IT READS IS OF BULK AT MOST 1048576: true; the input reads as it did. -/
def slotsHoldsUptoRow : OpenClaim := { program := "ytdkbdlhfhmgenaa", sum := "c659d070e09431d8b85c4d31bc981894ac4e9bb08b67148d9f510b71f4ef1249", func := "quash/quashlaw06.SlotsHolds", spec := "slotsHolds", unfollowed := true, recurses := true, apart := false, narrowed := true }
def SlotsHoldsUptoSaid : Prop := slotsHoldsUptoRow.holds Try.pinned (OpenSpec.upto slotsHoldsSpec)

/-- 'quashlaw06.SlotsLives', WHERE WHAT IT READS IS OF BULK AT MOST 1048576: true; the input reads as it did. -/
def slotsLivesUptoRow : OpenClaim := { program := "ytdkbdlhfhmgenaa", sum := "c659d070e09431d8b85c4d31bc981894ac4e9bb08b67148d9f510b71f4ef1249", func := "quash/quashlaw06.SlotsLives", spec := "slotsLives", unfollowed := true, recurses := true, apart := false, narrowed := true }
def SlotsLivesUptoSaid : Prop := slotsLivesUptoRow.holds Try.pinned (OpenSpec.upto slotsLivesSpec)

/-- 'quashlaw06.SlotsWords', WHERE WHAT IT READS IS OF BULK AT MOST 1048576: true; the input reads as it did. -/
def slotsWordsUptoRow : OpenClaim := { program := "ytdkbdlhfhmgenaa", sum := "c659d070e09431d8b85c4d31bc981894ac4e9bb08b67148d9f510b71f4ef1249", func := "quash/quashlaw06.SlotsWords", spec := "slotsWords", unfollowed := true, recurses := true, apart := false, narrowed := true }
def SlotsWordsUptoSaid : Prop := slotsWordsUptoRow.holds Try.pinned (OpenSpec.upto slotsWordsSpec)

/-- 'quashlaw06.SlotsApart', WHERE WHAT IT READS IS OF BULK AT MOST 1048576: true; the input reads as it did. -/
def slotsApartUptoRow : OpenClaim := { program := "ytdkbdlhfhmgenaa", sum := "c659d070e09431d8b85c4d31bc981894ac4e9bb08b67148d9f510b71f4ef1249", func := "quash/quashlaw06.SlotsApart", spec := "slotsApart", unfollowed := true, recurses := true, apart := false, narrowed := true }
def SlotsApartUptoSaid : Prop := slotsApartUptoRow.holds Try.pinned (OpenSpec.upto slotsApartSpec)

/-- 'quashlaw06.SlotsPlays', WHERE WHAT IT READS IS OF BULK AT MOST 1048576: true; the input reads as it did. -/
def slotsPlaysUptoRow : OpenClaim := { program := "ytdkbdlhfhmgenaa", sum := "c659d070e09431d8b85c4d31bc981894ac4e9bb08b67148d9f510b71f4ef1249", func := "quash/quashlaw06.SlotsPlays", spec := "slotsPlays", unfollowed := true, recurses := true, apart := false, narrowed := true }
def SlotsPlaysUptoSaid : Prop := slotsPlaysUptoRow.holds Try.pinned (OpenSpec.upto slotsPlaysSpec)

end Rows
end Go.Proofs.Ytdkbdlhfhmgenaa
