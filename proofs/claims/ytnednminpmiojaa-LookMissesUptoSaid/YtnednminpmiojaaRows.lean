/-
  No cell of these rows narrows 'for every input' (looked for: loops, veiled, ifaces, maps, wideKeys, modest, calm, conditions, laid).
  DERIVED. THE GIVEN ROWS OF THIS SEAT. 8 by the template 'for every input the law returns true; each argument reads behind the call as it read before'; 0 by the template 'total and deterministic' (their statements: YtnednminpmiojaaTotals.lean).
  GIVEN WITH THE SEED: the statements are not yours to turn. If you find one false, say at which input.
  Laid BY PROGRAM, IN A SANDBOX (cutbox-rows.mjs): the forced cells as the released guide's own fill.sh prints them over the translation 7672e56b18734fd2… (all of the seat's roots in one cut). By AI agents, Wed Nov 11 2026. No macro, syntax, notation, axiom, sorry.
-/
import Derived.Test.YtnednminpmiojaaChecked
import GoSem.Claim
import GoSem.ClaimJoined
import GoSem.ClaimMapViews
import Derived.JoinedTies
import Derived.KernelRfl
namespace Go.Proofs.Ytnednminpmiojaa
/- THE CELL 'sum', in the pinned program and in every row, IS THE sha256 OF THE DUMP (.gsa) THAT YtnednminpmiojaaProg.lean LOADS. Nothing in Lean hashes anything: it is a label: what it is worth is what the hold of that sum in a sandbox is worth. -/
noncomputable def Try.pinned : Pinned := { name := "ytnednminpmiojaa", sum := "7672e56b18734fd2bf9506cbbee075505145d2ab92930cf24543d4753ab72b4d", checked := Try.checked }
namespace Rows
def none {H : Type} : Left H := { results := [], args := [] }

/-- 'quashlaw08.SpaceKeeps': WHATEVER THE INPUT: true; the input reads as it did. -/
def spaceKeepsSpec : ChangeSpec := { name := "spaceKeeps", fn := fun _ => fun
  | [d1, d2, d3] => { results := [.lit (.bool true)], args := [d1, d2, d3] }
  | _ => none }
def spaceKeepsRow : OpenClaim := { program := "ytnednminpmiojaa", sum := "7672e56b18734fd2bf9506cbbee075505145d2ab92930cf24543d4753ab72b4d", func := "quash/quashlaw08.SpaceKeeps", spec := "spaceKeeps", apart := false }
def SpaceKeepsSaid : Prop := spaceKeepsRow.holds Try.pinned (OpenSpec.ofChange spaceKeepsSpec)

/-- ITS FALSE NEIGHBOUR: 'it returns false'. Refute it at one input. -/
def spaceKeepsWrong : ChangeSpec := { name := "spaceKeeps", fn := fun _ => fun
  | [d1, d2, d3] => { results := [.lit (.bool false)], args := [d1, d2, d3] }
  | _ => none }
def SpaceKeepsWrongFalsely : Prop := spaceKeepsRow.holds Try.pinned (OpenSpec.ofChange spaceKeepsWrong)

/-- 'quashlaw08.SpaceChecks': WHATEVER THE INPUT: true; the input reads as it did. -/
def spaceChecksSpec : ChangeSpec := { name := "spaceChecks", fn := fun _ => fun
  | [d] => { results := [.lit (.bool true)], args := [d] }
  | _ => none }
def spaceChecksRow : OpenClaim := { program := "ytnednminpmiojaa", sum := "7672e56b18734fd2bf9506cbbee075505145d2ab92930cf24543d4753ab72b4d", func := "quash/quashlaw08.SpaceChecks", spec := "spaceChecks", apart := false }
def SpaceChecksSaid : Prop := spaceChecksRow.holds Try.pinned (OpenSpec.ofChange spaceChecksSpec)

/-- ITS FALSE NEIGHBOUR: 'it returns false'. Refute it at one input. -/
def spaceChecksWrong : ChangeSpec := { name := "spaceChecks", fn := fun _ => fun
  | [d] => { results := [.lit (.bool false)], args := [d] }
  | _ => none }
def SpaceChecksWrongFalsely : Prop := spaceChecksRow.holds Try.pinned (OpenSpec.ofChange spaceChecksWrong)

/-- 'quashlaw10.StartAll': WHATEVER THE INPUT: true; the input reads as it did. -/
def startAllSpec : ChangeSpec := { name := "startAll", fn := fun _ => fun
  | [d1, d2] => { results := [.lit (.bool true)], args := [d1, d2] }
  | _ => none }
def startAllRow : OpenClaim := { program := "ytnednminpmiojaa", sum := "7672e56b18734fd2bf9506cbbee075505145d2ab92930cf24543d4753ab72b4d", func := "quash/quashlaw10.StartAll", spec := "startAll", unfollowed := true, recurses := true, apart := false }
def StartAllSaid : Prop := startAllRow.holds Try.pinned (OpenSpec.ofChange startAllSpec)

/-- ITS FALSE NEIGHBOUR: 'it returns false'. Refute it at one input. -/
def startAllWrong : ChangeSpec := { name := "startAll", fn := fun _ => fun
  | [d1, d2] => { results := [.lit (.bool false)], args := [d1, d2] }
  | _ => none }
def StartAllWrongFalsely : Prop := startAllRow.holds Try.pinned (OpenSpec.ofChange startAllWrong)

/-- 'quashlaw10.StartOne': WHATEVER THE INPUT: true; the input reads as it did. -/
def startOneSpec : ChangeSpec := { name := "startOne", fn := fun _ => fun
  | [d1, d2, d3, d4] => { results := [.lit (.bool true)], args := [d1, d2, d3, d4] }
  | _ => none }
def startOneRow : OpenClaim := { program := "ytnednminpmiojaa", sum := "7672e56b18734fd2bf9506cbbee075505145d2ab92930cf24543d4753ab72b4d", func := "quash/quashlaw10.StartOne", spec := "startOne", unfollowed := true, recurses := true, apart := false }
def StartOneSaid : Prop := startOneRow.holds Try.pinned (OpenSpec.ofChange startOneSpec)

/-- ITS FALSE NEIGHBOUR: 'it returns false'. Refute it at one input. -/
def startOneWrong : ChangeSpec := { name := "startOne", fn := fun _ => fun
  | [d1, d2, d3, d4] => { results := [.lit (.bool false)], args := [d1, d2, d3, d4] }
  | _ => none }
def StartOneWrongFalsely : Prop := startOneRow.holds Try.pinned (OpenSpec.ofChange startOneWrong)

/-- 'quashlaw10.StartFinds': WHATEVER THE INPUT: true; the input reads as it did. -/
def startFindsSpec : ChangeSpec := { name := "startFinds", fn := fun _ => fun
  | [d1, d2, d3] => { results := [.lit (.bool true)], args := [d1, d2, d3] }
  | _ => none }
def startFindsRow : OpenClaim := { program := "ytnednminpmiojaa", sum := "7672e56b18734fd2bf9506cbbee075505145d2ab92930cf24543d4753ab72b4d", func := "quash/quashlaw10.StartFinds", spec := "startFinds", unfollowed := true, recurses := true, apart := false }
def StartFindsSaid : Prop := startFindsRow.holds Try.pinned (OpenSpec.ofChange startFindsSpec)

/-- ITS FALSE NEIGHBOUR: 'it returns false'. Refute it at one input. -/
def startFindsWrong : ChangeSpec := { name := "startFinds", fn := fun _ => fun
  | [d1, d2, d3] => { results := [.lit (.bool false)], args := [d1, d2, d3] }
  | _ => none }
def StartFindsWrongFalsely : Prop := startFindsRow.holds Try.pinned (OpenSpec.ofChange startFindsWrong)

/-- 'quashlaw12.LookFinds': WHATEVER THE INPUT: true; the input reads as it did. -/
def lookFindsSpec : ChangeSpec := { name := "lookFinds", fn := fun _ => fun
  | [d1, d2, d3] => { results := [.lit (.bool true)], args := [d1, d2, d3] }
  | _ => none }
def lookFindsRow : OpenClaim := { program := "ytnednminpmiojaa", sum := "7672e56b18734fd2bf9506cbbee075505145d2ab92930cf24543d4753ab72b4d", func := "quash/quashlaw12.LookFinds", spec := "lookFinds", unfollowed := true, recurses := true, apart := false }
def LookFindsSaid : Prop := lookFindsRow.holds Try.pinned (OpenSpec.ofChange lookFindsSpec)

/-- ITS FALSE NEIGHBOUR: 'it returns false'. Refute it at one input. -/
def lookFindsWrong : ChangeSpec := { name := "lookFinds", fn := fun _ => fun
  | [d1, d2, d3] => { results := [.lit (.bool false)], args := [d1, d2, d3] }
  | _ => none }
def LookFindsWrongFalsely : Prop := lookFindsRow.holds Try.pinned (OpenSpec.ofChange lookFindsWrong)

/-- 'quashlaw12.LookMisses': WHATEVER THE INPUT: true; the input reads as it did. -/
def lookMissesSpec : ChangeSpec := { name := "lookMisses", fn := fun _ => fun
  | [d1, d2, d3] => { results := [.lit (.bool true)], args := [d1, d2, d3] }
  | _ => none }
def lookMissesRow : OpenClaim := { program := "ytnednminpmiojaa", sum := "7672e56b18734fd2bf9506cbbee075505145d2ab92930cf24543d4753ab72b4d", func := "quash/quashlaw12.LookMisses", spec := "lookMisses", unfollowed := true, recurses := true, apart := false }
def LookMissesSaid : Prop := lookMissesRow.holds Try.pinned (OpenSpec.ofChange lookMissesSpec)

/-- ITS FALSE NEIGHBOUR: 'it returns false'. Refute it at one input. -/
def lookMissesWrong : ChangeSpec := { name := "lookMisses", fn := fun _ => fun
  | [d1, d2, d3] => { results := [.lit (.bool false)], args := [d1, d2, d3] }
  | _ => none }
def LookMissesWrongFalsely : Prop := lookMissesRow.holds Try.pinned (OpenSpec.ofChange lookMissesWrong)

/-- 'quashlaw12.LookDooms': WHATEVER THE INPUT: true; the input reads as it did. -/
def lookDoomsSpec : ChangeSpec := { name := "lookDooms", fn := fun _ => fun
  | [d1, d2, d3] => { results := [.lit (.bool true)], args := [d1, d2, d3] }
  | _ => none }
def lookDoomsRow : OpenClaim := { program := "ytnednminpmiojaa", sum := "7672e56b18734fd2bf9506cbbee075505145d2ab92930cf24543d4753ab72b4d", func := "quash/quashlaw12.LookDooms", spec := "lookDooms", unfollowed := true, recurses := true, apart := false }
def LookDoomsSaid : Prop := lookDoomsRow.holds Try.pinned (OpenSpec.ofChange lookDoomsSpec)

/-- ITS FALSE NEIGHBOUR: 'it returns false'. Refute it at one input. -/
def lookDoomsWrong : ChangeSpec := { name := "lookDooms", fn := fun _ => fun
  | [d1, d2, d3] => { results := [.lit (.bool false)], args := [d1, d2, d3] }
  | _ => none }
def LookDoomsWrongFalsely : Prop := lookDoomsRow.holds Try.pinned (OpenSpec.ofChange lookDoomsWrong)

/- THE SECOND FORM. 'bulk': how many values and letters a reading holds, each counted each time it is reached (what is shared counts as often as it is met; a slice's spare places count too). A statement '..UptoSaid' is the law's where the arguments, and the package variables that the reading takes, are together of bulk at most 1048576: NARROWER than '..Said'. Prove '..Said' where nothing that the law and all that it calls make is longer than what came in: it says more and counts as full. Else prove '..UptoSaid'. A law counts once. -/
mutual
def uptoBulk {H : Type} : DataW H → Nat
  | .lit (.string bytes) => bytes.length + 1
  | .lit _ => 1
  | .nil => 1
  | .ptr d => uptoBulk d + 1
  | .slice elems spare => uptoBulkAll elems + uptoBulkAll spare + 1
  | .agg parts => uptoBulkAll parts + 1
  | .iface _ d => uptoBulk d + 1
  | .map entries => uptoBulkEntries entries + 1
  | .held _ => 1
def uptoBulkAll {H : Type} : List (DataW H) → Nat
  | [] => 0
  | d :: r => uptoBulk d + uptoBulkAll r
def uptoBulkEntries {H : Type} : List (Lit × DataW H) → Nat
  | [] => 0
  | x :: r => uptoBulkEntry x + uptoBulkEntries r
def uptoBulkEntry {H : Type} : Lit × DataW H → Nat
  | (.string bytes, d) => bytes.length + uptoBulk d + 1
  | (_, d) => uptoBulk d + 1
 end
def uptoSmall : (H : Type) → List (DataW H) → Bool := fun _ ds => decide (uptoBulkAll ds ≤ 1048576)
def OpenSpec.upto (s : _root_.Go.ChangeSpec) : _root_.Go.OpenSpec := { _root_.Go.OpenSpec.ofChange s with cond := some uptoSmall }

/-- 'quashlaw08.SpaceKeeps', WHERE WHAT IT READS IS OF BULK AT MOST 1048576: true; the input reads as it did. -/
def spaceKeepsUptoRow : OpenClaim := { program := "ytnednminpmiojaa", sum := "7672e56b18734fd2bf9506cbbee075505145d2ab92930cf24543d4753ab72b4d", func := "quash/quashlaw08.SpaceKeeps", spec := "spaceKeeps", apart := false, narrowed := true }
def SpaceKeepsUptoSaid : Prop := spaceKeepsUptoRow.holds Try.pinned (OpenSpec.upto spaceKeepsSpec)

/-- 'quashlaw08.SpaceChecks', WHERE WHAT IT READS IS OF BULK AT MOST 1048576: true; the input reads as it did. -/
def spaceChecksUptoRow : OpenClaim := { program := "ytnednminpmiojaa", sum := "7672e56b18734fd2bf9506cbbee075505145d2ab92930cf24543d4753ab72b4d", func := "quash/quashlaw08.SpaceChecks", spec := "spaceChecks", apart := false, narrowed := true }
def SpaceChecksUptoSaid : Prop := spaceChecksUptoRow.holds Try.pinned (OpenSpec.upto spaceChecksSpec)

/-- 'quashlaw10.StartAll', WHERE WHAT IT READS IS OF BULK AT MOST 1048576: true; the input reads as it did. -/
def startAllUptoRow : OpenClaim := { program := "ytnednminpmiojaa", sum := "7672e56b18734fd2bf9506cbbee075505145d2ab92930cf24543d4753ab72b4d", func := "quash/quashlaw10.StartAll", spec := "startAll", unfollowed := true, recurses := true, apart := false, narrowed := true }
def StartAllUptoSaid : Prop := startAllUptoRow.holds Try.pinned (OpenSpec.upto startAllSpec)

/-- 'quashlaw10.StartOne', WHERE WHAT IT READS IS OF BULK AT MOST 1048576: true; the input reads as it did. -/
def startOneUptoRow : OpenClaim := { program := "ytnednminpmiojaa", sum := "7672e56b18734fd2bf9506cbbee075505145d2ab92930cf24543d4753ab72b4d", func := "quash/quashlaw10.StartOne", spec := "startOne", unfollowed := true, recurses := true, apart := false, narrowed := true }
def StartOneUptoSaid : Prop := startOneUptoRow.holds Try.pinned (OpenSpec.upto startOneSpec)

/-- 'quashlaw10.StartFinds', WHERE WHAT IT READS IS OF BULK AT MOST 1048576: true; the input reads as it did. -/
def startFindsUptoRow : OpenClaim := { program := "ytnednminpmiojaa", sum := "7672e56b18734fd2bf9506cbbee075505145d2ab92930cf24543d4753ab72b4d", func := "quash/quashlaw10.StartFinds", spec := "startFinds", unfollowed := true, recurses := true, apart := false, narrowed := true }
def StartFindsUptoSaid : Prop := startFindsUptoRow.holds Try.pinned (OpenSpec.upto startFindsSpec)

/-- 'quashlaw12.LookFinds', WHERE WHAT IT READS IS OF BULK AT MOST 1048576: true; the input reads as it did. -/
def lookFindsUptoRow : OpenClaim := { program := "ytnednminpmiojaa", sum := "7672e56b18734fd2bf9506cbbee075505145d2ab92930cf24543d4753ab72b4d", func := "quash/quashlaw12.LookFinds", spec := "lookFinds", unfollowed := true, recurses := true, apart := false, narrowed := true }
def LookFindsUptoSaid : Prop := lookFindsUptoRow.holds Try.pinned (OpenSpec.upto lookFindsSpec)

/-- 'quashlaw12.LookMisses', WHERE WHAT IT READS IS OF BULK AT MOST 1048576: true; the input reads as it did. -/
def lookMissesUptoRow : OpenClaim := { program := "ytnednminpmiojaa", sum := "7672e56b18734fd2bf9506cbbee075505145d2ab92930cf24543d4753ab72b4d", func := "quash/quashlaw12.LookMisses", spec := "lookMisses", unfollowed := true, recurses := true, apart := false, narrowed := true }
def LookMissesUptoSaid : Prop := lookMissesUptoRow.holds Try.pinned (OpenSpec.upto lookMissesSpec)

/-- 'quashlaw12.LookDooms', WHERE WHAT IT READS IS OF BULK AT MOST 1048576: true; the input reads as it did. -/
def lookDoomsUptoRow : OpenClaim := { program := "ytnednminpmiojaa", sum := "7672e56b18734fd2bf9506cbbee075505145d2ab92930cf24543d4753ab72b4d", func := "quash/quashlaw12.LookDooms", spec := "lookDooms", unfollowed := true, recurses := true, apart := false, narrowed := true }
def LookDoomsUptoSaid : Prop := lookDoomsUptoRow.holds Try.pinned (OpenSpec.upto lookDoomsSpec)

end Rows
end Go.Proofs.Ytnednminpmiojaa
