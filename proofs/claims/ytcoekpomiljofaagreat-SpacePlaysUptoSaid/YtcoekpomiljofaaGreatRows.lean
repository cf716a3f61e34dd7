/-
  No cell of these rows narrows 'for every input' (looked for: loops, veiled, ifaces, maps, wideKeys, modest, calm, conditions, laid).
  DERIVED. THE GIVEN ROWS OF THIS SEAT. 5 by the template 'for every input the law returns true; each argument reads behind the call as it read before'; 0 by the template 'total and deterministic' (their statements: YtcoekpomiljofaaGreatTotals.lean).
  GIVEN WITH THE SEED: the statements are not yours to turn. If you find one false, say at which input.
  Laid BY PROGRAM, IN A SANDBOX (cutbox-rows.mjs): the forced cells as the released guide's own fill.sh prints them over the translation bf843bc56a05ab69… (all of the seat's roots in one cut). By AI agents, Wed Nov 11 2026. No macro, syntax, notation, axiom, sorry.
-/
import Derived.Test.YtcoekpomiljofaaGreatChecked
import GoSem.Claim
import GoSem.ClaimJoined
import GoSem.ClaimMapViews
import Derived.JoinedTies
import Derived.KernelRfl
namespace Go.Proofs.YtcoekpomiljofaaGreat
/- THE CELL 'sum', in the pinned program and in every row, IS THE sha256 OF THE DUMP (.gsa) THAT YtcoekpomiljofaaGreatProg.lean LOADS. Nothing in Lean hashes anything: it is a label: what it is worth is what the hold of that sum in a sandbox is worth. -/
noncomputable def Tryz.pinned : Pinned := { name := "ytcoekpomiljofaagreat", sum := "bf843bc56a05ab698ea8d846947527de00e1e30ac8036a0793ee15dba5b738b3", checked := Tryz.checked }
namespace Rows
def none {H : Type} : Left H := { results := [], args := [] }

/-- 'quashlaw13.CommitTwo': WHATEVER THE INPUT: true; the input reads as it did. -/
def commitTwoSpec : ChangeSpec := { name := "commitTwo", fn := fun _ => fun
  | [d1, d2, d3, d4] => { results := [.lit (.bool true)], args := [d1, d2, d3, d4] }
  | _ => none }
def commitTwoRow : OpenClaim := { program := "ytcoekpomiljofaagreat", sum := "bf843bc56a05ab698ea8d846947527de00e1e30ac8036a0793ee15dba5b738b3", func := "quash/quashlaw13.CommitTwo", spec := "commitTwo", unfollowed := true, recurses := true, apart := false }
def CommitTwoSaid : Prop := commitTwoRow.holds Tryz.pinned (OpenSpec.ofChange commitTwoSpec)

/-- ITS FALSE NEIGHBOUR: 'it returns false'. Refute it at one input. -/
def commitTwoWrong : ChangeSpec := { name := "commitTwo", fn := fun _ => fun
  | [d1, d2, d3, d4] => { results := [.lit (.bool false)], args := [d1, d2, d3, d4] }
  | _ => none }
def CommitTwoWrongFalsely : Prop := commitTwoRow.holds Tryz.pinned (OpenSpec.ofChange commitTwoWrong)

/-- 'quashlaw13.CommitBounds': WHATEVER THE INPUT: true; the input reads as it did. -/
def commitBoundsSpec : ChangeSpec := { name := "commitBounds", fn := fun _ => fun
  | [d1, d2, d3, d4, d5, d6, d7] => { results := [.lit (.bool true)], args := [d1, d2, d3, d4, d5, d6, d7] }
  | _ => none }
def commitBoundsRow : OpenClaim := { program := "ytcoekpomiljofaagreat", sum := "bf843bc56a05ab698ea8d846947527de00e1e30ac8036a0793ee15dba5b738b3", func := "quash/quashlaw13.CommitBounds", spec := "commitBounds", unfollowed := true, recurses := true, apart := false }
def CommitBoundsSaid : Prop := commitBoundsRow.holds Tryz.pinned (OpenSpec.ofChange commitBoundsSpec)

/-- ITS FALSE NEIGHBOUR: 'it returns false'. Refute it at one input. -/
def commitBoundsWrong : ChangeSpec := { name := "commitBounds", fn := fun _ => fun
  | [d1, d2, d3, d4, d5, d6, d7] => { results := [.lit (.bool false)], args := [d1, d2, d3, d4, d5, d6, d7] }
  | _ => none }
def CommitBoundsWrongFalsely : Prop := commitBoundsRow.holds Tryz.pinned (OpenSpec.ofChange commitBoundsWrong)

/-- 'quashlaw08.SpacePlays': WHATEVER THE INPUT: true; the input reads as it did. -/
def spacePlaysSpec : ChangeSpec := { name := "spacePlays", fn := fun _ => fun
  | [d1, d2, d3] => { results := [.lit (.bool true)], args := [d1, d2, d3] }
  | _ => none }
def spacePlaysRow : OpenClaim := { program := "ytcoekpomiljofaagreat", sum := "bf843bc56a05ab698ea8d846947527de00e1e30ac8036a0793ee15dba5b738b3", func := "quash/quashlaw08.SpacePlays", spec := "spacePlays", unfollowed := true, recurses := true, apart := false }
def SpacePlaysSaid : Prop := spacePlaysRow.holds Tryz.pinned (OpenSpec.ofChange spacePlaysSpec)

/-- ITS FALSE NEIGHBOUR: 'it returns false'. Refute it at one input. -/
def spacePlaysWrong : ChangeSpec := { name := "spacePlays", fn := fun _ => fun
  | [d1, d2, d3] => { results := [.lit (.bool false)], args := [d1, d2, d3] }
  | _ => none }
def SpacePlaysWrongFalsely : Prop := spacePlaysRow.holds Tryz.pinned (OpenSpec.ofChange spacePlaysWrong)

/-- 'quashlaw12.LookPlays': WHATEVER THE INPUT: true; the input reads as it did. -/
def lookPlaysSpec : ChangeSpec := { name := "lookPlays", fn := fun _ => fun
  | [d1, d2] => { results := [.lit (.bool true)], args := [d1, d2] }
  | _ => none }
def lookPlaysRow : OpenClaim := { program := "ytcoekpomiljofaagreat", sum := "bf843bc56a05ab698ea8d846947527de00e1e30ac8036a0793ee15dba5b738b3", func := "quash/quashlaw12.LookPlays", spec := "lookPlays", unfollowed := true, recurses := true, apart := false }
def LookPlaysSaid : Prop := lookPlaysRow.holds Tryz.pinned (OpenSpec.ofChange lookPlaysSpec)

/-- ITS FALSE NEIGHBOUR: 'it returns false'. Refute it at one input. -/
def lookPlaysWrong : ChangeSpec := { name := "lookPlays", fn := fun _ => fun
  | [d1, d2] => { results := [.lit (.bool false)], args := [d1, d2] }
  | _ => none }
def LookPlaysWrongFalsely : Prop := lookPlaysRow.holds Tryz.pinned (OpenSpec.ofChange lookPlaysWrong)

/-- 'quashlaw13.CommitPlays': WHATEVER THE INPUT: true; the input reads as it did. -/
def commitPlaysSpec : ChangeSpec := { name := "commitPlays", fn := fun _ => fun
  | [d1, d2] => { results := [.lit (.bool true)], args := [d1, d2] }
  | _ => none }
def commitPlaysRow : OpenClaim := { program := "ytcoekpomiljofaagreat", sum := "bf843bc56a05ab698ea8d846947527de00e1e30ac8036a0793ee15dba5b738b3", func := "quash/quashlaw13.CommitPlays", spec := "commitPlays", unfollowed := true, recurses := true, apart := false }
def CommitPlaysSaid : Prop := commitPlaysRow.holds Tryz.pinned (OpenSpec.ofChange commitPlaysSpec)

/-- ITS FALSE NEIGHBOUR: 'it returns false'. Refute it at one input. -/
def commitPlaysWrong : ChangeSpec := { name := "commitPlays", fn := fun _ => fun
  | [d1, d2] => { results := [.lit (.bool false)], args := [d1, d2] }
  | _ => none }
def CommitPlaysWrongFalsely : Prop := commitPlaysRow.holds Tryz.pinned (OpenSpec.ofChange commitPlaysWrong)

/- THE SECOND FORM. 'bulk': how many values and letters a reading holds, each counted each time it is reached (what is shared counts as often as it is met; a slice's spare places count too). A statement '..UptoSaid' is the law's where the arguments, and the package variables that the reading takes, are together of bulk at most 1048576: NARROWER than '..Said'. Prove '..Said' where nothing that the law and all that it calls make is longer than what came in: it says more and counts as full. Else prove '..UptoSaid'. A law counts once. -/
mutual
def uptoBulk {H : Type} : DataW H → Nat
  | .lit (.string bytes) => bytes.length + 1
  | .lit _ => 1
  | .nil => 1
  | .ptr d => uptoBulk d + 1
  | .slice elems spare => uptoBulkAll elems + uptoBulkAll spare + 1
  | .agg parts => uptoBulkAll parts + 1
  | .iface _ d => uptoBulk d + 1
  | .map entries => uptoBulkEntries entries + 1
  | .held _ => 1
def uptoBulkAll {H : Type} : List (DataW H) → Nat
  | [] => 0
  | d :: r => uptoBulk d + uptoBulkAll r
def uptoBulkEntries {H : Type} : List (Lit × DataW H) → Nat
  | [] => 0
  | x :: r => uptoBulkEntry x + uptoBulkEntries r
def uptoBulkEntry {H : Type} : Lit × DataW H → Nat
  | (.string bytes, d) => bytes.length + uptoBulk d + 1
  | (_, d) => uptoBulk d + 1
 end
def uptoSmall : (H : Type) → List (DataW H) → Bool := fun _ ds => decide (uptoBulkAll ds ≤ 1048576)
def OpenSpec.upto (s : _root_.Go.ChangeSpec) : _root_.Go.OpenSpec := { _root_.Go.OpenSpec.ofChange s with cond := some uptoSmall }

/-- 'quashlaw13.CommitTwo', WHERE WHAT IT READS IS OF BULK AT MOST 1048576: true; the input reads as it did. -/
def commitTwoUptoRow : OpenClaim := { program := "ytcoekpomiljofaagreat", sum := "bf843bc56a05ab698ea8d846947527de00e1e30ac8036a0793ee15dba5b738b3", func := "quash/quashlaw13.CommitTwo", spec := "commitTwo", unfollowed := true, recurses := true, apart := false, narrowed := true }
def CommitTwoUptoSaid : Prop := commitTwoUptoRow.holds Tryz.pinned (OpenSpec.upto commitTwoSpec)

/-- 'quashlaw13.CommitBounds', WHERE WHAT IT READS IS OF BULK AT MOST 1048576: true; the input reads as it did. -/
def commitBoundsUptoRow : OpenClaim := { program := "ytcoekpomiljofaagreat", sum := "bf843bc56a05ab698ea8d846947527de00e1e30ac8036a0793ee15dba5b738b3", func := "quash/quashlaw13.CommitBounds", spec := "commitBounds", unfollowed := true, recurses := true, apart := false, narrowed := true }
def CommitBoundsUptoSaid : Prop := commitBoundsUptoRow.holds Tryz.pinned (OpenSpec.upto commitBoundsSpec)

/-- 'quashlaw08.SpacePlays', WHERE WHAT IT READS IS OF BULK AT MOST 1048576: true; the input reads as it did. -/
def spacePlaysUptoRow : OpenClaim := { program := "ytcoekpomiljofaagreat", sum := "bf843bc56a05ab698ea8d846947527de00e1e30ac8036a0793ee15dba5b738b3", func := "quash/quashlaw08.SpacePlays", spec := "spacePlays", unfollowed := true, recurses := true, apart := false, narrowed := true }
def SpacePlaysUptoSaid : Prop := spacePlaysUptoRow.holds Tryz.pinned (OpenSpec.upto spacePlaysSpec)

/-- 'quashlaw12.LookPlays', WHERE WHAT IT READS IS OF BULK AT MOST 1048576: true; the input reads as it did. -/
def lookPlaysUptoRow : OpenClaim := { program := "ytcoekpomiljofaagreat", sum := "bf843bc56a05ab698ea8d846947527de00e1e30ac8036a0793ee15dba5b738b3", func := "quash/quashlaw12.LookPlays", spec := "lookPlays", unfollowed := true, recurses := true, apart := false, narrowed := true }
def LookPlaysUptoSaid : Prop := lookPlaysUptoRow.holds Tryz.pinned (OpenSpec.upto lookPlaysSpec)

/-- 'quashlaw13.CommitPlays', WHERE WHAT IT READS IS OF BULK AT MOST 1048576: true; the input reads as it did. -/
def commitPlaysUptoRow : OpenClaim := { program := "ytcoekpomiljofaagreat", sum := "bf843bc56a05ab698ea8d846947527de00e1e30ac8036a0793ee15dba5b738b3", func := "quash/quashlaw13.CommitPlays", spec := "commitPlays", unfollowed := true, recurses := true, apart := false, narrowed := true }
def CommitPlaysUptoSaid : Prop := commitPlaysUptoRow.holds Tryz.pinned (OpenSpec.upto commitPlaysSpec)

end Rows
end Go.Proofs.YtcoekpomiljofaaGreat
