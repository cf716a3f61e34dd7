/-
  No cell of these rows narrows 'for every input' (looked for: loops, veiled, ifaces, maps, wideKeys, modest, calm, conditions, laid).
  DERIVED. THE GIVEN ROWS OF THIS SEAT. 2 by the template 'for every input the law returns true; each argument reads behind the call as it read before'; 0 by the template 'total and deterministic' (their statements: YtmlnedilbneekaaGreatTotals.lean).
  GIVEN WITH THE SEED: the statements are not yours to turn. If you find one false, say at which input.
  Laid BY PROGRAM, IN A SANDBOX (cutbox-rows.mjs): the forced cells as the released guide's own fill.sh prints them over the translation 08cf46591a67be93… (all of the seat's roots in one cut). By AI agents, Wed Nov 11 2026. No macro, syntax, notation, axiom, sorry.
-/
import Derived.Test.YtmlnedilbneekaaGreatChecked
import GoSem.Claim
import GoSem.ClaimJoined
import GoSem.ClaimMapViews
import Derived.JoinedTies
import Derived.KernelRfl
namespace Go.Proofs.YtmlnedilbneekaaGreat
/- THE CELL 'sum', in the pinned program and in every row, IS THE sha256 OF THE DUMP (.gsa) THAT YtmlnedilbneekaaGreatProg.lean LOADS. Nothing in Lean hashes anything: it is a label: what it is worth is what the hold of that sum in a sandbox is worth. -/
noncomputable def Tryz.pinned : Pinned := { name := "ytmlnedilbneekaagreat", sum := "08cf46591a67be93edd42b97d7a32cdf64cdd606620ae0eae542db145383aa27", checked := Tryz.checked }
namespace Rows
def none {H : Type} : Left H := { results := [], args := [] }

/-- 'quashlaw12.LookPlays': WHATEVER THE INPUT: true; the input reads as it did. -/
def lookPlaysSpec : ChangeSpec := { name := "lookPlays", fn := fun _ => fun
  | [d1, d2] => { results := [.lit (.bool true)], args := [d1, d2] }
  | _ => none }
def lookPlaysRow : OpenClaim := { program := "ytmlnedilbneekaagreat", sum := "08cf46591a67be93edd42b97d7a32cdf64cdd606620ae0eae542db145383aa27", func := "quash/quashlaw12.LookPlays", spec := "lookPlays", unfollowed := true, recurses := true, apart := false }
def LookPlaysSaid : Prop := lookPlaysRow.holds Tryz.pinned (OpenSpec.ofChange lookPlaysSpec)

/-- ITS FALSE NEIGHBOUR: 'it returns false'. Refute it at one input. -/
def lookPlaysWrong : ChangeSpec := { name := "lookPlays", fn := fun _ => fun
  | [d1, d2] => { results := [.lit (.bool false)], args := [d1, d2] }
  | _ => none }
def LookPlaysWrongFalsely : Prop := lookPlaysRow.holds Tryz.pinned (OpenSpec.ofChange lookPlaysWrong)

/-- 'quashlaw13.CommitPlays': WHATEVER THE INPUT: true; the input reads as it did. -/
def commitPlaysSpec : ChangeSpec := { name := "commitPlays", fn := fun _ => fun
  | [d1, d2] => { results := [.lit (.bool true)], args := [d1, d2] }
  | _ => none }
def commitPlaysRow : OpenClaim := { program := "ytmlnedilbneekaagreat", sum := "08cf46591a67be93edd42b97d7a32cdf64cdd606620ae0eae542db145383aa27", func := "quash/quashlaw13.CommitPlays", spec := "commitPlays", unfollowed := true, recurses := true, apart := false }
def CommitPlaysSaid : Prop := commitPlaysRow.holds Tryz.pinned (OpenSpec.ofChange commitPlaysSpec)

/-- ITS FALSE NEIGHBOUR: 'it returns false'. Refute it at one input. -/
def commitPlaysWrong : ChangeSpec := { name := "commitPlays", fn := fun _ => fun
  | [d1, d2] => { results := [.lit (.bool false)], args := [d1, d2] }
  | _ => none }
def CommitPlaysWrongFalsely : Prop := commitPlaysRow.holds Tryz.pinned (OpenSpec.ofChange commitPlaysWrong)

/- THE SECOND FORM. 'bulk': how many values and letters a reading holds, each counted each time it is reached (what is shared counts as often as it is met; a slice's spare places count too). A statement '..UptoSaid' is the law's where the arguments, and the package variables that the reading takes, are together of bulk at most 1048576: NARROWER than '..Said'. Prove '..Said' where nothing that the law and all that it calls make is longer than what came in: it says more and counts as full. Else prove '..UptoSaid'. A law counts once. -/
mutual
def uptoBulk {H : Type} : DataW H → Nat
  | .lit (.string bytes) => bytes.length + 1
  | .lit _ => 1
  | .nil => 1
  | .ptr d => uptoBulk d + 1
  | .slice elems spare => uptoBulkAll elems + uptoBulkAll spare + 1
  | .agg parts => uptoBulkAll parts + 1
  | .iface _ d => uptoBulk d + 1
  | .map entries => uptoBulkEntries entries + 1
  | .held _ => 1
def uptoBulkAll {H : Type} : List (DataW H) → Nat
  | [] => 0
  | d :: r => uptoBulk d + uptoBulkAll r
def uptoBulkEntries {H : Type} : List (Lit × DataW H) → Nat
  | [] => 0
  | x :: r => uptoBulkEntry x + uptoBulkEntries r
def uptoBulkEntry {H : Type} : Lit × DataW H → Nat
  | (.string bytes, d) => bytes.length + uptoBulk d + 1
  | (_, d) => uptoBulk d + 1
 end
def uptoSmall : (H : Type) → List (DataW H) → Bool := fun _ ds => decide (uptoBulkAll ds ≤ 1048576)
def OpenSpec.upto (s : _root_.Go.ChangeSpec) : _root_.Go.OpenSpec := { _root_.Go.OpenSpec.ofChange s with cond := some uptoSmall }

/-- 'quashlaw12.LookPlays', WHERE WHAT IT READS IS OF BULK AT MOST 1048576: true; the input reads as it did. -/
def lookPlaysUptoRow : OpenClaim := { program := "ytmlnedilbneekaagreat", sum := "08cf46591a67be93edd42b97d7a32cdf64cdd606620ae0eae542db145383aa27", func := "quash/quashlaw12.LookPlays", spec := "lookPlays", unfollowed := true, recurses := true, apart := false, narrowed := true }
def LookPlaysUptoSaid : Prop := lookPlaysUptoRow.holds Tryz.pinned (OpenSpec.upto lookPlaysSpec)

/-- 'quashlaw13.CommitPlays', WHERE WHAT IT READS IS OF BULK AT MOST 1048576: true; the input reads as it did. -/
def commitPlaysUptoRow : OpenClaim := { program := "ytmlnedilbneekaagreat", sum := "08cf46591a67be93edd42b97d7a32cdf64cdd606620ae0eae542db145383aa27", func := "quash/quashlaw13.CommitPlays", spec := "commitPlays", unfollowed := true, recurses := true, apart := false, narrowed := true }
def CommitPlaysUptoSaid : Prop := commitPlaysUptoRow.holds Tryz.pinned (OpenSpec.upto commitPlaysSpec)

end Rows
end Go.Proofs.YtmlnedilbneekaaGreat
