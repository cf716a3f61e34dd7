/-
  No cell of these rows narrows 'for every input' (looked for: loops, veiled, ifaces, maps, wideKeys, modest, calm, conditions, laid).
  DERIVED. THE GIVEN ROWS OF THIS SEAT. 5 by the template 'for every input the law returns true; each argument reads behind the call as it read before'; 0 by the template 'total and deterministic' (their statements: YtelljfhhjapgnaaTotals.lean).
  GIVEN WITH THE SEED: the statements are not yours to turn. If you find one false, say at which input.
  Laid BY PROGRAM, IN A SANDBOX (cutbox-rows.mjs): the forced cells as the released guide's own fill.sh prints them over the translation 2396a3bfc7159c58… (all of the seat's roots in one cut). By AI agents, Wed Nov 11 2026. No macro, syntax, notation, axiom, sorry.
-/
import Derived.Test.YtelljfhhjapgnaaChecked
import GoSem.Claim
import GoSem.ClaimJoined
import GoSem.ClaimMapViews
import Derived.JoinedTies
import Derived.KernelRfl
namespace Go.Proofs.Ytelljfhhjapgnaa
/- THE CELL 'sum', in the pinned program and in every row, IS THE sha256 OF THE DUMP (.gsa) THAT YtelljfhhjapgnaaProg.lean LOADS. Nothing in Lean hashes anything: it is a label: what it is worth is what the hold of that sum in a sandbox is worth. -/
noncomputable def Try.pinned : Pinned := { name := "ytelljfhhjapgnaa", sum := "2396a3bfc7159c584a9732fa9339d205d63d589c8dd85c1439cc46e17e8ecd02", checked := Try.checked }
namespace Rows
def none {H : Type} : Left H := { results := [], args := [] }

/-- 'quashlaw11.ReadAlone': WHATEVER THE INPUT: true; the input reads as it did. -/
def readAloneSpec : ChangeSpec := { name := "readAlone", fn := fun _ => fun
  | [d1, d2, d3] => { results := [.lit (.bool true)], args := [d1, d2, d3] }
  | _ => none }
def readAloneRow : OpenClaim := { program := "ytelljfhhjapgnaa", sum := "2396a3bfc7159c584a9732fa9339d205d63d589c8dd85c1439cc46e17e8ecd02", func := "quash/quashlaw11.ReadAlone", spec := "readAlone", unfollowed := true, recurses := true, apart := false }
def ReadAloneSaid : Prop := readAloneRow.holds Try.pinned (OpenSpec.ofChange readAloneSpec)

/-- ITS FALSE NEIGHBOUR: 'it returns false'. Refute it at one input. -/
def readAloneWrong : ChangeSpec := { name := "readAlone", fn := fun _ => fun
  | [d1, d2, d3] => { results := [.lit (.bool false)], args := [d1, d2, d3] }
  | _ => none }
def ReadAloneWrongFalsely : Prop := readAloneRow.holds Try.pinned (OpenSpec.ofChange readAloneWrong)

/-- 'quashlaw11.ReadDoomed': WHATEVER THE INPUT: true; the input reads as it did. -/
def readDoomedSpec : ChangeSpec := { name := "readDoomed", fn := fun _ => fun
  | [d1, d2, d3] => { results := [.lit (.bool true)], args := [d1, d2, d3] }
  | _ => none }
def readDoomedRow : OpenClaim := { program := "ytelljfhhjapgnaa", sum := "2396a3bfc7159c584a9732fa9339d205d63d589c8dd85c1439cc46e17e8ecd02", func := "quash/quashlaw11.ReadDoomed", spec := "readDoomed", unfollowed := true, recurses := true, apart := false }
def ReadDoomedSaid : Prop := readDoomedRow.holds Try.pinned (OpenSpec.ofChange readDoomedSpec)

/-- ITS FALSE NEIGHBOUR: 'it returns false'. Refute it at one input. -/
def readDoomedWrong : ChangeSpec := { name := "readDoomed", fn := fun _ => fun
  | [d1, d2, d3] => { results := [.lit (.bool false)], args := [d1, d2, d3] }
  | _ => none }
def ReadDoomedWrongFalsely : Prop := readDoomedRow.holds Try.pinned (OpenSpec.ofChange readDoomedWrong)

/-- 'quashlaw11.ReadWaits': WHATEVER THE INPUT: true; the input reads as it did. -/
def readWaitsSpec : ChangeSpec := { name := "readWaits", fn := fun _ => fun
  | [d1, d2, d3] => { results := [.lit (.bool true)], args := [d1, d2, d3] }
  | _ => none }
def readWaitsRow : OpenClaim := { program := "ytelljfhhjapgnaa", sum := "2396a3bfc7159c584a9732fa9339d205d63d589c8dd85c1439cc46e17e8ecd02", func := "quash/quashlaw11.ReadWaits", spec := "readWaits", unfollowed := true, recurses := true, apart := false }
def ReadWaitsSaid : Prop := readWaitsRow.holds Try.pinned (OpenSpec.ofChange readWaitsSpec)

/-- ITS FALSE NEIGHBOUR: 'it returns false'. Refute it at one input. -/
def readWaitsWrong : ChangeSpec := { name := "readWaits", fn := fun _ => fun
  | [d1, d2, d3] => { results := [.lit (.bool false)], args := [d1, d2, d3] }
  | _ => none }
def ReadWaitsWrongFalsely : Prop := readWaitsRow.holds Try.pinned (OpenSpec.ofChange readWaitsWrong)

/-- 'quashlaw11.ReadPublishes': WHATEVER THE INPUT: true; the input reads as it did. -/
def readPublishesSpec : ChangeSpec := { name := "readPublishes", fn := fun _ => fun
  | [d1, d2, d3] => { results := [.lit (.bool true)], args := [d1, d2, d3] }
  | _ => none }
def readPublishesRow : OpenClaim := { program := "ytelljfhhjapgnaa", sum := "2396a3bfc7159c584a9732fa9339d205d63d589c8dd85c1439cc46e17e8ecd02", func := "quash/quashlaw11.ReadPublishes", spec := "readPublishes", unfollowed := true, recurses := true, apart := false }
def ReadPublishesSaid : Prop := readPublishesRow.holds Try.pinned (OpenSpec.ofChange readPublishesSpec)

/-- ITS FALSE NEIGHBOUR: 'it returns false'. Refute it at one input. -/
def readPublishesWrong : ChangeSpec := { name := "readPublishes", fn := fun _ => fun
  | [d1, d2, d3] => { results := [.lit (.bool false)], args := [d1, d2, d3] }
  | _ => none }
def ReadPublishesWrongFalsely : Prop := readPublishesRow.holds Try.pinned (OpenSpec.ofChange readPublishesWrong)

/-- 'quashlaw11.ReadHolds': WHATEVER THE INPUT: true; the input reads as it did. -/
def readHoldsSpec : ChangeSpec := { name := "readHolds", fn := fun _ => fun
  | [d1, d2, d3] => { results := [.lit (.bool true)], args := [d1, d2, d3] }
  | _ => none }
def readHoldsRow : OpenClaim := { program := "ytelljfhhjapgnaa", sum := "2396a3bfc7159c584a9732fa9339d205d63d589c8dd85c1439cc46e17e8ecd02", func := "quash/quashlaw11.ReadHolds", spec := "readHolds", unfollowed := true, recurses := true, apart := false }
def ReadHoldsSaid : Prop := readHoldsRow.holds Try.pinned (OpenSpec.ofChange readHoldsSpec)

/-- ITS FALSE NEIGHBOUR: 'it returns false'. Refute it at one input. -/
def readHoldsWrong : ChangeSpec := { name := "readHolds", fn := fun _ => fun
  | [d1, d2, d3] => { results := [.lit (.bool false)], args := [d1, d2, d3] }
  | _ => none }
def ReadHoldsWrongFalsely : Prop := readHoldsRow.holds Try.pinned (OpenSpec.ofChange readHoldsWrong)

/- THE SECOND FORM. 'bulk': how many values and letters a reading holds, each counted each time it is reached (what is shared counts as often as it is met; a slice's spare places count too). A statement '..UptoSaid' is the law's where the arguments, and the package variables that the reading takes, are together of bulk at most 1048576: NARROWER than '..Said'. Prove '..Said' where nothing that the law and all that it calls make is longer than what came in: it says more and counts as full. Else prove '..UptoSaid'. A law counts once. -/
mutual
def uptoBulk {H : Type} : DataW H → Nat
  | .lit (.string bytes) => bytes.length + 1
  | .lit _ => 1
  | .nil => 1
  | .ptr d => uptoBulk d + 1
  | .slice elems spare => uptoBulkAll elems + uptoBulkAll spare + 1
  | .agg parts => uptoBulkAll parts + 1
  | .iface _ d => uptoBulk d + 1
  | .map entries => uptoBulkEntries entries + 1
  | .held _ => 1
def uptoBulkAll {H : Type} : List (DataW H) → Nat
  | [] => 0
  | d :: r => uptoBulk d + uptoBulkAll r
def uptoBulkEntries {H : Type} : List (Lit × DataW H) → Nat
  | [] => 0
  | x :: r => uptoBulkEntry x + uptoBulkEntries r
def uptoBulkEntry {H : Type} : Lit × DataW H → Nat
  | (.string bytes, d) => bytes.length + uptoBulk d + 1
  | (_, d) => uptoBulk d + 1
 end
def uptoSmall : (H : Type) → List (DataW H) → Bool := fun _ ds => decide (uptoBulkAll ds ≤ 1048576)
def OpenSpec.upto (s : _root_.Go.ChangeSpec) : _root_.Go.OpenSpec := { _root_.Go.OpenSpec.ofChange s with cond := some uptoSmall }

/-- 'quashlaw11.ReadAlone', WHERE WHAT IT READS IS OF BULK AT MOST 1048576: true; the input reads as it did. -/
def readAloneUptoRow : OpenClaim := { program := "ytelljfhhjapgnaa", sum := "2396a3bfc7159c584a9732fa9339d205d63d589c8dd85c1439cc46e17e8ecd02", func := "quash/quashlaw11.ReadAlone", spec := "readAlone", unfollowed := true, recurses := true, apart := false, narrowed := true }
def ReadAloneUptoSaid : Prop := readAloneUptoRow.holds Try.pinned (OpenSpec.upto readAloneSpec)

/-- 'quashlaw11.ReadDoomed', WHERE WHAT IT READS IS OF BULK AT MOST 1048576: true; the input reads as it did. -/
def readDoomedUptoRow : OpenClaim := { program := "ytelljfhhjapgnaa", sum := "2396a3bfc7159c584a9732fa9339d205d63d589c8dd85c1439cc46e17e8ecd02", func := "quash/quashlaw11.ReadDoomed", spec := "readDoomed", unfollowed := true, recurses := true, apart := false, narrowed := true }
def ReadDoomedUptoSaid : Prop := readDoomedUptoRow.holds Try.pinned (OpenSpec.upto readDoomedSpec)

/-- 'quashlaw11.ReadWaits', WHERE WHAT IT READS IS OF BULK AT MOST 1048576: true; the input reads as it did. -/
def readWaitsUptoRow : OpenClaim := { program := "ytelljfhhjapgnaa", sum := "2396a3bfc7159c584a9732fa9339d205d63d589c8dd85c1439cc46e17e8ecd02", func := "quash/quashlaw11.ReadWaits", spec := "readWaits", unfollowed := true, recurses := true, apart := false, narrowed := true }
def ReadWaitsUptoSaid : Prop := readWaitsUptoRow.holds Try.pinned (OpenSpec.upto readWaitsSpec)

/-- 'quashlaw11.ReadPublishes', WHERE WHAT IT READS IS OF BULK AT MOST 1048576: true; the input reads as it did. -/
def readPublishesUptoRow : OpenClaim := { program := "ytelljfhhjapgnaa", sum := "2396a3bfc7159c584a9732fa9339d205d63d589c8dd85c1439cc46e17e8ecd02", func := "quash/quashlaw11.ReadPublishes", spec := "readPublishes", unfollowed := true, recurses := true, apart := false, narrowed := true }
def ReadPublishesUptoSaid : Prop := readPublishesUptoRow.holds Try.pinned (OpenSpec.upto readPublishesSpec)

/-- 'quashlaw11.ReadHolds', WHERE WHAT IT READS IS OF BULK AT MOST 1048576: true; the input reads as it did. -/
def readHoldsUptoRow : OpenClaim := { program := "ytelljfhhjapgnaa", sum := "2396a3bfc7159c584a9732fa9339d205d63d589c8dd85c1439cc46e17e8ecd02", func := "quash/quashlaw11.ReadHolds", spec := "readHolds", unfollowed := true, recurses := true, apart := false, narrowed := true }
def ReadHoldsUptoSaid : Prop := readHoldsUptoRow.holds Try.pinned (OpenSpec.upto readHoldsSpec)

end Rows
end Go.Proofs.Ytelljfhhjapgnaa
