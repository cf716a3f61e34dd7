/-
  NARROWER THAN 'FOR EVERY INPUT', by the rows' own cells (each row's printed sentence says how): SigHashes: laid · SigOf: laid · SigTouches: laid · SigSound: laid · SigSets: laid · SigBack: laid.
  DERIVED. THE GIVEN ROWS OF THIS SEAT. 6 by the template 'for every input the law returns true; each argument reads behind the call as it read before'; 0 by the template 'total and deterministic' (their statements: YtlpgcfgnimchaaaDoorTotals.lean).
  GIVEN WITH THE SEED: the statements are not yours to turn. If you find one false, say at which input.
  Laid BY PROGRAM, IN A SANDBOX (cutbox-rows.mjs): the forced cells as the released guide's own fill.sh prints them over the translation f85c1d9d1a8f6695… (all of the seat's roots in one cut). By AI agents, Wed Nov 11 2026. No macro, syntax, notation, axiom, sorry.
-/
import Derived.Test.YtlpgcfgnimchaaaDoorChecked
import GoSem.Claim
import GoSem.ClaimJoined
import GoSem.ClaimMapViews
import Derived.JoinedTies
import Derived.KernelRfl
namespace Go.Proofs.YtlpgcfgnimchaaaDoor
/- THE CELL 'sum', in the pinned program and in every row, IS THE sha256 OF THE DUMP (.gsa) THAT YtlpgcfgnimchaaaDoorProg.lean LOADS. Nothing in Lean hashes anything: it is a label: what it is worth is what the hold of that sum in a sandbox is worth. -/
noncomputable def Tryd.pinned : Pinned := { name := "ytlpgcfgnimchaaadoor", sum := "f85c1d9d1a8f66955e3af85fe733df092b66c8436ba52dda56fc28b622133ac1", checked := Tryd.checked }
namespace Rows
def none {H : Type} : Left H := { results := [], args := [] }

/- WHAT THE LISTED PACKAGE-LEVEL VARIABLES READ AS WHEN THE CALL BEGINS. Each datum BY PROGRAM (the guide's laid-datum.mjs) off the statement by which the dump's own 'gosem.cut.vars' lays the variable. In a bare row this is a premise. The card (YtlpgcfgnimchaaaDoorCards.lean) ties it to the program's text. -/
def laid_math_bits_deBruijn64tab {H : Type} : DataW H := .agg [.lit (.int .u8 0), .lit (.int .u8 1), .lit (.int .u8 56), .lit (.int .u8 2), .lit (.int .u8 57), .lit (.int .u8 49), .lit (.int .u8 28), .lit (.int .u8 3), .lit (.int .u8 61), .lit (.int .u8 58), .lit (.int .u8 42), .lit (.int .u8 50), .lit (.int .u8 38), .lit (.int .u8 29), .lit (.int .u8 17), .lit (.int .u8 4), .lit (.int .u8 62), .lit (.int .u8 47), .lit (.int .u8 59), .lit (.int .u8 36), .lit (.int .u8 45), .lit (.int .u8 43), .lit (.int .u8 51), .lit (.int .u8 22), .lit (.int .u8 53), .lit (.int .u8 39), .lit (.int .u8 33), .lit (.int .u8 30), .lit (.int .u8 24), .lit (.int .u8 18), .lit (.int .u8 12), .lit (.int .u8 5), .lit (.int .u8 63), .lit (.int .u8 55), .lit (.int .u8 48), .lit (.int .u8 27), .lit (.int .u8 60), .lit (.int .u8 41), .lit (.int .u8 37), .lit (.int .u8 16), .lit (.int .u8 46), .lit (.int .u8 35), .lit (.int .u8 44), .lit (.int .u8 21), .lit (.int .u8 52), .lit (.int .u8 32), .lit (.int .u8 23), .lit (.int .u8 11), .lit (.int .u8 54), .lit (.int .u8 26), .lit (.int .u8 40), .lit (.int .u8 15), .lit (.int .u8 34), .lit (.int .u8 20), .lit (.int .u8 31), .lit (.int .u8 10), .lit (.int .u8 25), .lit (.int .u8 14), .lit (.int .u8 19), .lit (.int .u8 9), .lit (.int .u8 13), .lit (.int .u8 8), .lit (.int .u8 7), .lit (.int .u8 6)]

/-- 'quashlaw02.SigHashes': WHATEVER THE INPUT: true; the input reads as it did. -/
def sigHashesSpec : ChangeSpec := { name := "sigHashes", fn := fun _ => fun
  | [d1, d2] => { results := [.lit (.bool true)], args := [d1, d2] }
  | _ => none }
def sigHashesRow : OpenClaim := { program := "ytlpgcfgnimchaaadoor", sum := "f85c1d9d1a8f66955e3af85fe733df092b66c8436ba52dda56fc28b622133ac1", func := "quash/quashlaw02.SigHashes", spec := "sigHashes", named := ["math/bits.deBruijn64tab"], apart := false, laid := [("math/bits.deBruijn64tab", laid_math_bits_deBruijn64tab)] }
def SigHashesSaid : Prop := sigHashesRow.holds Tryd.pinned (OpenSpec.ofChange sigHashesSpec)

/-- ITS FALSE NEIGHBOUR: 'it returns false'. Refute it at one input. -/
def sigHashesWrong : ChangeSpec := { name := "sigHashes", fn := fun _ => fun
  | [d1, d2] => { results := [.lit (.bool false)], args := [d1, d2] }
  | _ => none }
def SigHashesWrongFalsely : Prop := sigHashesRow.holds Tryd.pinned (OpenSpec.ofChange sigHashesWrong)

/-- 'quashlaw02.SigOf': WHATEVER THE INPUT: true; the input reads as it did. -/
def sigOfSpec : ChangeSpec := { name := "sigOf", fn := fun _ => fun
  | [d1, d2, d3] => { results := [.lit (.bool true)], args := [d1, d2, d3] }
  | _ => none }
def sigOfRow : OpenClaim := { program := "ytlpgcfgnimchaaadoor", sum := "f85c1d9d1a8f66955e3af85fe733df092b66c8436ba52dda56fc28b622133ac1", func := "quash/quashlaw02.SigOf", spec := "sigOf", named := ["math/bits.deBruijn64tab"], apart := false, laid := [("math/bits.deBruijn64tab", laid_math_bits_deBruijn64tab)] }
def SigOfSaid : Prop := sigOfRow.holds Tryd.pinned (OpenSpec.ofChange sigOfSpec)

/-- ITS FALSE NEIGHBOUR: 'it returns false'. Refute it at one input. -/
def sigOfWrong : ChangeSpec := { name := "sigOf", fn := fun _ => fun
  | [d1, d2, d3] => { results := [.lit (.bool false)], args := [d1, d2, d3] }
  | _ => none }
def SigOfWrongFalsely : Prop := sigOfRow.holds Tryd.pinned (OpenSpec.ofChange sigOfWrong)

/-- 'quashlaw02.SigTouches': WHATEVER THE INPUT: true; the input reads as it did. -/
def sigTouchesSpec : ChangeSpec := { name := "sigTouches", fn := fun _ => fun
  | [d1, d2] => { results := [.lit (.bool true)], args := [d1, d2] }
  | _ => none }
def sigTouchesRow : OpenClaim := { program := "ytlpgcfgnimchaaadoor", sum := "f85c1d9d1a8f66955e3af85fe733df092b66c8436ba52dda56fc28b622133ac1", func := "quash/quashlaw02.SigTouches", spec := "sigTouches", named := ["math/bits.deBruijn64tab"], apart := false, laid := [("math/bits.deBruijn64tab", laid_math_bits_deBruijn64tab)] }
def SigTouchesSaid : Prop := sigTouchesRow.holds Tryd.pinned (OpenSpec.ofChange sigTouchesSpec)

/-- ITS FALSE NEIGHBOUR: 'it returns false'. Refute it at one input. -/
def sigTouchesWrong : ChangeSpec := { name := "sigTouches", fn := fun _ => fun
  | [d1, d2] => { results := [.lit (.bool false)], args := [d1, d2] }
  | _ => none }
def SigTouchesWrongFalsely : Prop := sigTouchesRow.holds Tryd.pinned (OpenSpec.ofChange sigTouchesWrong)

/-- 'quashlaw02.SigSound': WHATEVER THE INPUT: true; the input reads as it did. -/
def sigSoundSpec : ChangeSpec := { name := "sigSound", fn := fun _ => fun
  | [d1, d2, d3, d4] => { results := [.lit (.bool true)], args := [d1, d2, d3, d4] }
  | _ => none }
def sigSoundRow : OpenClaim := { program := "ytlpgcfgnimchaaadoor", sum := "f85c1d9d1a8f66955e3af85fe733df092b66c8436ba52dda56fc28b622133ac1", func := "quash/quashlaw02.SigSound", spec := "sigSound", named := ["math/bits.deBruijn64tab"], apart := false, laid := [("math/bits.deBruijn64tab", laid_math_bits_deBruijn64tab)] }
def SigSoundSaid : Prop := sigSoundRow.holds Tryd.pinned (OpenSpec.ofChange sigSoundSpec)

/-- ITS FALSE NEIGHBOUR: 'it returns false'. Refute it at one input. -/
def sigSoundWrong : ChangeSpec := { name := "sigSound", fn := fun _ => fun
  | [d1, d2, d3, d4] => { results := [.lit (.bool false)], args := [d1, d2, d3, d4] }
  | _ => none }
def SigSoundWrongFalsely : Prop := sigSoundRow.holds Tryd.pinned (OpenSpec.ofChange sigSoundWrong)

/-- 'quashlaw02.SigSets': WHATEVER THE INPUT: true; the input reads as it did. -/
def sigSetsSpec : ChangeSpec := { name := "sigSets", fn := fun _ => fun
  | [d1, d2] => { results := [.lit (.bool true)], args := [d1, d2] }
  | _ => none }
def sigSetsRow : OpenClaim := { program := "ytlpgcfgnimchaaadoor", sum := "f85c1d9d1a8f66955e3af85fe733df092b66c8436ba52dda56fc28b622133ac1", func := "quash/quashlaw02.SigSets", spec := "sigSets", named := ["math/bits.deBruijn64tab"], apart := false, laid := [("math/bits.deBruijn64tab", laid_math_bits_deBruijn64tab)] }
def SigSetsSaid : Prop := sigSetsRow.holds Tryd.pinned (OpenSpec.ofChange sigSetsSpec)

/-- ITS FALSE NEIGHBOUR: 'it returns false'. Refute it at one input. -/
def sigSetsWrong : ChangeSpec := { name := "sigSets", fn := fun _ => fun
  | [d1, d2] => { results := [.lit (.bool false)], args := [d1, d2] }
  | _ => none }
def SigSetsWrongFalsely : Prop := sigSetsRow.holds Tryd.pinned (OpenSpec.ofChange sigSetsWrong)

/-- 'quashlaw02.SigBack': WHATEVER THE INPUT: true; the input reads as it did. -/
def sigBackSpec : ChangeSpec := { name := "sigBack", fn := fun _ => fun
  | [d1, d2] => { results := [.lit (.bool true)], args := [d1, d2] }
  | _ => none }
def sigBackRow : OpenClaim := { program := "ytlpgcfgnimchaaadoor", sum := "f85c1d9d1a8f66955e3af85fe733df092b66c8436ba52dda56fc28b622133ac1", func := "quash/quashlaw02.SigBack", spec := "sigBack", named := ["math/bits.deBruijn64tab"], apart := false, laid := [("math/bits.deBruijn64tab", laid_math_bits_deBruijn64tab)] }
def SigBackSaid : Prop := sigBackRow.holds Tryd.pinned (OpenSpec.ofChange sigBackSpec)

/-- ITS FALSE NEIGHBOUR: 'it returns false'. Refute it at one input. -/
def sigBackWrong : ChangeSpec := { name := "sigBack", fn := fun _ => fun
  | [d1, d2] => { results := [.lit (.bool false)], args := [d1, d2] }
  | _ => none }
def SigBackWrongFalsely : Prop := sigBackRow.holds Tryd.pinned (OpenSpec.ofChange sigBackWrong)

/- THE SECOND FORM. 'bulk': how many values and letters a reading holds, each counted each time it is reached (what is shared counts as often as it is met; a slice's spare places count too). A statement '..UptoSaid' is the law's where the arguments, and the package variables that the reading takes, are together of bulk at most 1048576: NARROWER than '..Said'. Prove '..Said' where nothing that the law and all that it calls make is longer than what came in: it says more and counts as full. Else prove '..UptoSaid'. A law counts once. -/
mutual
def uptoBulk {H : Type} : DataW H → Nat
  | .lit (.string bytes) => bytes.length + 1
  | .lit _ => 1
  | .nil => 1
  | .ptr d => uptoBulk d + 1
  | .slice elems spare => uptoBulkAll elems + uptoBulkAll spare + 1
  | .agg parts => uptoBulkAll parts + 1
  | .iface _ d => uptoBulk d + 1
  | .map entries => uptoBulkEntries entries + 1
  | .held _ => 1
def uptoBulkAll {H : Type} : List (DataW H) → Nat
  | [] => 0
  | d :: r => uptoBulk d + uptoBulkAll r
def uptoBulkEntries {H : Type} : List (Lit × DataW H) → Nat
  | [] => 0
  | x :: r => uptoBulkEntry x + uptoBulkEntries r
def uptoBulkEntry {H : Type} : Lit × DataW H → Nat
  | (.string bytes, d) => bytes.length + uptoBulk d + 1
  | (_, d) => uptoBulk d + 1
 end
def uptoSmall : (H : Type) → List (DataW H) → Bool := fun _ ds => decide (uptoBulkAll ds ≤ 1048576)
def OpenSpec.upto (s : _root_.Go.ChangeSpec) : _root_.Go.OpenSpec := { _root_.Go.OpenSpec.ofChange s with cond := some uptoSmall }

/-- 'quashlaw02.SigHashes', WHERE WHAT IT READS IS OF BULK AT MOST 1048576: true; the input reads as it did. -/
def sigHashesUptoRow : OpenClaim := { program := "ytlpgcfgnimchaaadoor", sum := "f85c1d9d1a8f66955e3af85fe733df092b66c8436ba52dda56fc28b622133ac1", func := "quash/quashlaw02.SigHashes", spec := "sigHashes", named := ["math/bits.deBruijn64tab"], apart := false, laid := [("math/bits.deBruijn64tab", laid_math_bits_deBruijn64tab)], narrowed := true }
def SigHashesUptoSaid : Prop := sigHashesUptoRow.holds Tryd.pinned (OpenSpec.upto sigHashesSpec)

/-- 'quashlaw02.SigOf', WHERE WHAT IT READS IS OF BULK AT MOST 1048576: true; the input reads as it did. -/
def sigOfUptoRow : OpenClaim := { program := "ytlpgcfgnimchaaadoor", sum := "f85c1d9d1a8f66955e3af85fe733df092b66c8436ba52dda56fc28b622133ac1", func := "quash/quashlaw02.SigOf", spec := "sigOf", named := ["math/bits.deBruijn64tab"], apart := false, laid := [("math/bits.deBruijn64tab", laid_math_bits_deBruijn64tab)], narrowed := true }
def SigOfUptoSaid : Prop := sigOfUptoRow.holds Tryd.pinned (OpenSpec.upto sigOfSpec)

/-- 'quashlaw02.SigTouches', WHERE WHAT IT READS IS OF BULK AT MOST 1048576: true; the input reads as it did. -/
def sigTouchesUptoRow : OpenClaim := { program := "ytlpgcfgnimchaaadoor", sum := "f85c1d9d1a8f66955e3af85fe733df092b66c8436ba52dda56fc28b622133ac1", func := "quash/quashlaw02.SigTouches", spec := "sigTouches", named := ["math/bits.deBruijn64tab"], apart := false, laid := [("math/bits.deBruijn64tab", laid_math_bits_deBruijn64tab)], narrowed := true }
def SigTouchesUptoSaid : Prop := sigTouchesUptoRow.holds Tryd.pinned (OpenSpec.upto sigTouchesSpec)

/-- 'quashlaw02.SigSound', WHERE WHAT IT READS IS OF BULK AT MOST 1048576: true; the input reads as it did. -/
def sigSoundUptoRow : OpenClaim := { program := "ytlpgcfgnimchaaadoor", sum := "f85c1d9d1a8f66955e3af85fe733df092b66c8436ba52dda56fc28b622133ac1", func := "quash/quashlaw02.SigSound", spec := "sigSound", named := ["math/bits.deBruijn64tab"], apart := false, laid := [("math/bits.deBruijn64tab", laid_math_bits_deBruijn64tab)], narrowed := true }
def SigSoundUptoSaid : Prop := sigSoundUptoRow.holds Tryd.pinned (OpenSpec.upto sigSoundSpec)

/-- 'quashlaw02.SigSets', WHERE WHAT IT READS IS OF BULK AT MOST 1048576: true; the input reads as it did. -/
def sigSetsUptoRow : OpenClaim := { program := "ytlpgcfgnimchaaadoor", sum := "f85c1d9d1a8f66955e3af85fe733df092b66c8436ba52dda56fc28b622133ac1", func := "quash/quashlaw02.SigSets", spec := "sigSets", named := ["math/bits.deBruijn64tab"], apart := false, laid := [("math/bits.deBruijn64tab", laid_math_bits_deBruijn64tab)], narrowed := true }
def SigSetsUptoSaid : Prop := sigSetsUptoRow.holds Tryd.pinned (OpenSpec.upto sigSetsSpec)

/-- 'quashlaw02.SigBack', WHERE WHAT IT READS IS OF BULK AT MOST 1048576: true; the input reads as it did. -/
def sigBackUptoRow : OpenClaim := { program := "ytlpgcfgnimchaaadoor", sum := "f85c1d9d1a8f66955e3af85fe733df092b66c8436ba52dda56fc28b622133ac1", func := "quash/quashlaw02.SigBack", spec := "sigBack", named := ["math/bits.deBruijn64tab"], apart := false, laid := [("math/bits.deBruijn64tab", laid_math_bits_deBruijn64tab)], narrowed := true }
def SigBackUptoSaid : Prop := sigBackUptoRow.holds Tryd.pinned (OpenSpec.upto sigBackSpec)

end Rows
end Go.Proofs.YtlpgcfgnimchaaaDoor
