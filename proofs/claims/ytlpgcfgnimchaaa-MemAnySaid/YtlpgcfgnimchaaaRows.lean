/-
  No cell of these rows narrows 'for every input' (looked for: loops, veiled, ifaces, maps, wideKeys, modest, calm, conditions, laid).
  DERIVED. THE GIVEN ROWS OF THIS SEAT. 6 by the template 'for every input the law returns true; each argument reads behind the call as it read before'; 0 by the template 'total and deterministic' (their statements: YtlpgcfgnimchaaaTotals.lean).
  GIVEN WITH THE SEED: the statements are not yours to turn. If you find one false, say at which input.
  Laid BY PROGRAM, IN A SANDBOX (cutbox-rows.mjs): the forced cells as the released guide's own fill.sh prints them over the translation c76c4e866c577564… (all of the seat's roots in one cut). By AI agents, Wed Nov 11 2026. No macro, syntax, notation, axiom, sorry.
-/
import Derived.Test.YtlpgcfgnimchaaaChecked
import GoSem.Claim
import GoSem.ClaimJoined
import GoSem.ClaimMapViews
import Derived.JoinedTies
import Derived.KernelRfl
namespace Go.Proofs.Ytlpgcfgnimchaaa
/- THE CELL 'sum', in the pinned program and in every row, IS THE sha256 OF THE DUMP (.gsa) THAT YtlpgcfgnimchaaaProg.lean LOADS. Nothing in Lean hashes anything: it is a label: what it is worth is what the hold of that sum in a sandbox is worth. -/
noncomputable def Try.pinned : Pinned := { name := "ytlpgcfgnimchaaa", sum := "c76c4e866c577564eaa6702449475a5531a526de86b50ccc0b0c329fb4c43776", checked := Try.checked }
namespace Rows
def none {H : Type} : Left H := { results := [], args := [] }

/-- 'quashlaw01.MemNames': WHATEVER THE INPUT: true; the input reads as it did. -/
def memNamesSpec : ChangeSpec := { name := "memNames", fn := fun _ => fun
  | [] => { results := [.lit (.bool true)], args := [] }
  | _ => none }
def memNamesRow : OpenClaim := { program := "ytlpgcfgnimchaaa", sum := "c76c4e866c577564eaa6702449475a5531a526de86b50ccc0b0c329fb4c43776", func := "quash/quashlaw01.MemNames", spec := "memNames", apart := false }
def MemNamesSaid : Prop := memNamesRow.holds Try.pinned (OpenSpec.ofChange memNamesSpec)

/-- ITS FALSE NEIGHBOUR: 'it returns false'. Refute it at one input. -/
def memNamesWrong : ChangeSpec := { name := "memNames", fn := fun _ => fun
  | [] => { results := [.lit (.bool false)], args := [] }
  | _ => none }
def MemNamesWrongFalsely : Prop := memNamesRow.holds Try.pinned (OpenSpec.ofChange memNamesWrong)

/-- 'quashlaw01.MemAny': WHATEVER THE INPUT: true; the input reads as it did. -/
def memAnySpec : ChangeSpec := { name := "memAny", fn := fun _ => fun
  | [d1, d2, d3, d4] => { results := [.lit (.bool true)], args := [d1, d2, d3, d4] }
  | _ => none }
def memAnyRow : OpenClaim := { program := "ytlpgcfgnimchaaa", sum := "c76c4e866c577564eaa6702449475a5531a526de86b50ccc0b0c329fb4c43776", func := "quash/quashlaw01.MemAny", spec := "memAny", apart := false }
def MemAnySaid : Prop := memAnyRow.holds Try.pinned (OpenSpec.ofChange memAnySpec)

/-- ITS FALSE NEIGHBOUR: 'it returns false'. Refute it at one input. -/
def memAnyWrong : ChangeSpec := { name := "memAny", fn := fun _ => fun
  | [d1, d2, d3, d4] => { results := [.lit (.bool false)], args := [d1, d2, d3, d4] }
  | _ => none }
def MemAnyWrongFalsely : Prop := memAnyRow.holds Try.pinned (OpenSpec.ofChange memAnyWrong)

/-- 'quashlaw01.MemCounts': WHATEVER THE INPUT: true; the input reads as it did. -/
def memCountsSpec : ChangeSpec := { name := "memCounts", fn := fun _ => fun
  | [d1, d2] => { results := [.lit (.bool true)], args := [d1, d2] }
  | _ => none }
def memCountsRow : OpenClaim := { program := "ytlpgcfgnimchaaa", sum := "c76c4e866c577564eaa6702449475a5531a526de86b50ccc0b0c329fb4c43776", func := "quash/quashlaw01.MemCounts", spec := "memCounts", apart := false }
def MemCountsSaid : Prop := memCountsRow.holds Try.pinned (OpenSpec.ofChange memCountsSpec)

/-- ITS FALSE NEIGHBOUR: 'it returns false'. Refute it at one input. -/
def memCountsWrong : ChangeSpec := { name := "memCounts", fn := fun _ => fun
  | [d1, d2] => { results := [.lit (.bool false)], args := [d1, d2] }
  | _ => none }
def MemCountsWrongFalsely : Prop := memCountsRow.holds Try.pinned (OpenSpec.ofChange memCountsWrong)

/-- 'quashlaw01.MemNil': WHATEVER THE INPUT: true; the input reads as it did. -/
def memNilSpec : ChangeSpec := { name := "memNil", fn := fun _ => fun
  | [d1, d2, d3] => { results := [.lit (.bool true)], args := [d1, d2, d3] }
  | _ => none }
def memNilRow : OpenClaim := { program := "ytlpgcfgnimchaaa", sum := "c76c4e866c577564eaa6702449475a5531a526de86b50ccc0b0c329fb4c43776", func := "quash/quashlaw01.MemNil", spec := "memNil", apart := false }
def MemNilSaid : Prop := memNilRow.holds Try.pinned (OpenSpec.ofChange memNilSpec)

/-- ITS FALSE NEIGHBOUR: 'it returns false'. Refute it at one input. -/
def memNilWrong : ChangeSpec := { name := "memNil", fn := fun _ => fun
  | [d1, d2, d3] => { results := [.lit (.bool false)], args := [d1, d2, d3] }
  | _ => none }
def MemNilWrongFalsely : Prop := memNilRow.holds Try.pinned (OpenSpec.ofChange memNilWrong)

/-- 'quashlaw01.MemApart': WHATEVER THE INPUT: true; the input reads as it did. -/
def memApartSpec : ChangeSpec := { name := "memApart", fn := fun _ => fun
  | [d] => { results := [.lit (.bool true)], args := [d] }
  | _ => none }
def memApartRow : OpenClaim := { program := "ytlpgcfgnimchaaa", sum := "c76c4e866c577564eaa6702449475a5531a526de86b50ccc0b0c329fb4c43776", func := "quash/quashlaw01.MemApart", spec := "memApart", apart := false }
def MemApartSaid : Prop := memApartRow.holds Try.pinned (OpenSpec.ofChange memApartSpec)

/-- ITS FALSE NEIGHBOUR: 'it returns false'. Refute it at one input. -/
def memApartWrong : ChangeSpec := { name := "memApart", fn := fun _ => fun
  | [d] => { results := [.lit (.bool false)], args := [d] }
  | _ => none }
def MemApartWrongFalsely : Prop := memApartRow.holds Try.pinned (OpenSpec.ofChange memApartWrong)

/-- 'quashlaw01.MemPlays': WHATEVER THE INPUT: true; the input reads as it did. -/
def memPlaysSpec : ChangeSpec := { name := "memPlays", fn := fun _ => fun
  | [d1, d2, d3, d4] => { results := [.lit (.bool true)], args := [d1, d2, d3, d4] }
  | _ => none }
def memPlaysRow : OpenClaim := { program := "ytlpgcfgnimchaaa", sum := "c76c4e866c577564eaa6702449475a5531a526de86b50ccc0b0c329fb4c43776", func := "quash/quashlaw01.MemPlays", spec := "memPlays", apart := false }
def MemPlaysSaid : Prop := memPlaysRow.holds Try.pinned (OpenSpec.ofChange memPlaysSpec)

/-- ITS FALSE NEIGHBOUR: 'it returns false'. Refute it at one input. -/
def memPlaysWrong : ChangeSpec := { name := "memPlays", fn := fun _ => fun
  | [d1, d2, d3, d4] => { results := [.lit (.bool false)], args := [d1, d2, d3, d4] }
  | _ => none }
def MemPlaysWrongFalsely : Prop := memPlaysRow.holds Try.pinned (OpenSpec.ofChange memPlaysWrong)

/- THE SECOND FORM. 'bulk': how many values and letters a reading holds, each counted each time it is reached (what is shared counts as often as it is met; a slice's spare places count too). A statement '..UptoSaid' is the law's where the arguments, and the package variables that the reading takes, are together of bulk at most 1048576: NARROWER than '..Said'. Prove '..Said' where nothing that the law and all that it calls make is longer than what came in: it says more and counts as full. Else prove '..UptoSaid'. A law counts once. -/
mutual
def uptoBulk {H : Type} : DataW H → Nat
  | .lit (.string bytes) => bytes.length + 1
  | .lit _ => 1
  | .nil => 1
  | .ptr d => uptoBulk d + 1
  | .slice elems spare => uptoBulkAll elems + uptoBulkAll spare + 1
  | .agg parts => uptoBulkAll parts + 1
  | .iface _ d => uptoBulk d + 1
  | .map entries => uptoBulkEntries entries + 1
  | .held _ => 1
def uptoBulkAll {H : Type} : List (DataW H) → Nat
  | [] => 0
  | d :: r => uptoBulk d + uptoBulkAll r
def uptoBulkEntries {H : Type} : List (Lit × DataW H) → Nat
  | [] => 0
  | x :: r => uptoBulkEntry x + uptoBulkEntries r
def uptoBulkEntry {H : Type} : Lit × DataW H → Nat
  | (.string bytes, d) => bytes.length + uptoBulk d + 1
  | (_, d) => uptoBulk d + 1
 end
def uptoSmall : (H : Type) → List (DataW H) → Bool := fun _ ds => decide (uptoBulkAll ds ≤ 1048576)
def OpenSpec.upto (s : _root_.Go.ChangeSpec) : _root_.Go.OpenSpec := { _root_.Go.OpenSpec.ofChange s with cond := some uptoSmall }

/-- 'quashlaw01.MemNames', WHERE WHAT IT READS IS OF BULK AT MOST 1048576: true; the input reads as it did. -/
def memNamesUptoRow : OpenClaim := { program := "ytlpgcfgnimchaaa", sum := "c76c4e866c577564eaa6702449475a5531a526de86b50ccc0b0c329fb4c43776", func := "quash/quashlaw01.MemNames", spec := "memNames", apart := false, narrowed := true }
def MemNamesUptoSaid : Prop := memNamesUptoRow.holds Try.pinned (OpenSpec.upto memNamesSpec)

/-- 'quashlaw01.MemAny', WHERE WHAT IT READS IS OF BULK AT MOST 1048576: true; the input reads as it did. -/
def memAnyUptoRow : OpenClaim := { program := "ytlpgcfgnimchaaa", sum := "c76c4e866c577564eaa6702449475a5531a526de86b50ccc0b0c329fb4c43776", func := "quash/quashlaw01.MemAny", spec := "memAny", apart := false, narrowed := true }
def MemAnyUptoSaid : Prop := memAnyUptoRow.holds Try.pinned (OpenSpec.upto memAnySpec)

/-- 'quashlaw01.MemCounts', WHERE WHAT IT READS IS OF BULK AT MOST 1048576: true; the input reads as it did. -/
def memCountsUptoRow : OpenClaim := { program := "ytlpgcfgnimchaaa", sum := "c76c4e866c577564eaa6702449475a5531a526de86b50ccc0b0c329fb4c43776", func := "quash/quashlaw01.MemCounts", spec := "memCounts", apart := false, narrowed := true }
def MemCountsUptoSaid : Prop := memCountsUptoRow.holds Try.pinned (OpenSpec.upto memCountsSpec)

/-- 'quashlaw01.MemNil', WHERE WHAT IT READS IS OF BULK AT MOST 1048576: true; the input reads as it did. -/
def memNilUptoRow : OpenClaim := { program := "ytlpgcfgnimchaaa", sum := "c76c4e866c577564eaa6702449475a5531a526de86b50ccc0b0c329fb4c43776", func := "quash/quashlaw01.MemNil", spec := "memNil", apart := false, narrowed := true }
def MemNilUptoSaid : Prop := memNilUptoRow.holds Try.pinned (OpenSpec.upto memNilSpec)

/-- 'quashlaw01.MemApart', WHERE WHAT IT READS IS OF BULK AT MOST 1048576: true; the input reads as it did. -/
def memApartUptoRow : OpenClaim := { program := "ytlpgcfgnimchaaa", sum := "c76c4e866c577564eaa6702449475a5531a526de86b50ccc0b0c329fb4c43776", func := "quash/quashlaw01.MemApart", spec := "memApart", apart := false, narrowed := true }
def MemApartUptoSaid : Prop := memApartUptoRow.holds Try.pinned (OpenSpec.upto memApartSpec)

/-- 'quashlaw01.MemPlays', WHERE WHAT IT READS IS OF BULK AT MOST 1048576: true; the input reads as it did. -/
def memPlaysUptoRow : OpenClaim := { program := "ytlpgcfgnimchaaa", sum := "c76c4e866c577564eaa6702449475a5531a526de86b50ccc0b0c329fb4c43776", func := "quash/quashlaw01.MemPlays", spec := "memPlays", apart := false, narrowed := true }
def MemPlaysUptoSaid : Prop := memPlaysUptoRow.holds Try.pinned (OpenSpec.upto memPlaysSpec)

end Rows
end Go.Proofs.Ytlpgcfgnimchaaa
