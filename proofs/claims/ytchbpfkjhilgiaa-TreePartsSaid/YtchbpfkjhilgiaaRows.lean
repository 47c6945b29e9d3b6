/-
  No cell of these rows narrows 'for every input' (looked for: loops, veiled, ifaces, maps, wideKeys, modest, calm, conditions, laid).
  DERIVED. THE GIVEN ROWS OF THIS SEAT. 6 by the template 'for every input the law returns true; each argument reads behind the call as it read before'; 0 by the template 'total and deterministic' (their statements: YtchbpfkjhilgiaaTotals.lean).
  GIVEN WITH THE SEED: the statements are not yours to turn. If you find one false, say at which input.
  Laid BY PROGRAM, IN A SANDBOX (cutbox-rows.mjs): the forced cells as the released guide's own fill.sh prints them over the translation 9726b5d91024ef9c… (all of the seat's roots in one cut). By AI agents, Wed Nov 11 2026. No macro, syntax, notation, axiom, sorry.
-/
import Derived.Test.YtchbpfkjhilgiaaChecked
import GoSem.Claim
import GoSem.ClaimJoined
import GoSem.ClaimMapViews
import Derived.JoinedTies
import Derived.KernelRfl
namespace Go.Proofs.Ytchbpfkjhilgiaa
/- THE CELL 'sum', in the pinned program and in every row, IS THE sha256 OF THE DUMP (.gsa) THAT YtchbpfkjhilgiaaProg.lean LOADS. Nothing in Lean hashes anything: it is a label: what it is worth is what the hold of that sum in a sandbox is worth. -/
noncomputable def Try.pinned : Pinned := { name := "ytchbpfkjhilgiaa", sum := "9726b5d91024ef9ce74212b7410e4fc7eb4401852a8f40176fbe8009a29645d0", checked := Try.checked }
namespace Rows
def none {H : Type} : Left H := { results := [], args := [] }

/-- 'variorumlaw12.TreeOrders': WHATEVER THE INPUT: true; the input reads as it did. -/
def treeOrdersSpec : ChangeSpec := { name := "treeOrders", fn := fun _ => fun
  | [d] => { results := [.lit (.bool true)], args := [d] }
  | _ => none }
def treeOrdersRow : OpenClaim := { program := "ytchbpfkjhilgiaa", sum := "9726b5d91024ef9ce74212b7410e4fc7eb4401852a8f40176fbe8009a29645d0", func := "variorum/variorumlaw12.TreeOrders", spec := "treeOrders", inPlace := ["internal/bytealg.Compare", "internal/abi.NoEscape"], unfollowed := true, recurses := true, apart := false }
def TreeOrdersSaid : Prop := treeOrdersRow.holds Try.pinned (OpenSpec.ofChange treeOrdersSpec)

/-- ITS FALSE NEIGHBOUR: 'it returns false'. Refute it at one input. -/
def treeOrdersWrong : ChangeSpec := { name := "treeOrders", fn := fun _ => fun
  | [d] => { results := [.lit (.bool false)], args := [d] }
  | _ => none }
def TreeOrdersWrongFalsely : Prop := treeOrdersRow.holds Try.pinned (OpenSpec.ofChange treeOrdersWrong)

/-- 'variorumlaw12.TreeParts': WHATEVER THE INPUT: true; the input reads as it did. -/
def treePartsSpec : ChangeSpec := { name := "treeParts", fn := fun _ => fun
  | [d1, d2] => { results := [.lit (.bool true)], args := [d1, d2] }
  | _ => none }
def treePartsRow : OpenClaim := { program := "ytchbpfkjhilgiaa", sum := "9726b5d91024ef9ce74212b7410e4fc7eb4401852a8f40176fbe8009a29645d0", func := "variorum/variorumlaw12.TreeParts", spec := "treeParts", inPlace := ["internal/bytealg.Compare", "internal/abi.NoEscape"], unfollowed := true, recurses := true, apart := false }
def TreePartsSaid : Prop := treePartsRow.holds Try.pinned (OpenSpec.ofChange treePartsSpec)

/-- ITS FALSE NEIGHBOUR: 'it returns false'. Refute it at one input. -/
def treePartsWrong : ChangeSpec := { name := "treeParts", fn := fun _ => fun
  | [d1, d2] => { results := [.lit (.bool false)], args := [d1, d2] }
  | _ => none }
def TreePartsWrongFalsely : Prop := treePartsRow.holds Try.pinned (OpenSpec.ofChange treePartsWrong)

/-- 'variorumlaw12.TreeNext': WHATEVER THE INPUT: true; the input reads as it did. -/
def treeNextSpec : ChangeSpec := { name := "treeNext", fn := fun _ => fun
  | [d1, d2] => { results := [.lit (.bool true)], args := [d1, d2] }
  | _ => none }
def treeNextRow : OpenClaim := { program := "ytchbpfkjhilgiaa", sum := "9726b5d91024ef9ce74212b7410e4fc7eb4401852a8f40176fbe8009a29645d0", func := "variorum/variorumlaw12.TreeNext", spec := "treeNext", inPlace := ["internal/bytealg.Compare", "internal/abi.NoEscape"], unfollowed := true, recurses := true, apart := false }
def TreeNextSaid : Prop := treeNextRow.holds Try.pinned (OpenSpec.ofChange treeNextSpec)

/-- ITS FALSE NEIGHBOUR: 'it returns false'. Refute it at one input. -/
def treeNextWrong : ChangeSpec := { name := "treeNext", fn := fun _ => fun
  | [d1, d2] => { results := [.lit (.bool false)], args := [d1, d2] }
  | _ => none }
def TreeNextWrongFalsely : Prop := treeNextRow.holds Try.pinned (OpenSpec.ofChange treeNextWrong)

/-- 'variorumlaw12.TreeTurned': WHATEVER THE INPUT: true; the input reads as it did. -/
def treeTurnedSpec : ChangeSpec := { name := "treeTurned", fn := fun _ => fun
  | [d] => { results := [.lit (.bool true)], args := [d] }
  | _ => none }
def treeTurnedRow : OpenClaim := { program := "ytchbpfkjhilgiaa", sum := "9726b5d91024ef9ce74212b7410e4fc7eb4401852a8f40176fbe8009a29645d0", func := "variorum/variorumlaw12.TreeTurned", spec := "treeTurned", inPlace := ["internal/bytealg.Compare", "internal/abi.NoEscape"], unfollowed := true, recurses := true, apart := false }
def TreeTurnedSaid : Prop := treeTurnedRow.holds Try.pinned (OpenSpec.ofChange treeTurnedSpec)

/-- ITS FALSE NEIGHBOUR: 'it returns false'. Refute it at one input. -/
def treeTurnedWrong : ChangeSpec := { name := "treeTurned", fn := fun _ => fun
  | [d] => { results := [.lit (.bool false)], args := [d] }
  | _ => none }
def TreeTurnedWrongFalsely : Prop := treeTurnedRow.holds Try.pinned (OpenSpec.ofChange treeTurnedWrong)

/-- 'variorumlaw12.TreeCompares': WHATEVER THE INPUT: true; the input reads as it did. -/
def treeComparesSpec : ChangeSpec := { name := "treeCompares", fn := fun _ => fun
  | [d1, d2, d3] => { results := [.lit (.bool true)], args := [d1, d2, d3] }
  | _ => none }
def treeComparesRow : OpenClaim := { program := "ytchbpfkjhilgiaa", sum := "9726b5d91024ef9ce74212b7410e4fc7eb4401852a8f40176fbe8009a29645d0", func := "variorum/variorumlaw12.TreeCompares", spec := "treeCompares", inPlace := ["internal/bytealg.Compare", "internal/abi.NoEscape"], unfollowed := true, recurses := true, apart := false }
def TreeComparesSaid : Prop := treeComparesRow.holds Try.pinned (OpenSpec.ofChange treeComparesSpec)

/-- ITS FALSE NEIGHBOUR: 'it returns false'. Refute it at one input. -/
def treeComparesWrong : ChangeSpec := { name := "treeCompares", fn := fun _ => fun
  | [d1, d2, d3] => { results := [.lit (.bool false)], args := [d1, d2, d3] }
  | _ => none }
def TreeComparesWrongFalsely : Prop := treeComparesRow.holds Try.pinned (OpenSpec.ofChange treeComparesWrong)

/-- 'variorumlaw12.TreeOne': WHATEVER THE INPUT: true; the input reads as it did. -/
def treeOneSpec : ChangeSpec := { name := "treeOne", fn := fun _ => fun
  | [d] => { results := [.lit (.bool true)], args := [d] }
  | _ => none }
def treeOneRow : OpenClaim := { program := "ytchbpfkjhilgiaa", sum := "9726b5d91024ef9ce74212b7410e4fc7eb4401852a8f40176fbe8009a29645d0", func := "variorum/variorumlaw12.TreeOne", spec := "treeOne", inPlace := ["internal/bytealg.Compare", "internal/abi.NoEscape"], unfollowed := true, recurses := true, apart := false }
def TreeOneSaid : Prop := treeOneRow.holds Try.pinned (OpenSpec.ofChange treeOneSpec)

/-- ITS FALSE NEIGHBOUR: 'it returns false'. Refute it at one input. -/
def treeOneWrong : ChangeSpec := { name := "treeOne", fn := fun _ => fun
  | [d] => { results := [.lit (.bool false)], args := [d] }
  | _ => none }
def TreeOneWrongFalsely : Prop := treeOneRow.holds Try.pinned (OpenSpec.ofChange treeOneWrong)

/- THE SECOND FORM. 'bulk': how many values and letters a reading holds, each counted each time it is reached (what is shared counts as often as it is met; a slice's spare places count too). A statement '..UptoSaid' is the law's where the arguments, and the package variables that the reading takes, are together of bulk at most 1048576: NARROWER than '..Said'. Prove '..Said' where nothing that the law and all that it calls make is longer than what came in: it says more and counts as full. Else prove '..UptoSaid'. A law counts once. -/
mutual
def uptoBulk {H : Type} : DataW H → Nat
  | .lit (.string bytes) => bytes.length + 1
  | .lit _ => 1
  | .nil => 1
  | .ptr d => uptoBulk d + 1
  | .slice elems spare => uptoBulkAll elems + uptoBulkAll spare + 1
  | .agg parts => uptoBulkAll parts + 1
  | .iface _ d => uptoBulk d + 1
  | .map entries => uptoBulkEntries entries + 1
  | .held _ => 1
def uptoBulkAll {H : Type} : List (DataW H) → Nat
  | [] => 0
  | d :: r => uptoBulk d + uptoBulkAll r
def uptoBulkEntries {H : Type} : List (Lit × DataW H) → Nat
  | [] => 0
  | x :: r => uptoBulkEntry x + uptoBulkEntries r
def uptoBulkEntry {H : Type} : Lit × DataW H → Nat
  | (.string bytes, d) => bytes.length + uptoBulk d + 1
  | (_, d) => uptoBulk d + 1
 end
def uptoSmall : (H : Type) → List (DataW H) → Bool := fun _ ds => decide (uptoBulkAll ds ≤ 1048576)
def OpenSpec.upto (s : _root_.Go.ChangeSpec) : _root_.Go.OpenSpec := { _root_.Go.OpenSpec.ofChange s with cond := some uptoSmall }

/-- 'variorumlaw12.TreeOrders', WHERE WHAT IT READS IS OF BULK AT MOST 1048576: true; the input reads as it did. -/
def treeOrdersUptoRow : OpenClaim := { program := "ytchbpfkjhilgiaa", sum := "9726b5d91024ef9ce74212b7410e4fc7eb4401852a8f40176fbe8009a29645d0", func := "variorum/variorumlaw12.TreeOrders", spec := "treeOrders", inPlace := ["internal/bytealg.Compare", "internal/abi.NoEscape"], unfollowed := true, recurses := true, apart := false, narrowed := true }
def TreeOrdersUptoSaid : Prop := treeOrdersUptoRow.holds Try.pinned (OpenSpec.upto treeOrdersSpec)

/-- 'variorumlaw12.TreeParts', WHERE WHAT IT READS IS OF BULK AT MOST 1048576: true; the input reads as it did. -/
def treePartsUptoRow : OpenClaim := { program := "ytchbpfkjhilgiaa", sum := "9726b5d91024ef9ce74212b7410e4fc7eb4401852a8f40176fbe8009a29645d0", func := "variorum/variorumlaw12.TreeParts", spec := "treeParts", inPlace := ["internal/bytealg.Compare", "internal/abi.NoEscape"], unfollowed := true, recurses := true, apart := false, narrowed := true }
def TreePartsUptoSaid : Prop := treePartsUptoRow.holds Try.pinned (OpenSpec.upto treePartsSpec)

/-- 'variorumlaw12.TreeNext', WHERE WHAT IT READS IS OF BULK AT MOST 1048576: true; the input reads as it did. -/
def treeNextUptoRow : OpenClaim := { program := "ytchbpfkjhilgiaa", sum := "9726b5d91024ef9ce74212b7410e4fc7eb4401852a8f40176fbe8009a29645d0", func := "variorum/variorumlaw12.TreeNext", spec := "treeNext", inPlace := ["internal/bytealg.Compare", "internal/abi.NoEscape"], unfollowed := true, recurses := true, apart := false, narrowed := true }
def TreeNextUptoSaid : Prop := treeNextUptoRow.holds Try.pinned (OpenSpec.upto treeNextSpec)

/-- 'variorumlaw12.TreeTurned', WHERE WHAT IT READS IS OF BULK AT MOST 1048576: true; the input reads as it did. -/
def treeTurnedUptoRow : OpenClaim := { program := "ytchbpfkjhilgiaa", sum := "9726b5d91024ef9ce74212b7410e4fc7eb4401852a8f40176fbe8009a29645d0", func := "variorum/variorumlaw12.TreeTurned", spec := "treeTurned", inPlace := ["internal/bytealg.Compare", "internal/abi.NoEscape"], unfollowed := true, recurses := true, apart := false, narrowed := true }
def TreeTurnedUptoSaid : Prop := treeTurnedUptoRow.holds Try.pinned (OpenSpec.upto treeTurnedSpec)

/-- 'variorumlaw12.TreeCompares', WHERE WHAT IT READS IS OF BULK AT MOST 1048576: true; the input reads as it did. -/
def treeComparesUptoRow : OpenClaim := { program := "ytchbpfkjhilgiaa", sum := "9726b5d91024ef9ce74212b7410e4fc7eb4401852a8f40176fbe8009a29645d0", func := "variorum/variorumlaw12.TreeCompares", spec := "treeCompares", inPlace := ["internal/bytealg.Compare", "internal/abi.NoEscape"], unfollowed := true, recurses := true, apart := false, narrowed := true }
def TreeComparesUptoSaid : Prop := treeComparesUptoRow.holds Try.pinned (OpenSpec.upto treeComparesSpec)

/-- 'variorumlaw12.TreeOne', WHERE WHAT IT READS IS OF BULK AT MOST 1048576: true; the input reads as it did. -/
def treeOneUptoRow : OpenClaim := { program := "ytchbpfkjhilgiaa", sum := "9726b5d91024ef9ce74212b7410e4fc7eb4401852a8f40176fbe8009a29645d0", func := "variorum/variorumlaw12.TreeOne", spec := "treeOne", inPlace := ["internal/bytealg.Compare", "internal/abi.NoEscape"], unfollowed := true, recurses := true, apart := false, narrowed := true }
def TreeOneUptoSaid : Prop := treeOneUptoRow.holds Try.pinned (OpenSpec.upto treeOneSpec)

end Rows
end Go.Proofs.Ytchbpfkjhilgiaa
