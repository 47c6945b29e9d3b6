/-
  No cell of these rows narrows 'for every input' (looked for: loops, veiled, ifaces, maps, wideKeys, modest, calm, conditions, laid).
  DERIVED. THE GIVEN ROWS OF THIS SEAT. 7 by the template 'for every input the law returns true; each argument reads behind the call as it read before'; 0 by the template 'total and deterministic' (their statements: YtipoifokcnbfnaaTotals.lean).
  GIVEN WITH THE SEED: the statements are not yours to turn. If you find one false, say at which input.
  Laid BY PROGRAM, IN A SANDBOX (cutbox-rows.mjs): the forced cells as the released guide's own fill.sh prints them over the translation 23aaad5117702d7e… (all of the seat's roots in one cut). By AI agents, Wed Nov 11 2026. No macro, syntax, notation, axiom, sorry.
-/
import Derived.Test.YtipoifokcnbfnaaChecked
import GoSem.Claim
import GoSem.ClaimJoined
import GoSem.ClaimMapViews
import Derived.JoinedTies
import Derived.KernelRfl
namespace Go.Proofs.Ytipoifokcnbfnaa
/- THE CELL 'sum', in the pinned program and in every row, IS THE sha256 OF THE DUMP (.gsa) THAT YtipoifokcnbfnaaProg.lean LOADS. Nothing in Lean hashes anything: it is a label: what it is worth is what the hold of that sum in a sandbox is worth. -/
noncomputable def Try.pinned : Pinned := { name := "ytipoifokcnbfnaa", sum := "23aaad5117702d7e95017c0f85562975b20906d7cdd1d8d94275930753fe3014", checked := Try.checked }
namespace Rows
def none {H : Type} : Left H := { results := [], args := [] }

/-- 'variorumlaw16.MyersMoves': WHATEVER THE INPUT: true; the input reads as it did. -/
def myersMovesSpec : ChangeSpec := { name := "myersMoves", fn := fun _ => fun
  | [d1, d2] => { results := [.lit (.bool true)], args := [d1, d2] }
  | _ => none }
def myersMovesRow : OpenClaim := { program := "ytipoifokcnbfnaa", sum := "23aaad5117702d7e95017c0f85562975b20906d7cdd1d8d94275930753fe3014", func := "variorum/variorumlaw16.MyersMoves", spec := "myersMoves", unfollowed := true, recurses := true, apart := false }
def MyersMovesSaid : Prop := myersMovesRow.holds Try.pinned (OpenSpec.ofChange myersMovesSpec)

/-- ITS FALSE NEIGHBOUR: 'it returns false'. Refute it at one input. -/
def myersMovesWrong : ChangeSpec := { name := "myersMoves", fn := fun _ => fun
  | [d1, d2] => { results := [.lit (.bool false)], args := [d1, d2] }
  | _ => none }
def MyersMovesWrongFalsely : Prop := myersMovesRow.holds Try.pinned (OpenSpec.ofChange myersMovesWrong)

/-- 'variorumlaw16.MyersDiffs': WHATEVER THE INPUT: true; the input reads as it did. -/
def myersDiffsSpec : ChangeSpec := { name := "myersDiffs", fn := fun _ => fun
  | [d1, d2] => { results := [.lit (.bool true)], args := [d1, d2] }
  | _ => none }
def myersDiffsRow : OpenClaim := { program := "ytipoifokcnbfnaa", sum := "23aaad5117702d7e95017c0f85562975b20906d7cdd1d8d94275930753fe3014", func := "variorum/variorumlaw16.MyersDiffs", spec := "myersDiffs", unfollowed := true, recurses := true, apart := false }
def MyersDiffsSaid : Prop := myersDiffsRow.holds Try.pinned (OpenSpec.ofChange myersDiffsSpec)

/-- ITS FALSE NEIGHBOUR: 'it returns false'. Refute it at one input. -/
def myersDiffsWrong : ChangeSpec := { name := "myersDiffs", fn := fun _ => fun
  | [d1, d2] => { results := [.lit (.bool false)], args := [d1, d2] }
  | _ => none }
def MyersDiffsWrongFalsely : Prop := myersDiffsRow.holds Try.pinned (OpenSpec.ofChange myersDiffsWrong)

/-- 'variorumlaw16.MyersTurned': WHATEVER THE INPUT: true; the input reads as it did. -/
def myersTurnedSpec : ChangeSpec := { name := "myersTurned", fn := fun _ => fun
  | [d1, d2] => { results := [.lit (.bool true)], args := [d1, d2] }
  | _ => none }
def myersTurnedRow : OpenClaim := { program := "ytipoifokcnbfnaa", sum := "23aaad5117702d7e95017c0f85562975b20906d7cdd1d8d94275930753fe3014", func := "variorum/variorumlaw16.MyersTurned", spec := "myersTurned", unfollowed := true, recurses := true, apart := false }
def MyersTurnedSaid : Prop := myersTurnedRow.holds Try.pinned (OpenSpec.ofChange myersTurnedSpec)

/-- ITS FALSE NEIGHBOUR: 'it returns false'. Refute it at one input. -/
def myersTurnedWrong : ChangeSpec := { name := "myersTurned", fn := fun _ => fun
  | [d1, d2] => { results := [.lit (.bool false)], args := [d1, d2] }
  | _ => none }
def MyersTurnedWrongFalsely : Prop := myersTurnedRow.holds Try.pinned (OpenSpec.ofChange myersTurnedWrong)

/-- 'variorumlaw16.MyersAhead': WHATEVER THE INPUT: true; the input reads as it did. -/
def myersAheadSpec : ChangeSpec := { name := "myersAhead", fn := fun _ => fun
  | [d1, d2, d3] => { results := [.lit (.bool true)], args := [d1, d2, d3] }
  | _ => none }
def myersAheadRow : OpenClaim := { program := "ytipoifokcnbfnaa", sum := "23aaad5117702d7e95017c0f85562975b20906d7cdd1d8d94275930753fe3014", func := "variorum/variorumlaw16.MyersAhead", spec := "myersAhead", unfollowed := true, recurses := true, apart := false }
def MyersAheadSaid : Prop := myersAheadRow.holds Try.pinned (OpenSpec.ofChange myersAheadSpec)

/-- ITS FALSE NEIGHBOUR: 'it returns false'. Refute it at one input. -/
def myersAheadWrong : ChangeSpec := { name := "myersAhead", fn := fun _ => fun
  | [d1, d2, d3] => { results := [.lit (.bool false)], args := [d1, d2, d3] }
  | _ => none }
def MyersAheadWrongFalsely : Prop := myersAheadRow.holds Try.pinned (OpenSpec.ofChange myersAheadWrong)

/-- 'variorumlaw16.MyersApplies': WHATEVER THE INPUT: true; the input reads as it did. -/
def myersAppliesSpec : ChangeSpec := { name := "myersApplies", fn := fun _ => fun
  | [d1, d2] => { results := [.lit (.bool true)], args := [d1, d2] }
  | _ => none }
def myersAppliesRow : OpenClaim := { program := "ytipoifokcnbfnaa", sum := "23aaad5117702d7e95017c0f85562975b20906d7cdd1d8d94275930753fe3014", func := "variorum/variorumlaw16.MyersApplies", spec := "myersApplies", inPlace := ["internal/abi.NoEscape"], unfollowed := true, recurses := true, apart := false }
def MyersAppliesSaid : Prop := myersAppliesRow.holds Try.pinned (OpenSpec.ofChange myersAppliesSpec)

/-- ITS FALSE NEIGHBOUR: 'it returns false'. Refute it at one input. -/
def myersAppliesWrong : ChangeSpec := { name := "myersApplies", fn := fun _ => fun
  | [d1, d2] => { results := [.lit (.bool false)], args := [d1, d2] }
  | _ => none }
def MyersAppliesWrongFalsely : Prop := myersAppliesRow.holds Try.pinned (OpenSpec.ofChange myersAppliesWrong)

/-- 'variorumlaw16.MyersBack': WHATEVER THE INPUT: true; the input reads as it did. -/
def myersBackSpec : ChangeSpec := { name := "myersBack", fn := fun _ => fun
  | [d1, d2] => { results := [.lit (.bool true)], args := [d1, d2] }
  | _ => none }
def myersBackRow : OpenClaim := { program := "ytipoifokcnbfnaa", sum := "23aaad5117702d7e95017c0f85562975b20906d7cdd1d8d94275930753fe3014", func := "variorum/variorumlaw16.MyersBack", spec := "myersBack", inPlace := ["internal/abi.NoEscape"], unfollowed := true, recurses := true, apart := false }
def MyersBackSaid : Prop := myersBackRow.holds Try.pinned (OpenSpec.ofChange myersBackSpec)

/-- ITS FALSE NEIGHBOUR: 'it returns false'. Refute it at one input. -/
def myersBackWrong : ChangeSpec := { name := "myersBack", fn := fun _ => fun
  | [d1, d2] => { results := [.lit (.bool false)], args := [d1, d2] }
  | _ => none }
def MyersBackWrongFalsely : Prop := myersBackRow.holds Try.pinned (OpenSpec.ofChange myersBackWrong)

/-- 'variorumlaw16.MyersLeast': WHATEVER THE INPUT: true; the input reads as it did. -/
def myersLeastSpec : ChangeSpec := { name := "myersLeast", fn := fun _ => fun
  | [d1, d2] => { results := [.lit (.bool true)], args := [d1, d2] }
  | _ => none }
def myersLeastRow : OpenClaim := { program := "ytipoifokcnbfnaa", sum := "23aaad5117702d7e95017c0f85562975b20906d7cdd1d8d94275930753fe3014", func := "variorum/variorumlaw16.MyersLeast", spec := "myersLeast", inPlace := ["internal/abi.NoEscape"], unfollowed := true, recurses := true, apart := false }
def MyersLeastSaid : Prop := myersLeastRow.holds Try.pinned (OpenSpec.ofChange myersLeastSpec)

/-- ITS FALSE NEIGHBOUR: 'it returns false'. Refute it at one input. -/
def myersLeastWrong : ChangeSpec := { name := "myersLeast", fn := fun _ => fun
  | [d1, d2] => { results := [.lit (.bool false)], args := [d1, d2] }
  | _ => none }
def MyersLeastWrongFalsely : Prop := myersLeastRow.holds Try.pinned (OpenSpec.ofChange myersLeastWrong)

/- THE SECOND FORM. 'bulk': how many values and letters a reading holds, each counted each time it is reached (what is shared counts as often as it is met; a slice's spare places count too). A statement '..UptoSaid' is the law's where the arguments, and the package variables that the reading takes, are together of bulk at most 1048576: NARROWER than '..Said'. Prove '..Said' where nothing that the law and all that it calls make is longer than what came in: it says more and counts as full. Else prove '..UptoSaid'. A law counts once. -/
mutual
def uptoBulk {H : Type} : DataW H → Nat
  | .lit (.string bytes) => bytes.length + 1
  | .lit _ => 1
  | .nil => 1
  | .ptr d => uptoBulk d + 1
  | .slice elems spare => uptoBulkAll elems + uptoBulkAll spare + 1
  | .agg parts => uptoBulkAll parts + 1
  | .iface _ d => uptoBulk d + 1
  | .map entries => uptoBulkEntries entries + 1
  | .held _ => 1
def uptoBulkAll {H : Type} : List (DataW H) → Nat
  | [] => 0
  | d :: r => uptoBulk d + uptoBulkAll r
def uptoBulkEntries {H : Type} : List (Lit × DataW H) → Nat
  | [] => 0
  | x :: r => uptoBulkEntry x + uptoBulkEntries r
def uptoBulkEntry {H : Type} : Lit × DataW H → Nat
  | (.string bytes, d) => bytes.length + uptoBulk d + 1
  | (_, d) => uptoBulk d + 1
 end
def uptoSmall : (H : Type) → List (DataW H) → Bool := fun _ ds => decide (uptoBulkAll ds ≤ 1048576)
def OpenSpec.upto (s : _root_.Go.ChangeSpec) : _root_.Go.OpenSpec := { _root_.Go.OpenSpec.ofChange s with cond := some uptoSmall }

/-- 'variorumlaw16.MyersMoves', WHERE WHAT IT READS IS OF BULK AT MOST 1048576: true; the input reads as it did. -/
def myersMovesUptoRow : OpenClaim := { program := "ytipoifokcnbfnaa", sum := "23aaad5117702d7e95017c0f85562975b20906d7cdd1d8d94275930753fe3014", func := "variorum/variorumlaw16.MyersMoves", spec := "myersMoves", unfollowed := true, recurses := true, apart := false, narrowed := true }
def MyersMovesUptoSaid : Prop := myersMovesUptoRow.holds Try.pinned (OpenSpec.upto myersMovesSpec)

/-- 'variorumlaw16.MyersDiffs', WHERE WHAT IT READS IS OF BULK AT MOST 1048576: true; the input reads as it did. -/
def myersDiffsUptoRow : OpenClaim := { program := "ytipoifokcnbfnaa", sum := "23aaad5117702d7e95017c0f85562975b20906d7cdd1d8d94275930753fe3014", func := "variorum/variorumlaw16.MyersDiffs", spec := "myersDiffs", unfollowed := true, recurses := true, apart := false, narrowed := true }
def MyersDiffsUptoSaid : Prop := myersDiffsUptoRow.holds Try.pinned (OpenSpec.upto myersDiffsSpec)

/-- 'variorumlaw16.MyersTurned', WHERE WHAT IT READS IS OF BULK AT MOST 1048576: true; the input reads as it did. -/
def myersTurnedUptoRow : OpenClaim := { program := "ytipoifokcnbfnaa", sum := "23aaad5117702d7e95017c0f85562975b20906d7cdd1d8d94275930753fe3014", func := "variorum/variorumlaw16.MyersTurned", spec := "myersTurned", unfollowed := true, recurses := true, apart := false, narrowed := true }
def MyersTurnedUptoSaid : Prop := myersTurnedUptoRow.holds Try.pinned (OpenSpec.upto myersTurnedSpec)

/-- 'variorumlaw16.MyersAhead', WHERE WHAT IT READS IS OF BULK AT MOST 1048576: true; the input reads as it did. -/
def myersAheadUptoRow : OpenClaim := { program := "ytipoifokcnbfnaa", sum := "23aaad5117702d7e95017c0f85562975b20906d7cdd1d8d94275930753fe3014", func := "variorum/variorumlaw16.MyersAhead", spec := "myersAhead", unfollowed := true, recurses := true, apart := false, narrowed := true }
def MyersAheadUptoSaid : Prop := myersAheadUptoRow.holds Try.pinned (OpenSpec.upto myersAheadSpec)

/-- 'variorumlaw16.MyersApplies', WHERE WHAT IT READS IS OF BULK AT MOST 1048576: true; the input reads as it did. -/
def myersAppliesUptoRow : OpenClaim := { program := "ytipoifokcnbfnaa", sum := "23aaad5117702d7e95017c0f85562975b20906d7cdd1d8d94275930753fe3014", func := "variorum/variorumlaw16.MyersApplies", spec := "myersApplies", inPlace := ["internal/abi.NoEscape"], unfollowed := true, recurses := true, apart := false, narrowed := true }
def MyersAppliesUptoSaid : Prop := myersAppliesUptoRow.holds Try.pinned (OpenSpec.upto myersAppliesSpec)

/-- 'variorumlaw16.MyersBack', WHERE WHAT IT READS IS OF BULK AT MOST 1048576: true; the input reads as it did. -/
def myersBackUptoRow : OpenClaim := { program := "ytipoifokcnbfnaa", sum := "23aaad5117702d7e95017c0f85562975b20906d7cdd1d8d94275930753fe3014", func := "variorum/variorumlaw16.MyersBack", spec := "myersBack", inPlace := ["internal/abi.NoEscape"], unfollowed := true, recurses := true, apart := false, narrowed := true }
def MyersBackUptoSaid : Prop := myersBackUptoRow.holds Try.pinned (OpenSpec.upto myersBackSpec)

/-- 'variorumlaw16.MyersLeast', WHERE WHAT IT READS IS OF BULK AT MOST 1048576: true; the input reads as it did. -/
def myersLeastUptoRow : OpenClaim := { program := "ytipoifokcnbfnaa", sum := "23aaad5117702d7e95017c0f85562975b20906d7cdd1d8d94275930753fe3014", func := "variorum/variorumlaw16.MyersLeast", spec := "myersLeast", inPlace := ["internal/abi.NoEscape"], unfollowed := true, recurses := true, apart := false, narrowed := true }
def MyersLeastUptoSaid : Prop := myersLeastUptoRow.holds Try.pinned (OpenSpec.upto myersLeastSpec)

end Rows
end Go.Proofs.Ytipoifokcnbfnaa
