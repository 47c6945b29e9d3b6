/-
  No cell of these rows narrows 'for every input' (looked for: loops, veiled, ifaces, maps, wideKeys, modest, calm, conditions, laid).
  DERIVED. THE GIVEN ROWS OF THIS SEAT. 6 by the template 'for every input the law returns true; each argument reads behind the call as it read before'; 0 by the template 'total and deterministic' (their statements: YtcgioboiebanpaaTotals.lean).
  GIVEN WITH THE SEED: the statements are not yours to turn. If you find one false, say at which input.
  Laid BY PROGRAM, IN A SANDBOX (cutbox-rows.mjs): the forced cells as the released guide's own fill.sh prints them over the translation 748836c289ecb977… (all of the seat's roots in one cut). By AI agents, Wed Nov 11 2026. No macro, syntax, notation, axiom, sorry.
-/
import Derived.Test.YtcgioboiebanpaaChecked
import GoSem.Claim
import GoSem.ClaimJoined
import GoSem.ClaimMapViews
import Derived.JoinedTies
import Derived.KernelRfl
namespace Go.Proofs.Ytcgioboiebanpaa
/- THE CELL 'sum', in the pinned program and in every row, IS THE sha256 OF THE DUMP (.gsa) THAT YtcgioboiebanpaaProg.lean LOADS. Nothing in Lean hashes anything: it is a label: what it is worth is what the hold of that sum in a sandbox is worth. -/
noncomputable def Try.pinned : Pinned := { name := "ytcgioboiebanpaa", sum := "748836c289ecb97742111242509bcced7e3918a74ffe154c573745ef8d57c3f7", checked := Try.checked }
namespace Rows
def none {H : Type} : Left H := { results := [], args := [] }

/-- 'variorumlaw13.BlockAgree': WHATEVER THE INPUT: true; the input reads as it did. -/
def blockAgreeSpec : ChangeSpec := { name := "blockAgree", fn := fun _ => fun
  | [d1, d2, d3] => { results := [.lit (.bool true)], args := [d1, d2, d3] }
  | _ => none }
def blockAgreeRow : OpenClaim := { program := "ytcgioboiebanpaa", sum := "748836c289ecb97742111242509bcced7e3918a74ffe154c573745ef8d57c3f7", func := "variorum/variorumlaw13.BlockAgree", spec := "blockAgree", inPlace := ["internal/bytealg.Compare", "internal/abi.NoEscape"], unfollowed := true, recurses := true, apart := false }
def BlockAgreeSaid : Prop := blockAgreeRow.holds Try.pinned (OpenSpec.ofChange blockAgreeSpec)

/-- ITS FALSE NEIGHBOUR: 'it returns false'. Refute it at one input. -/
def blockAgreeWrong : ChangeSpec := { name := "blockAgree", fn := fun _ => fun
  | [d1, d2, d3] => { results := [.lit (.bool false)], args := [d1, d2, d3] }
  | _ => none }
def BlockAgreeWrongFalsely : Prop := blockAgreeRow.holds Try.pinned (OpenSpec.ofChange blockAgreeWrong)

/-- 'variorumlaw13.BlockCopies': WHATEVER THE INPUT: true; the input reads as it did. -/
def blockCopiesSpec : ChangeSpec := { name := "blockCopies", fn := fun _ => fun
  | [d1, d2] => { results := [.lit (.bool true)], args := [d1, d2] }
  | _ => none }
def blockCopiesRow : OpenClaim := { program := "ytcgioboiebanpaa", sum := "748836c289ecb97742111242509bcced7e3918a74ffe154c573745ef8d57c3f7", func := "variorum/variorumlaw13.BlockCopies", spec := "blockCopies", inPlace := ["internal/bytealg.Compare", "internal/abi.NoEscape"], unfollowed := true, recurses := true, apart := false }
def BlockCopiesSaid : Prop := blockCopiesRow.holds Try.pinned (OpenSpec.ofChange blockCopiesSpec)

/-- ITS FALSE NEIGHBOUR: 'it returns false'. Refute it at one input. -/
def blockCopiesWrong : ChangeSpec := { name := "blockCopies", fn := fun _ => fun
  | [d1, d2] => { results := [.lit (.bool false)], args := [d1, d2] }
  | _ => none }
def BlockCopiesWrongFalsely : Prop := blockCopiesRow.holds Try.pinned (OpenSpec.ofChange blockCopiesWrong)

/-- 'variorumlaw13.BlockPlays': WHATEVER THE INPUT: true; the input reads as it did. -/
def blockPlaysSpec : ChangeSpec := { name := "blockPlays", fn := fun _ => fun
  | [d] => { results := [.lit (.bool true)], args := [d] }
  | _ => none }
def blockPlaysRow : OpenClaim := { program := "ytcgioboiebanpaa", sum := "748836c289ecb97742111242509bcced7e3918a74ffe154c573745ef8d57c3f7", func := "variorum/variorumlaw13.BlockPlays", spec := "blockPlays", inPlace := ["internal/bytealg.Compare", "internal/abi.NoEscape"], unfollowed := true, recurses := true, apart := false }
def BlockPlaysSaid : Prop := blockPlaysRow.holds Try.pinned (OpenSpec.ofChange blockPlaysSpec)

/-- ITS FALSE NEIGHBOUR: 'it returns false'. Refute it at one input. -/
def blockPlaysWrong : ChangeSpec := { name := "blockPlays", fn := fun _ => fun
  | [d] => { results := [.lit (.bool false)], args := [d] }
  | _ => none }
def BlockPlaysWrongFalsely : Prop := blockPlaysRow.holds Try.pinned (OpenSpec.ofChange blockPlaysWrong)

/-- 'variorumlaw13.BlockPlaces': WHATEVER THE INPUT: true; the input reads as it did. -/
def blockPlacesSpec : ChangeSpec := { name := "blockPlaces", fn := fun _ => fun
  | [d] => { results := [.lit (.bool true)], args := [d] }
  | _ => none }
def blockPlacesRow : OpenClaim := { program := "ytcgioboiebanpaa", sum := "748836c289ecb97742111242509bcced7e3918a74ffe154c573745ef8d57c3f7", func := "variorum/variorumlaw13.BlockPlaces", spec := "blockPlaces", inPlace := ["internal/bytealg.Compare", "internal/abi.NoEscape"], unfollowed := true, recurses := true, apart := false }
def BlockPlacesSaid : Prop := blockPlacesRow.holds Try.pinned (OpenSpec.ofChange blockPlacesSpec)

/-- ITS FALSE NEIGHBOUR: 'it returns false'. Refute it at one input. -/
def blockPlacesWrong : ChangeSpec := { name := "blockPlaces", fn := fun _ => fun
  | [d] => { results := [.lit (.bool false)], args := [d] }
  | _ => none }
def BlockPlacesWrongFalsely : Prop := blockPlacesRow.holds Try.pinned (OpenSpec.ofChange blockPlacesWrong)

/-- 'variorumlaw13.BlockNil': WHATEVER THE INPUT: true; the input reads as it did. -/
def blockNilSpec : ChangeSpec := { name := "blockNil", fn := fun _ => fun
  | [d] => { results := [.lit (.bool true)], args := [d] }
  | _ => none }
def blockNilRow : OpenClaim := { program := "ytcgioboiebanpaa", sum := "748836c289ecb97742111242509bcced7e3918a74ffe154c573745ef8d57c3f7", func := "variorum/variorumlaw13.BlockNil", spec := "blockNil", inPlace := ["internal/bytealg.Compare", "internal/abi.NoEscape"], unfollowed := true, recurses := true, apart := false }
def BlockNilSaid : Prop := blockNilRow.holds Try.pinned (OpenSpec.ofChange blockNilSpec)

/-- ITS FALSE NEIGHBOUR: 'it returns false'. Refute it at one input. -/
def blockNilWrong : ChangeSpec := { name := "blockNil", fn := fun _ => fun
  | [d] => { results := [.lit (.bool false)], args := [d] }
  | _ => none }
def BlockNilWrongFalsely : Prop := blockNilRow.holds Try.pinned (OpenSpec.ofChange blockNilWrong)

/-- 'variorumlaw13.BlockTyped': WHATEVER THE INPUT: true; the input reads as it did. -/
def blockTypedSpec : ChangeSpec := { name := "blockTyped", fn := fun _ => fun
  | [d1, d2, d3] => { results := [.lit (.bool true)], args := [d1, d2, d3] }
  | _ => none }
def blockTypedRow : OpenClaim := { program := "ytcgioboiebanpaa", sum := "748836c289ecb97742111242509bcced7e3918a74ffe154c573745ef8d57c3f7", func := "variorum/variorumlaw13.BlockTyped", spec := "blockTyped", inPlace := ["internal/bytealg.Compare", "internal/abi.NoEscape"], unfollowed := true, recurses := true, apart := false }
def BlockTypedSaid : Prop := blockTypedRow.holds Try.pinned (OpenSpec.ofChange blockTypedSpec)

/-- ITS FALSE NEIGHBOUR: 'it returns false'. Refute it at one input. -/
def blockTypedWrong : ChangeSpec := { name := "blockTyped", fn := fun _ => fun
  | [d1, d2, d3] => { results := [.lit (.bool false)], args := [d1, d2, d3] }
  | _ => none }
def BlockTypedWrongFalsely : Prop := blockTypedRow.holds Try.pinned (OpenSpec.ofChange blockTypedWrong)

/- THE SECOND FORM. 'bulk': how many values and letters a reading holds, each counted each time it is reached (what is shared counts as often as it is met; a slice's spare places count too). A statement '..UptoSaid' is the law's where the arguments, and the package variables that the reading takes, are together of bulk at most 1048576: NARROWER than '..Said'. Prove '..Said' where nothing that the law and all that it calls make is longer than what came in: it says more and counts as full. Else prove '..UptoSaid'. A law counts once. -/
mutual
def uptoBulk {H : Type} : DataW H → Nat
  | .lit (.string bytes) => bytes.length + 1
  | .lit _ => 1
  | .nil => 1
  | .ptr d => uptoBulk d + 1
  | .slice elems spare => uptoBulkAll elems + uptoBulkAll spare + 1
  | .agg parts => uptoBulkAll parts + 1
  | .iface _ d => uptoBulk d + 1
  | .map entries => uptoBulkEntries entries + 1
  | .held _ => 1
def uptoBulkAll {H : Type} : List (DataW H) → Nat
  | [] => 0
  | d :: r => uptoBulk d + uptoBulkAll r
def uptoBulkEntries {H : Type} : List (Lit × DataW H) → Nat
  | [] => 0
  | x :: r => uptoBulkEntry x + uptoBulkEntries r
def uptoBulkEntry {H : Type} : Lit × DataW H → Nat
  | (.string bytes, d) => bytes.length + uptoBulk d + 1
  | (_, d) => uptoBulk d + 1
 end
def uptoSmall : (H : Type) → List (DataW H) → Bool := fun _ ds => decide (uptoBulkAll ds ≤ 1048576)
def OpenSpec.upto (s : _root_.Go.ChangeSpec) : _root_.Go.OpenSpec := { _root_.Go.OpenSpec.ofChange s with cond := some uptoSmall }

/-- 'variorumlaw13.BlockAgree', WHERE WHAT IT READS IS OF BULK AT MOST 1048576: true; the input reads as it did. -/
def blockAgreeUptoRow : OpenClaim := { program := "ytcgioboiebanpaa", sum := "748836c289ecb97742111242509bcced7e3918a74ffe154c573745ef8d57c3f7", func := "variorum/variorumlaw13.BlockAgree", spec := "blockAgree", inPlace := ["internal/bytealg.Compare", "internal/abi.NoEscape"], unfollowed := true, recurses := true, apart := false, narrowed := true }
def BlockAgreeUptoSaid : Prop := blockAgreeUptoRow.holds Try.pinned (OpenSpec.upto blockAgreeSpec)

/-- 'variorumlaw13.BlockCopies', WHERE WHAT IT READS IS OF BULK AT MOST 1048576: true; the input reads as it did. -/
def blockCopiesUptoRow : OpenClaim := { program := "ytcgioboiebanpaa", sum := "748836c289ecb97742111242509bcced7e3918a74ffe154c573745ef8d57c3f7", func := "variorum/variorumlaw13.BlockCopies", spec := "blockCopies", inPlace := ["internal/bytealg.Compare", "internal/abi.NoEscape"], unfollowed := true, recurses := true, apart := false, narrowed := true }
def BlockCopiesUptoSaid : Prop := blockCopiesUptoRow.holds Try.pinned (OpenSpec.upto blockCopiesSpec)

/-- 'variorumlaw13.BlockPlays', WHERE WHAT IT READS IS OF BULK AT MOST 1048576: true; the input reads as it did. -/
def blockPlaysUptoRow : OpenClaim := { program := "ytcgioboiebanpaa", sum := "748836c289ecb97742111242509bcced7e3918a74ffe154c573745ef8d57c3f7", func := "variorum/variorumlaw13.BlockPlays", spec := "blockPlays", inPlace := ["internal/bytealg.Compare", "internal/abi.NoEscape"], unfollowed := true, recurses := true, apart := false, narrowed := true }
def BlockPlaysUptoSaid : Prop := blockPlaysUptoRow.holds Try.pinned (OpenSpec.upto blockPlaysSpec)

/-- 'variorumlaw13.BlockPlaces', WHERE WHAT IT READS IS OF BULK AT MOST 1048576: true; the input reads as it did. -/
def blockPlacesUptoRow : OpenClaim := { program := "ytcgioboiebanpaa", sum := "748836c289ecb97742111242509bcced7e3918a74ffe154c573745ef8d57c3f7", func := "variorum/variorumlaw13.BlockPlaces", spec := "blockPlaces", inPlace := ["internal/bytealg.Compare", "internal/abi.NoEscape"], unfollowed := true, recurses := true, apart := false, narrowed := true }
def BlockPlacesUptoSaid : Prop := blockPlacesUptoRow.holds Try.pinned (OpenSpec.upto blockPlacesSpec)

/-- 'variorumlaw13.BlockNil', WHERE WHAT IT READS IS OF BULK AT MOST 1048576: true; the input reads as it did. -/
def blockNilUptoRow : OpenClaim := { program := "ytcgioboiebanpaa", sum := "748836c289ecb97742111242509bcced7e3918a74ffe154c573745ef8d57c3f7", func := "variorum/variorumlaw13.BlockNil", spec := "blockNil", inPlace := ["internal/bytealg.Compare", "internal/abi.NoEscape"], unfollowed := true, recurses := true, apart := false, narrowed := true }
def BlockNilUptoSaid : Prop := blockNilUptoRow.holds Try.pinned (OpenSpec.upto blockNilSpec)

/-- 'variorumlaw13.BlockTyped', WHERE WHAT IT READS IS OF BULK AT MOST 1048576: true; the input reads as it did. -/
def blockTypedUptoRow : OpenClaim := { program := "ytcgioboiebanpaa", sum := "748836c289ecb97742111242509bcced7e3918a74ffe154c573745ef8d57c3f7", func := "variorum/variorumlaw13.BlockTyped", spec := "blockTyped", inPlace := ["internal/bytealg.Compare", "internal/abi.NoEscape"], unfollowed := true, recurses := true, apart := false, narrowed := true }
def BlockTypedUptoSaid : Prop := blockTypedUptoRow.holds Try.pinned (OpenSpec.upto blockTypedSpec)

end Rows
end Go.Proofs.Ytcgioboiebanpaa
