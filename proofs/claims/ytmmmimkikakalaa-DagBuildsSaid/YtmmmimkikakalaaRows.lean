/-
  No cell of these rows narrows 'for every input' (looked for: loops, veiled, ifaces, maps, wideKeys, modest, calm, conditions, laid).
  DERIVED. THE GIVEN ROWS OF THIS SEAT. 6 by the template 'for every input the law returns true; each argument reads behind the call as it read before'; 0 by the template 'total and deterministic' (their statements: YtmmmimkikakalaaTotals.lean).
  GIVEN WITH THE SEED: the statements are not yours to turn. If you find one false, say at which input.
  Laid BY PROGRAM, IN A SANDBOX (cutbox-rows.mjs): the forced cells as the released guide's own fill.sh prints them over the translation 43daa54ed0ead9b8… (all of the seat's roots in one cut). By AI agents, Wed Nov 11 2026. No macro, syntax, notation, axiom, sorry.
-/
import Derived.Test.YtmmmimkikakalaaChecked
import GoSem.Claim
import GoSem.ClaimJoined
import GoSem.ClaimMapViews
import Derived.JoinedTies
import Derived.KernelRfl
namespace Go.Proofs.Ytmmmimkikakalaa
/- THE CELL 'sum', in the pinned program and in every row, IS THE sha256 OF THE DUMP (.gsa) THAT YtmmmimkikakalaaProg.lean LOADS. Nothing in Lean hashes anything: it is a label: what it is worth is what the hold of that sum in a sandbox is worth. -/
noncomputable def Try.pinned : Pinned := { name := "ytmmmimkikakalaa", sum := "43daa54ed0ead9b82ebb138dd66e52e79fe3c593dfdaaf3b50a444fde58766be", checked := Try.checked }
namespace Rows
def none {H : Type} : Left H := { results := [], args := [] }

/-- 'variorumlaw19.DagBases': WHATEVER THE INPUT: true; the input reads as it did. -/
def dagBasesSpec : ChangeSpec := { name := "dagBases", fn := fun _ => fun
  | [d1, d2, d3] => { results := [.lit (.bool true)], args := [d1, d2, d3] }
  | _ => none }
def dagBasesRow : OpenClaim := { program := "ytmmmimkikakalaa", sum := "43daa54ed0ead9b82ebb138dd66e52e79fe3c593dfdaaf3b50a444fde58766be", func := "variorum/variorumlaw19.DagBases", spec := "dagBases", inPlace := ["internal/bytealg.Compare"], unfollowed := true, recurses := true, plainKeys := false, apart := false }
def DagBasesSaid : Prop := dagBasesRow.holds Try.pinned (OpenSpec.ofChange dagBasesSpec)

/-- ITS FALSE NEIGHBOUR: 'it returns false'. Refute it at one input. -/
def dagBasesWrong : ChangeSpec := { name := "dagBases", fn := fun _ => fun
  | [d1, d2, d3] => { results := [.lit (.bool false)], args := [d1, d2, d3] }
  | _ => none }
def DagBasesWrongFalsely : Prop := dagBasesRow.holds Try.pinned (OpenSpec.ofChange dagBasesWrong)

/-- 'variorumlaw19.DagEven': WHATEVER THE INPUT: true; the input reads as it did. -/
def dagEvenSpec : ChangeSpec := { name := "dagEven", fn := fun _ => fun
  | [d1, d2, d3] => { results := [.lit (.bool true)], args := [d1, d2, d3] }
  | _ => none }
def dagEvenRow : OpenClaim := { program := "ytmmmimkikakalaa", sum := "43daa54ed0ead9b82ebb138dd66e52e79fe3c593dfdaaf3b50a444fde58766be", func := "variorum/variorumlaw19.DagEven", spec := "dagEven", inPlace := ["internal/bytealg.Compare"], unfollowed := true, recurses := true, plainKeys := false, apart := false }
def DagEvenSaid : Prop := dagEvenRow.holds Try.pinned (OpenSpec.ofChange dagEvenSpec)

/-- ITS FALSE NEIGHBOUR: 'it returns false'. Refute it at one input. -/
def dagEvenWrong : ChangeSpec := { name := "dagEven", fn := fun _ => fun
  | [d1, d2, d3] => { results := [.lit (.bool false)], args := [d1, d2, d3] }
  | _ => none }
def DagEvenWrongFalsely : Prop := dagEvenRow.holds Try.pinned (OpenSpec.ofChange dagEvenWrong)

/-- 'variorumlaw19.DagLogs': WHATEVER THE INPUT: true; the input reads as it did. -/
def dagLogsSpec : ChangeSpec := { name := "dagLogs", fn := fun _ => fun
  | [d] => { results := [.lit (.bool true)], args := [d] }
  | _ => none }
def dagLogsRow : OpenClaim := { program := "ytmmmimkikakalaa", sum := "43daa54ed0ead9b82ebb138dd66e52e79fe3c593dfdaaf3b50a444fde58766be", func := "variorum/variorumlaw19.DagLogs", spec := "dagLogs", inPlace := ["internal/bytealg.Compare"], unfollowed := true, recurses := true, plainKeys := false, apart := false }
def DagLogsSaid : Prop := dagLogsRow.holds Try.pinned (OpenSpec.ofChange dagLogsSpec)

/-- ITS FALSE NEIGHBOUR: 'it returns false'. Refute it at one input. -/
def dagLogsWrong : ChangeSpec := { name := "dagLogs", fn := fun _ => fun
  | [d] => { results := [.lit (.bool false)], args := [d] }
  | _ => none }
def DagLogsWrongFalsely : Prop := dagLogsRow.holds Try.pinned (OpenSpec.ofChange dagLogsWrong)

/-- 'variorumlaw19.DagPast': WHATEVER THE INPUT: true; the input reads as it did. -/
def dagPastSpec : ChangeSpec := { name := "dagPast", fn := fun _ => fun
  | [d] => { results := [.lit (.bool true)], args := [d] }
  | _ => none }
def dagPastRow : OpenClaim := { program := "ytmmmimkikakalaa", sum := "43daa54ed0ead9b82ebb138dd66e52e79fe3c593dfdaaf3b50a444fde58766be", func := "variorum/variorumlaw19.DagPast", spec := "dagPast", inPlace := ["internal/bytealg.Compare"], unfollowed := true, recurses := true, plainKeys := false, apart := false }
def DagPastSaid : Prop := dagPastRow.holds Try.pinned (OpenSpec.ofChange dagPastSpec)

/-- ITS FALSE NEIGHBOUR: 'it returns false'. Refute it at one input. -/
def dagPastWrong : ChangeSpec := { name := "dagPast", fn := fun _ => fun
  | [d] => { results := [.lit (.bool false)], args := [d] }
  | _ => none }
def DagPastWrongFalsely : Prop := dagPastRow.holds Try.pinned (OpenSpec.ofChange dagPastWrong)

/-- 'variorumlaw19.DagNil': WHATEVER THE INPUT: true; the input reads as it did. -/
def dagNilSpec : ChangeSpec := { name := "dagNil", fn := fun _ => fun
  | [d] => { results := [.lit (.bool true)], args := [d] }
  | _ => none }
def dagNilRow : OpenClaim := { program := "ytmmmimkikakalaa", sum := "43daa54ed0ead9b82ebb138dd66e52e79fe3c593dfdaaf3b50a444fde58766be", func := "variorum/variorumlaw19.DagNil", spec := "dagNil", inPlace := ["internal/bytealg.Compare"], unfollowed := true, recurses := true, plainKeys := false, apart := false }
def DagNilSaid : Prop := dagNilRow.holds Try.pinned (OpenSpec.ofChange dagNilSpec)

/-- ITS FALSE NEIGHBOUR: 'it returns false'. Refute it at one input. -/
def dagNilWrong : ChangeSpec := { name := "dagNil", fn := fun _ => fun
  | [d] => { results := [.lit (.bool false)], args := [d] }
  | _ => none }
def DagNilWrongFalsely : Prop := dagNilRow.holds Try.pinned (OpenSpec.ofChange dagNilWrong)

/-- 'variorumlaw19.DagBuilds': WHATEVER THE INPUT: true; the input reads as it did. -/
def dagBuildsSpec : ChangeSpec := { name := "dagBuilds", fn := fun _ => fun
  | [d1, d2] => { results := [.lit (.bool true)], args := [d1, d2] }
  | _ => none }
def dagBuildsRow : OpenClaim := { program := "ytmmmimkikakalaa", sum := "43daa54ed0ead9b82ebb138dd66e52e79fe3c593dfdaaf3b50a444fde58766be", func := "variorum/variorumlaw19.DagBuilds", spec := "dagBuilds", inPlace := ["internal/bytealg.Compare"], unfollowed := true, recurses := true, plainKeys := false, apart := false }
def DagBuildsSaid : Prop := dagBuildsRow.holds Try.pinned (OpenSpec.ofChange dagBuildsSpec)

/-- ITS FALSE NEIGHBOUR: 'it returns false'. Refute it at one input. -/
def dagBuildsWrong : ChangeSpec := { name := "dagBuilds", fn := fun _ => fun
  | [d1, d2] => { results := [.lit (.bool false)], args := [d1, d2] }
  | _ => none }
def DagBuildsWrongFalsely : Prop := dagBuildsRow.holds Try.pinned (OpenSpec.ofChange dagBuildsWrong)

/- THE SECOND FORM. 'bulk': how many values and letters a reading holds, each counted each time it is reached (what is shared counts as often as it is met; a slice's spare places count too). A statement '..UptoSaid' is the law's where the arguments, and the package variables that the reading takes, are together of bulk at most 1048576: NARROWER than '..Said'. Prove '..Said' where nothing that the law and all that it calls make is longer than what came in: it says more and counts as full. Else prove '..UptoSaid'. A law counts once. -/
mutual
def uptoBulk {H : Type} : DataW H → Nat
  | .lit (.string bytes) => bytes.length + 1
  | .lit _ => 1
  | .nil => 1
  | .ptr d => uptoBulk d + 1
  | .slice elems spare => uptoBulkAll elems + uptoBulkAll spare + 1
  | .agg parts => uptoBulkAll parts + 1
  | .iface _ d => uptoBulk d + 1
  | .map entries => uptoBulkEntries entries + 1
  | .held _ => 1
def uptoBulkAll {H : Type} : List (DataW H) → Nat
  | [] => 0
  | d :: r => uptoBulk d + uptoBulkAll r
def uptoBulkEntries {H : Type} : List (Lit × DataW H) → Nat
  | [] => 0
  | x :: r => uptoBulkEntry x + uptoBulkEntries r
def uptoBulkEntry {H : Type} : Lit × DataW H → Nat
  | (.string bytes, d) => bytes.length + uptoBulk d + 1
  | (_, d) => uptoBulk d + 1
 end
def uptoSmall : (H : Type) → List (DataW H) → Bool := fun _ ds => decide (uptoBulkAll ds ≤ 1048576)
def OpenSpec.upto (s : _root_.Go.ChangeSpec) : _root_.Go.OpenSpec := { _root_.Go.OpenSpec.ofChange s with cond := some uptoSmall }

/-- 'variorumlaw19.DagBases', WHERE WHAT IT READS IS OF BULK AT MOST 1048576: true; the input reads as it did. -/
def dagBasesUptoRow : OpenClaim := { program := "ytmmmimkikakalaa", sum := "43daa54ed0ead9b82ebb138dd66e52e79fe3c593dfdaaf3b50a444fde58766be", func := "variorum/variorumlaw19.DagBases", spec := "dagBases", inPlace := ["internal/bytealg.Compare"], unfollowed := true, recurses := true, plainKeys := false, apart := false, narrowed := true }
def DagBasesUptoSaid : Prop := dagBasesUptoRow.holds Try.pinned (OpenSpec.upto dagBasesSpec)

/-- 'variorumlaw19.DagEven', WHERE WHAT IT READS IS OF BULK AT MOST 1048576: true; the input reads as it did. -/
def dagEvenUptoRow : OpenClaim := { program := "ytmmmimkikakalaa", sum := "43daa54ed0ead9b82ebb138dd66e52e79fe3c593dfdaaf3b50a444fde58766be", func := "variorum/variorumlaw19.DagEven", spec := "dagEven", inPlace := ["internal/bytealg.Compare"], unfollowed := true, recurses := true, plainKeys := false, apart := false, narrowed := true }
def DagEvenUptoSaid : Prop := dagEvenUptoRow.holds Try.pinned (OpenSpec.upto dagEvenSpec)

/-- 'variorumlaw19.DagLogs', WHERE WHAT IT READS IS OF BULK AT MOST 1048576: true; the input reads as it did. -/
def dagLogsUptoRow : OpenClaim := { program := "ytmmmimkikakalaa", sum := "43daa54ed0ead9b82ebb138dd66e52e79fe3c593dfdaaf3b50a444fde58766be", func := "variorum/variorumlaw19.DagLogs", spec := "dagLogs", inPlace := ["internal/bytealg.Compare"], unfollowed := true, recurses := true, plainKeys := false, apart := false, narrowed := true }
def DagLogsUptoSaid : Prop := dagLogsUptoRow.holds Try.pinned (OpenSpec.upto dagLogsSpec)

/-- 'variorumlaw19.DagPast', WHERE WHAT IT READS IS OF BULK AT MOST 1048576: true; the input reads as it did. -/
def dagPastUptoRow : OpenClaim := { program := "ytmmmimkikakalaa", sum := "43daa54ed0ead9b82ebb138dd66e52e79fe3c593dfdaaf3b50a444fde58766be", func := "variorum/variorumlaw19.DagPast", spec := "dagPast", inPlace := ["internal/bytealg.Compare"], unfollowed := true, recurses := true, plainKeys := false, apart := false, narrowed := true }
def DagPastUptoSaid : Prop := dagPastUptoRow.holds Try.pinned (OpenSpec.upto dagPastSpec)

/-- 'variorumlaw19.DagNil', WHERE WHAT IT READS IS OF BULK AT MOST 1048576: true; the input reads as it did. -/
def dagNilUptoRow : OpenClaim := { program := "ytmmmimkikakalaa", sum := "43daa54ed0ead9b82ebb138dd66e52e79fe3c593dfdaaf3b50a444fde58766be", func := "variorum/variorumlaw19.DagNil", spec := "dagNil", inPlace := ["internal/bytealg.Compare"], unfollowed := true, recurses := true, plainKeys := false, apart := false, narrowed := true }
def DagNilUptoSaid : Prop := dagNilUptoRow.holds Try.pinned (OpenSpec.upto dagNilSpec)

/-- 'variorumlaw19.DagBuilds', WHERE WHAT IT READS IS OF BULK AT MOST 1048576: true; the input reads as it did. -/
def dagBuildsUptoRow : OpenClaim := { program := "ytmmmimkikakalaa", sum := "43daa54ed0ead9b82ebb138dd66e52e79fe3c593dfdaaf3b50a444fde58766be", func := "variorum/variorumlaw19.DagBuilds", spec := "dagBuilds", inPlace := ["internal/bytealg.Compare"], unfollowed := true, recurses := true, plainKeys := false, apart := false, narrowed := true }
def DagBuildsUptoSaid : Prop := dagBuildsUptoRow.holds Try.pinned (OpenSpec.upto dagBuildsSpec)

end Rows
end Go.Proofs.Ytmmmimkikakalaa
