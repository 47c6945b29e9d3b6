/-
  No cell of these rows narrows 'for every input' (looked for: loops, veiled, ifaces, maps, wideKeys, modest, calm, conditions, laid).
  DERIVED. THE GIVEN ROWS OF THIS SEAT. 8 by the template 'for every input the law returns true; each argument reads behind the call as it read before'; 0 by the template 'total and deterministic' (their statements: YtkapidcgonjbaaaTotals.lean).
  GIVEN WITH THE SEED: the statements are not yours to turn. If you find one false, say at which input.
  Laid BY PROGRAM, IN A SANDBOX (cutbox-rows.mjs): the forced cells as the released guide's own fill.sh prints them over the translation d83204fca209ae65… (all of the seat's roots in one cut). By AI agents, Wed Nov 11 2026. No macro, syntax, notation, axiom, sorry.
-/
import Derived.Test.YtkapidcgonjbaaaChecked
import GoSem.Claim
import GoSem.ClaimJoined
import GoSem.ClaimMapViews
import Derived.JoinedTies
import Derived.KernelRfl
namespace Go.Proofs.Ytkapidcgonjbaaa
/- THE CELL 'sum', in the pinned program and in every row, IS THE sha256 OF THE DUMP (.gsa) THAT YtkapidcgonjbaaaProg.lean LOADS. Nothing in Lean hashes anything: it is a label: what it is worth is what the hold of that sum in a sandbox is worth. -/
noncomputable def Try.pinned : Pinned := { name := "ytkapidcgonjbaaa", sum := "d83204fca209ae65209e8f5e3b31a1c84efc5639fcf0692593800540a4bd6b93", checked := Try.checked }
namespace Rows
def none {H : Type} : Left H := { results := [], args := [] }

/-- 'variorumlaw05.ScoreDivides': WHATEVER THE INPUT: true; the input reads as it did. -/
def scoreDividesSpec : ChangeSpec := { name := "scoreDivides", fn := fun _ => fun
  | [d1, d2, d3] => { results := [.lit (.bool true)], args := [d1, d2, d3] }
  | _ => none }
def scoreDividesRow : OpenClaim := { program := "ytkapidcgonjbaaa", sum := "d83204fca209ae65209e8f5e3b31a1c84efc5639fcf0692593800540a4bd6b93", func := "variorum/variorumlaw05.ScoreDivides", spec := "scoreDivides", inPlace := ["math.Float64bits", "math.Float64frombits"], unfollowed := true, recurses := true, apart := false }
def ScoreDividesSaid : Prop := scoreDividesRow.holds Try.pinned (OpenSpec.ofChange scoreDividesSpec)

/-- ITS FALSE NEIGHBOUR: 'it returns false'. Refute it at one input. -/
def scoreDividesWrong : ChangeSpec := { name := "scoreDivides", fn := fun _ => fun
  | [d1, d2, d3] => { results := [.lit (.bool false)], args := [d1, d2, d3] }
  | _ => none }
def ScoreDividesWrongFalsely : Prop := scoreDividesRow.holds Try.pinned (OpenSpec.ofChange scoreDividesWrong)

/-- 'variorumlaw05.ScoreOrders': WHATEVER THE INPUT: true; the input reads as it did. -/
def scoreOrdersSpec : ChangeSpec := { name := "scoreOrders", fn := fun _ => fun
  | [d1, d2] => { results := [.lit (.bool true)], args := [d1, d2] }
  | _ => none }
def scoreOrdersRow : OpenClaim := { program := "ytkapidcgonjbaaa", sum := "d83204fca209ae65209e8f5e3b31a1c84efc5639fcf0692593800540a4bd6b93", func := "variorum/variorumlaw05.ScoreOrders", spec := "scoreOrders", inPlace := ["math.Float64bits", "math.Float64frombits"], unfollowed := true, recurses := true, apart := false }
def ScoreOrdersSaid : Prop := scoreOrdersRow.holds Try.pinned (OpenSpec.ofChange scoreOrdersSpec)

/-- ITS FALSE NEIGHBOUR: 'it returns false'. Refute it at one input. -/
def scoreOrdersWrong : ChangeSpec := { name := "scoreOrders", fn := fun _ => fun
  | [d1, d2] => { results := [.lit (.bool false)], args := [d1, d2] }
  | _ => none }
def ScoreOrdersWrongFalsely : Prop := scoreOrdersRow.holds Try.pinned (OpenSpec.ofChange scoreOrdersWrong)

/-- 'variorumlaw05.ScoreMatches': WHATEVER THE INPUT: true; the input reads as it did. -/
def scoreMatchesSpec : ChangeSpec := { name := "scoreMatches", fn := fun _ => fun
  | [d1, d2] => { results := [.lit (.bool true)], args := [d1, d2] }
  | _ => none }
def scoreMatchesRow : OpenClaim := { program := "ytkapidcgonjbaaa", sum := "d83204fca209ae65209e8f5e3b31a1c84efc5639fcf0692593800540a4bd6b93", func := "variorum/variorumlaw05.ScoreMatches", spec := "scoreMatches", inPlace := ["math.Float64bits", "math.Float64frombits"], unfollowed := true, recurses := true, apart := false }
def ScoreMatchesSaid : Prop := scoreMatchesRow.holds Try.pinned (OpenSpec.ofChange scoreMatchesSpec)

/-- ITS FALSE NEIGHBOUR: 'it returns false'. Refute it at one input. -/
def scoreMatchesWrong : ChangeSpec := { name := "scoreMatches", fn := fun _ => fun
  | [d1, d2] => { results := [.lit (.bool false)], args := [d1, d2] }
  | _ => none }
def ScoreMatchesWrongFalsely : Prop := scoreMatchesRow.holds Try.pinned (OpenSpec.ofChange scoreMatchesWrong)

/-- 'variorumlaw05.ScoreApart': WHATEVER THE INPUT: true; the input reads as it did. -/
def scoreApartSpec : ChangeSpec := { name := "scoreApart", fn := fun _ => fun
  | [d1, d2] => { results := [.lit (.bool true)], args := [d1, d2] }
  | _ => none }
def scoreApartRow : OpenClaim := { program := "ytkapidcgonjbaaa", sum := "d83204fca209ae65209e8f5e3b31a1c84efc5639fcf0692593800540a4bd6b93", func := "variorum/variorumlaw05.ScoreApart", spec := "scoreApart", inPlace := ["math.Float64bits", "math.Float64frombits"], unfollowed := true, recurses := true, apart := false }
def ScoreApartSaid : Prop := scoreApartRow.holds Try.pinned (OpenSpec.ofChange scoreApartSpec)

/-- ITS FALSE NEIGHBOUR: 'it returns false'. Refute it at one input. -/
def scoreApartWrong : ChangeSpec := { name := "scoreApart", fn := fun _ => fun
  | [d1, d2] => { results := [.lit (.bool false)], args := [d1, d2] }
  | _ => none }
def ScoreApartWrongFalsely : Prop := scoreApartRow.holds Try.pinned (OpenSpec.ofChange scoreApartWrong)

/-- 'variorumlaw05.ScoreTotal': WHATEVER THE INPUT: true; the input reads as it did. -/
def scoreTotalSpec : ChangeSpec := { name := "scoreTotal", fn := fun _ => fun
  | [d1, d2, d3] => { results := [.lit (.bool true)], args := [d1, d2, d3] }
  | _ => none }
def scoreTotalRow : OpenClaim := { program := "ytkapidcgonjbaaa", sum := "d83204fca209ae65209e8f5e3b31a1c84efc5639fcf0692593800540a4bd6b93", func := "variorum/variorumlaw05.ScoreTotal", spec := "scoreTotal", inPlace := ["math.Float64bits", "math.Float64frombits"], unfollowed := true, recurses := true, apart := false }
def ScoreTotalSaid : Prop := scoreTotalRow.holds Try.pinned (OpenSpec.ofChange scoreTotalSpec)

/-- ITS FALSE NEIGHBOUR: 'it returns false'. Refute it at one input. -/
def scoreTotalWrong : ChangeSpec := { name := "scoreTotal", fn := fun _ => fun
  | [d1, d2, d3] => { results := [.lit (.bool false)], args := [d1, d2, d3] }
  | _ => none }
def ScoreTotalWrongFalsely : Prop := scoreTotalRow.holds Try.pinned (OpenSpec.ofChange scoreTotalWrong)

/-- 'variorumlaw05.ScoreRanks': WHATEVER THE INPUT: true; the input reads as it did. -/
def scoreRanksSpec : ChangeSpec := { name := "scoreRanks", fn := fun _ => fun
  | [d] => { results := [.lit (.bool true)], args := [d] }
  | _ => none }
def scoreRanksRow : OpenClaim := { program := "ytkapidcgonjbaaa", sum := "d83204fca209ae65209e8f5e3b31a1c84efc5639fcf0692593800540a4bd6b93", func := "variorum/variorumlaw05.ScoreRanks", spec := "scoreRanks", inPlace := ["math.Float64bits", "math.Float64frombits"], unfollowed := true, recurses := true, apart := false }
def ScoreRanksSaid : Prop := scoreRanksRow.holds Try.pinned (OpenSpec.ofChange scoreRanksSpec)

/-- ITS FALSE NEIGHBOUR: 'it returns false'. Refute it at one input. -/
def scoreRanksWrong : ChangeSpec := { name := "scoreRanks", fn := fun _ => fun
  | [d] => { results := [.lit (.bool false)], args := [d] }
  | _ => none }
def ScoreRanksWrongFalsely : Prop := scoreRanksRow.holds Try.pinned (OpenSpec.ofChange scoreRanksWrong)

/-- 'variorumlaw05.ScoreFirst': WHATEVER THE INPUT: true; the input reads as it did. -/
def scoreFirstSpec : ChangeSpec := { name := "scoreFirst", fn := fun _ => fun
  | [d] => { results := [.lit (.bool true)], args := [d] }
  | _ => none }
def scoreFirstRow : OpenClaim := { program := "ytkapidcgonjbaaa", sum := "d83204fca209ae65209e8f5e3b31a1c84efc5639fcf0692593800540a4bd6b93", func := "variorum/variorumlaw05.ScoreFirst", spec := "scoreFirst", inPlace := ["math.Float64bits", "math.Float64frombits"], unfollowed := true, recurses := true, apart := false }
def ScoreFirstSaid : Prop := scoreFirstRow.holds Try.pinned (OpenSpec.ofChange scoreFirstSpec)

/-- ITS FALSE NEIGHBOUR: 'it returns false'. Refute it at one input. -/
def scoreFirstWrong : ChangeSpec := { name := "scoreFirst", fn := fun _ => fun
  | [d] => { results := [.lit (.bool false)], args := [d] }
  | _ => none }
def ScoreFirstWrongFalsely : Prop := scoreFirstRow.holds Try.pinned (OpenSpec.ofChange scoreFirstWrong)

/-- 'variorumlaw05.ScoreMeans': WHATEVER THE INPUT: true; the input reads as it did. -/
def scoreMeansSpec : ChangeSpec := { name := "scoreMeans", fn := fun _ => fun
  | [d] => { results := [.lit (.bool true)], args := [d] }
  | _ => none }
def scoreMeansRow : OpenClaim := { program := "ytkapidcgonjbaaa", sum := "d83204fca209ae65209e8f5e3b31a1c84efc5639fcf0692593800540a4bd6b93", func := "variorum/variorumlaw05.ScoreMeans", spec := "scoreMeans", inPlace := ["math.Float64bits", "math.Float64frombits"], unfollowed := true, recurses := true, apart := false }
def ScoreMeansSaid : Prop := scoreMeansRow.holds Try.pinned (OpenSpec.ofChange scoreMeansSpec)

/-- ITS FALSE NEIGHBOUR: 'it returns false'. Refute it at one input. -/
def scoreMeansWrong : ChangeSpec := { name := "scoreMeans", fn := fun _ => fun
  | [d] => { results := [.lit (.bool false)], args := [d] }
  | _ => none }
def ScoreMeansWrongFalsely : Prop := scoreMeansRow.holds Try.pinned (OpenSpec.ofChange scoreMeansWrong)

/- THE SECOND FORM. 'bulk': how many values and letters a reading holds, each counted each time it is reached (what is shared counts as often as it is met; a slice's spare places count too). A statement '..UptoSaid' is the law's where the arguments, and the package variables that the reading takes, are together of bulk at most 1048576: NARROWER than '..Said'. Prove '..Said' where nothing that the law and all that it calls make is longer than what came in: it says more and counts as full. Else prove '..UptoSaid'. A law counts once. -/
mutual
def uptoBulk {H : Type} : DataW H → Nat
  | .lit (.string bytes) => bytes.length + 1
  | .lit _ => 1
  | .nil => 1
  | .ptr d => uptoBulk d + 1
  | .slice elems spare => uptoBulkAll elems + uptoBulkAll spare + 1
  | .agg parts => uptoBulkAll parts + 1
  | .iface _ d => uptoBulk d + 1
  | .map entries => uptoBulkEntries entries + 1
  | .held _ => 1
def uptoBulkAll {H : Type} : List (DataW H) → Nat
  | [] => 0
  | d :: r => uptoBulk d + uptoBulkAll r
def uptoBulkEntries {H : Type} : List (Lit × DataW H) → Nat
  | [] => 0
  | x :: r => uptoBulkEntry x + uptoBulkEntries r
def uptoBulkEntry {H : Type} : Lit × DataW H → Nat
  | (.string bytes, d) => bytes.length + uptoBulk d + 1
  | (_, d) => uptoBulk d + 1
 end
def uptoSmall : (H : Type) → List (DataW H) → Bool := fun _ ds => decide (uptoBulkAll ds ≤ 1048576)
def OpenSpec.upto (s : _root_.Go.ChangeSpec) : _root_.Go.OpenSpec := { _root_.Go.OpenSpec.ofChange s with cond := some uptoSmall }

/-- 'variorumlaw05.ScoreDivides', WHERE WHAT IT READS IS OF BULK AT MOST 1048576: true; the input reads as it did. -/
def scoreDividesUptoRow : OpenClaim := { program := "ytkapidcgonjbaaa", sum := "d83204fca209ae65209e8f5e3b31a1c84efc5639fcf0692593800540a4bd6b93", func := "variorum/variorumlaw05.ScoreDivides", spec := "scoreDivides", inPlace := ["math.Float64bits", "math.Float64frombits"], unfollowed := true, recurses := true, apart := false, narrowed := true }
def ScoreDividesUptoSaid : Prop := scoreDividesUptoRow.holds Try.pinned (OpenSpec.upto scoreDividesSpec)

/-- 'variorumlaw05.ScoreOrders', WHERE WHAT IT READS IS OF BULK AT MOST 1048576: true; the input reads as it did. -/
def scoreOrdersUptoRow : OpenClaim := { program := "ytkapidcgonjbaaa", sum := "d83204fca209ae65209e8f5e3b31a1c84efc5639fcf0692593800540a4bd6b93", func := "variorum/variorumlaw05.ScoreOrders", spec := "scoreOrders", inPlace := ["math.Float64bits", "math.Float64frombits"], unfollowed := true, recurses := true, apart := false, narrowed := true }
def ScoreOrdersUptoSaid : Prop := scoreOrdersUptoRow.holds Try.pinned (OpenSpec.upto scoreOrdersSpec)

/-- 'variorumlaw05.ScoreMatches', WHERE WHAT IT READS IS OF BULK AT MOST 1048576: true; the input reads as it did. -/
def scoreMatchesUptoRow : OpenClaim := { program := "ytkapidcgonjbaaa", sum := "d83204fca209ae65209e8f5e3b31a1c84efc5639fcf0692593800540a4bd6b93", func := "variorum/variorumlaw05.ScoreMatches", spec := "scoreMatches", inPlace := ["math.Float64bits", "math.Float64frombits"], unfollowed := true, recurses := true, apart := false, narrowed := true }
def ScoreMatchesUptoSaid : Prop := scoreMatchesUptoRow.holds Try.pinned (OpenSpec.upto scoreMatchesSpec)

/-- 'variorumlaw05.ScoreApart', WHERE WHAT IT READS IS OF BULK AT MOST 1048576: true; the input reads as it did. -/
def scoreApartUptoRow : OpenClaim := { program := "ytkapidcgonjbaaa", sum := "d83204fca209ae65209e8f5e3b31a1c84efc5639fcf0692593800540a4bd6b93", func := "variorum/variorumlaw05.ScoreApart", spec := "scoreApart", inPlace := ["math.Float64bits", "math.Float64frombits"], unfollowed := true, recurses := true, apart := false, narrowed := true }
def ScoreApartUptoSaid : Prop := scoreApartUptoRow.holds Try.pinned (OpenSpec.upto scoreApartSpec)

/-- 'variorumlaw05.ScoreTotal', WHERE WHAT IT READS IS OF BULK AT MOST 1048576: true; the input reads as it did. -/
def scoreTotalUptoRow : OpenClaim := { program := "ytkapidcgonjbaaa", sum := "d83204fca209ae65209e8f5e3b31a1c84efc5639fcf0692593800540a4bd6b93", func := "variorum/variorumlaw05.ScoreTotal", spec := "scoreTotal", inPlace := ["math.Float64bits", "math.Float64frombits"], unfollowed := true, recurses := true, apart := false, narrowed := true }
def ScoreTotalUptoSaid : Prop := scoreTotalUptoRow.holds Try.pinned (OpenSpec.upto scoreTotalSpec)

/-- 'variorumlaw05.ScoreRanks', WHERE WHAT IT READS IS OF BULK AT MOST 1048576: true; the input reads as it did. -/
def scoreRanksUptoRow : OpenClaim := { program := "ytkapidcgonjbaaa", sum := "d83204fca209ae65209e8f5e3b31a1c84efc5639fcf0692593800540a4bd6b93", func := "variorum/variorumlaw05.ScoreRanks", spec := "scoreRanks", inPlace := ["math.Float64bits", "math.Float64frombits"], unfollowed := true, recurses := true, apart := false, narrowed := true }
def ScoreRanksUptoSaid : Prop := scoreRanksUptoRow.holds Try.pinned (OpenSpec.upto scoreRanksSpec)

/-- 'variorumlaw05.ScoreFirst', WHERE WHAT IT READS IS OF BULK AT MOST 1048576: true; the input reads as it did. -/
def scoreFirstUptoRow : OpenClaim := { program := "ytkapidcgonjbaaa", sum := "d83204fca209ae65209e8f5e3b31a1c84efc5639fcf0692593800540a4bd6b93", func := "variorum/variorumlaw05.ScoreFirst", spec := "scoreFirst", inPlace := ["math.Float64bits", "math.Float64frombits"], unfollowed := true, recurses := true, apart := false, narrowed := true }
def ScoreFirstUptoSaid : Prop := scoreFirstUptoRow.holds Try.pinned (OpenSpec.upto scoreFirstSpec)

/-- 'variorumlaw05.ScoreMeans', WHERE WHAT IT READS IS OF BULK AT MOST 1048576: true; the input reads as it did. -/
def scoreMeansUptoRow : OpenClaim := { program := "ytkapidcgonjbaaa", sum := "d83204fca209ae65209e8f5e3b31a1c84efc5639fcf0692593800540a4bd6b93", func := "variorum/variorumlaw05.ScoreMeans", spec := "scoreMeans", inPlace := ["math.Float64bits", "math.Float64frombits"], unfollowed := true, recurses := true, apart := false, narrowed := true }
def ScoreMeansUptoSaid : Prop := scoreMeansUptoRow.holds Try.pinned (OpenSpec.upto scoreMeansSpec)

end Rows
end Go.Proofs.Ytkapidcgonjbaaa
