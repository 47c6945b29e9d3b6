/-
  No cell of these rows narrows 'for every input' (looked for: loops, veiled, ifaces, maps, wideKeys, modest, calm, conditions, laid).
  DERIVED. THE GIVEN ROWS OF THIS SEAT. 8 by the template 'for every input the law returns true; each argument reads behind the call as it read before'; 0 by the template 'total and deterministic' (their statements: YteielgdgmmeciaaTotals.lean).
  GIVEN WITH THE SEED: the statements are not yours to turn. If you find one false, say at which input.
  Laid BY PROGRAM, IN A SANDBOX (cutbox-rows.mjs): the forced cells as the released guide's own fill.sh prints them over the translation c7c0215ad2811de1… (all of the seat's roots in one cut). By AI agents, Wed Nov 11 2026. No macro, syntax, notation, axiom, sorry.
-/
import Derived.Test.YteielgdgmmeciaaChecked
import GoSem.Claim
import GoSem.ClaimJoined
import GoSem.ClaimMapViews
import Derived.JoinedTies
import Derived.KernelRfl
namespace Go.Proofs.Yteielgdgmmeciaa
/- THE CELL 'sum', in the pinned program and in every row, IS THE sha256 OF THE DUMP (.gsa) THAT YteielgdgmmeciaaProg.lean LOADS. Nothing in Lean hashes anything: it is a label: what it is worth is what the hold of that sum in a sandbox is worth. -/
noncomputable def Try.pinned : Pinned := { name := "yteielgdgmmeciaa", sum := "c7c0215ad2811de17c9ab28cd4c01ec6e233f45ff9c636ac148f3894bccbb6e9", checked := Try.checked }
namespace Rows
def none {H : Type} : Left H := { results := [], args := [] }

/-- 'variorumlaw04.OrderCompares': WHATEVER THE INPUT: true; the input reads as it did. -/
def orderComparesSpec : ChangeSpec := { name := "orderCompares", fn := fun _ => fun
  | [d1, d2] => { results := [.lit (.bool true)], args := [d1, d2] }
  | _ => none }
def orderComparesRow : OpenClaim := { program := "yteielgdgmmeciaa", sum := "c7c0215ad2811de17c9ab28cd4c01ec6e233f45ff9c636ac148f3894bccbb6e9", func := "variorum/variorumlaw04.OrderCompares", spec := "orderCompares", inPlace := ["internal/bytealg.Compare"], unfollowed := true, recurses := true, apart := false }
def OrderComparesSaid : Prop := orderComparesRow.holds Try.pinned (OpenSpec.ofChange orderComparesSpec)

/-- ITS FALSE NEIGHBOUR: 'it returns false'. Refute it at one input. -/
def orderComparesWrong : ChangeSpec := { name := "orderCompares", fn := fun _ => fun
  | [d1, d2] => { results := [.lit (.bool false)], args := [d1, d2] }
  | _ => none }
def OrderComparesWrongFalsely : Prop := orderComparesRow.holds Try.pinned (OpenSpec.ofChange orderComparesWrong)

/-- 'variorumlaw04.OrderSorts': WHATEVER THE INPUT: true; the input reads as it did. -/
def orderSortsSpec : ChangeSpec := { name := "orderSorts", fn := fun _ => fun
  | [d] => { results := [.lit (.bool true)], args := [d] }
  | _ => none }
def orderSortsRow : OpenClaim := { program := "yteielgdgmmeciaa", sum := "c7c0215ad2811de17c9ab28cd4c01ec6e233f45ff9c636ac148f3894bccbb6e9", func := "variorum/variorumlaw04.OrderSorts", spec := "orderSorts", inPlace := ["internal/bytealg.Compare"], unfollowed := true, recurses := true, apart := false }
def OrderSortsSaid : Prop := orderSortsRow.holds Try.pinned (OpenSpec.ofChange orderSortsSpec)

/-- ITS FALSE NEIGHBOUR: 'it returns false'. Refute it at one input. -/
def orderSortsWrong : ChangeSpec := { name := "orderSorts", fn := fun _ => fun
  | [d] => { results := [.lit (.bool false)], args := [d] }
  | _ => none }
def OrderSortsWrongFalsely : Prop := orderSortsRow.holds Try.pinned (OpenSpec.ofChange orderSortsWrong)

/-- 'variorumlaw04.OrderFinds': WHATEVER THE INPUT: true; the input reads as it did. -/
def orderFindsSpec : ChangeSpec := { name := "orderFinds", fn := fun _ => fun
  | [d1, d2] => { results := [.lit (.bool true)], args := [d1, d2] }
  | _ => none }
def orderFindsRow : OpenClaim := { program := "yteielgdgmmeciaa", sum := "c7c0215ad2811de17c9ab28cd4c01ec6e233f45ff9c636ac148f3894bccbb6e9", func := "variorum/variorumlaw04.OrderFinds", spec := "orderFinds", inPlace := ["internal/bytealg.Compare"], unfollowed := true, recurses := true, apart := false }
def OrderFindsSaid : Prop := orderFindsRow.holds Try.pinned (OpenSpec.ofChange orderFindsSpec)

/-- ITS FALSE NEIGHBOUR: 'it returns false'. Refute it at one input. -/
def orderFindsWrong : ChangeSpec := { name := "orderFinds", fn := fun _ => fun
  | [d1, d2] => { results := [.lit (.bool false)], args := [d1, d2] }
  | _ => none }
def OrderFindsWrongFalsely : Prop := orderFindsRow.holds Try.pinned (OpenSpec.ofChange orderFindsWrong)

/-- 'variorumlaw04.OrderTotal': WHATEVER THE INPUT: true; the input reads as it did. -/
def orderTotalSpec : ChangeSpec := { name := "orderTotal", fn := fun _ => fun
  | [d1, d2, d3] => { results := [.lit (.bool true)], args := [d1, d2, d3] }
  | _ => none }
def orderTotalRow : OpenClaim := { program := "yteielgdgmmeciaa", sum := "c7c0215ad2811de17c9ab28cd4c01ec6e233f45ff9c636ac148f3894bccbb6e9", func := "variorum/variorumlaw04.OrderTotal", spec := "orderTotal", inPlace := ["internal/bytealg.Compare"], unfollowed := true, recurses := true, apart := false }
def OrderTotalSaid : Prop := orderTotalRow.holds Try.pinned (OpenSpec.ofChange orderTotalSpec)

/-- ITS FALSE NEIGHBOUR: 'it returns false'. Refute it at one input. -/
def orderTotalWrong : ChangeSpec := { name := "orderTotal", fn := fun _ => fun
  | [d1, d2, d3] => { results := [.lit (.bool false)], args := [d1, d2, d3] }
  | _ => none }
def OrderTotalWrongFalsely : Prop := orderTotalRow.holds Try.pinned (OpenSpec.ofChange orderTotalWrong)

/-- 'variorumlaw04.OrderIn': WHATEVER THE INPUT: true; the input reads as it did. -/
def orderInSpec : ChangeSpec := { name := "orderIn", fn := fun _ => fun
  | [d1, d2] => { results := [.lit (.bool true)], args := [d1, d2] }
  | _ => none }
def orderInRow : OpenClaim := { program := "yteielgdgmmeciaa", sum := "c7c0215ad2811de17c9ab28cd4c01ec6e233f45ff9c636ac148f3894bccbb6e9", func := "variorum/variorumlaw04.OrderIn", spec := "orderIn", inPlace := ["internal/bytealg.Compare"], unfollowed := true, recurses := true, apart := false }
def OrderInSaid : Prop := orderInRow.holds Try.pinned (OpenSpec.ofChange orderInSpec)

/-- ITS FALSE NEIGHBOUR: 'it returns false'. Refute it at one input. -/
def orderInWrong : ChangeSpec := { name := "orderIn", fn := fun _ => fun
  | [d1, d2] => { results := [.lit (.bool false)], args := [d1, d2] }
  | _ => none }
def OrderInWrongFalsely : Prop := orderInRow.holds Try.pinned (OpenSpec.ofChange orderInWrong)

/-- 'variorumlaw04.OrderPlaces': WHATEVER THE INPUT: true; the input reads as it did. -/
def orderPlacesSpec : ChangeSpec := { name := "orderPlaces", fn := fun _ => fun
  | [d] => { results := [.lit (.bool true)], args := [d] }
  | _ => none }
def orderPlacesRow : OpenClaim := { program := "yteielgdgmmeciaa", sum := "c7c0215ad2811de17c9ab28cd4c01ec6e233f45ff9c636ac148f3894bccbb6e9", func := "variorum/variorumlaw04.OrderPlaces", spec := "orderPlaces", inPlace := ["internal/bytealg.Compare"], unfollowed := true, recurses := true, apart := false }
def OrderPlacesSaid : Prop := orderPlacesRow.holds Try.pinned (OpenSpec.ofChange orderPlacesSpec)

/-- ITS FALSE NEIGHBOUR: 'it returns false'. Refute it at one input. -/
def orderPlacesWrong : ChangeSpec := { name := "orderPlaces", fn := fun _ => fun
  | [d] => { results := [.lit (.bool false)], args := [d] }
  | _ => none }
def OrderPlacesWrongFalsely : Prop := orderPlacesRow.holds Try.pinned (OpenSpec.ofChange orderPlacesWrong)

/-- 'variorumlaw04.OrderMixes': WHATEVER THE INPUT: true; the input reads as it did. -/
def orderMixesSpec : ChangeSpec := { name := "orderMixes", fn := fun _ => fun
  | [d1, d2] => { results := [.lit (.bool true)], args := [d1, d2] }
  | _ => none }
def orderMixesRow : OpenClaim := { program := "yteielgdgmmeciaa", sum := "c7c0215ad2811de17c9ab28cd4c01ec6e233f45ff9c636ac148f3894bccbb6e9", func := "variorum/variorumlaw04.OrderMixes", spec := "orderMixes", inPlace := ["internal/bytealg.Compare"], unfollowed := true, recurses := true, apart := false }
def OrderMixesSaid : Prop := orderMixesRow.holds Try.pinned (OpenSpec.ofChange orderMixesSpec)

/-- ITS FALSE NEIGHBOUR: 'it returns false'. Refute it at one input. -/
def orderMixesWrong : ChangeSpec := { name := "orderMixes", fn := fun _ => fun
  | [d1, d2] => { results := [.lit (.bool false)], args := [d1, d2] }
  | _ => none }
def OrderMixesWrongFalsely : Prop := orderMixesRow.holds Try.pinned (OpenSpec.ofChange orderMixesWrong)

/-- 'variorumlaw04.OrderSets': WHATEVER THE INPUT: true; the input reads as it did. -/
def orderSetsSpec : ChangeSpec := { name := "orderSets", fn := fun _ => fun
  | [d1, d2] => { results := [.lit (.bool true)], args := [d1, d2] }
  | _ => none }
def orderSetsRow : OpenClaim := { program := "yteielgdgmmeciaa", sum := "c7c0215ad2811de17c9ab28cd4c01ec6e233f45ff9c636ac148f3894bccbb6e9", func := "variorum/variorumlaw04.OrderSets", spec := "orderSets", inPlace := ["internal/bytealg.Compare"], unfollowed := true, recurses := true, apart := false }
def OrderSetsSaid : Prop := orderSetsRow.holds Try.pinned (OpenSpec.ofChange orderSetsSpec)

/-- ITS FALSE NEIGHBOUR: 'it returns false'. Refute it at one input. -/
def orderSetsWrong : ChangeSpec := { name := "orderSets", fn := fun _ => fun
  | [d1, d2] => { results := [.lit (.bool false)], args := [d1, d2] }
  | _ => none }
def OrderSetsWrongFalsely : Prop := orderSetsRow.holds Try.pinned (OpenSpec.ofChange orderSetsWrong)

/- THE SECOND FORM. 'bulk': how many values and letters a reading holds, each counted each time it is reached (what is shared counts as often as it is met; a slice's spare places count too). A statement '..UptoSaid' is the law's where the arguments, and the package variables that the reading takes, are together of bulk at most 1048576: NARROWER than '..Said'. Prove '..Said' where nothing that the law and all that it calls make is longer than what came in: it says more and counts as full. Else prove '..UptoSaid'. A law counts once. -/
mutual
def uptoBulk {H : Type} : DataW H → Nat
  | .lit (.string bytes) => bytes.length + 1
  | .lit _ => 1
  | .nil => 1
  | .ptr d => uptoBulk d + 1
  | .slice elems spare => uptoBulkAll elems + uptoBulkAll spare + 1
  | .agg parts => uptoBulkAll parts + 1
  | .iface _ d => uptoBulk d + 1
  | .map entries => uptoBulkEntries entries + 1
  | .held _ => 1
def uptoBulkAll {H : Type} : List (DataW H) → Nat
  | [] => 0
  | d :: r => uptoBulk d + uptoBulkAll r
def uptoBulkEntries {H : Type} : List (Lit × DataW H) → Nat
  | [] => 0
  | x :: r => uptoBulkEntry x + uptoBulkEntries r
def uptoBulkEntry {H : Type} : Lit × DataW H → Nat
  | (.string bytes, d) => bytes.length + uptoBulk d + 1
  | (_, d) => uptoBulk d + 1
 end
def uptoSmall : (H : Type) → List (DataW H) → Bool := fun _ ds => decide (uptoBulkAll ds ≤ 1048576)
def OpenSpec.upto (s : _root_.Go.ChangeSpec) : _root_.Go.OpenSpec := { _root_.Go.OpenSpec.ofChange s with cond := some uptoSmall }

/-- 'variorumlaw04.OrderCompares', WHERE WHAT IT READS IS OF BULK AT MOST 1048576: true; the input reads as it did. -/
def orderComparesUptoRow : OpenClaim := { program := "yteielgdgmmeciaa", sum := "c7c0215ad2811de17c9ab28cd4c01ec6e233f45ff9c636ac148f3894bccbb6e9", func := "variorum/variorumlaw04.OrderCompares", spec := "orderCompares", inPlace := ["internal/bytealg.Compare"], unfollowed := true, recurses := true, apart := false, narrowed := true }
def OrderComparesUptoSaid : Prop := orderComparesUptoRow.holds Try.pinned (OpenSpec.upto orderComparesSpec)

/-- 'variorumlaw04.OrderSorts', WHERE WHAT IT READS IS OF BULK AT MOST 1048576: true; the input reads as it did. -/
def orderSortsUptoRow : OpenClaim := { program := "yteielgdgmmeciaa", sum := "c7c0215ad2811de17c9ab28cd4c01ec6e233f45ff9c636ac148f3894bccbb6e9", func := "variorum/variorumlaw04.OrderSorts", spec := "orderSorts", inPlace := ["internal/bytealg.Compare"], unfollowed := true, recurses := true, apart := false, narrowed := true }
def OrderSortsUptoSaid : Prop := orderSortsUptoRow.holds Try.pinned (OpenSpec.upto orderSortsSpec)

/-- 'variorumlaw04.OrderFinds', WHERE WHAT IT READS IS OF BULK AT MOST 1048576: true; the input reads as it did. -/
def orderFindsUptoRow : OpenClaim := { program := "yteielgdgmmeciaa", sum := "c7c0215ad2811de17c9ab28cd4c01ec6e233f45ff9c636ac148f3894bccbb6e9", func := "variorum/variorumlaw04.OrderFinds", spec := "orderFinds", inPlace := ["internal/bytealg.Compare"], unfollowed := true, recurses := true, apart := false, narrowed := true }
def OrderFindsUptoSaid : Prop := orderFindsUptoRow.holds Try.pinned (OpenSpec.upto orderFindsSpec)

/-- 'variorumlaw04.OrderTotal', WHERE WHAT IT READS IS OF BULK AT MOST 1048576: true; the input reads as it did. -/
def orderTotalUptoRow : OpenClaim := { program := "yteielgdgmmeciaa", sum := "c7c0215ad2811de17c9ab28cd4c01ec6e233f45ff9c636ac148f3894bccbb6e9", func := "variorum/variorumlaw04.OrderTotal", spec := "orderTotal", inPlace := ["internal/bytealg.Compare"], unfollowed := true, recurses := true, apart := false, narrowed := true }
def OrderTotalUptoSaid : Prop := orderTotalUptoRow.holds Try.pinned (OpenSpec.upto orderTotalSpec)

/-- 'variorumlaw04.OrderIn', WHERE WHAT IT READS IS OF BULK AT MOST 1048576: true; the input reads as it did. -/
def orderInUptoRow : OpenClaim := { program := "yteielgdgmmeciaa", sum := "c7c0215ad2811de17c9ab28cd4c01ec6e233f45ff9c636ac148f3894bccbb6e9", func := "variorum/variorumlaw04.OrderIn", spec := "orderIn", inPlace := ["internal/bytealg.Compare"], unfollowed := true, recurses := true, apart := false, narrowed := true }
def OrderInUptoSaid : Prop := orderInUptoRow.holds Try.pinned (OpenSpec.upto orderInSpec)

/-- 'variorumlaw04.OrderPlaces', WHERE WHAT IT READS IS OF BULK AT MOST 1048576: true; the input reads as it did. -/
def orderPlacesUptoRow : OpenClaim := { program := "yteielgdgmmeciaa", sum := "c7c0215ad2811de17c9ab28cd4c01ec6e233f45ff9c636ac148f3894bccbb6e9", func := "variorum/variorumlaw04.OrderPlaces", spec := "orderPlaces", inPlace := ["internal/bytealg.Compare"], unfollowed := true, recurses := true, apart := false, narrowed := true }
def OrderPlacesUptoSaid : Prop := orderPlacesUptoRow.holds Try.pinned (OpenSpec.upto orderPlacesSpec)

/-- 'variorumlaw04.OrderMixes', WHERE WHAT IT READS IS OF BULK AT MOST 1048576: true; the input reads as it did. -/
def orderMixesUptoRow : OpenClaim := { program := "yteielgdgmmeciaa", sum := "c7c0215ad2811de17c9ab28cd4c01ec6e233f45ff9c636ac148f3894bccbb6e9", func := "variorum/variorumlaw04.OrderMixes", spec := "orderMixes", inPlace := ["internal/bytealg.Compare"], unfollowed := true, recurses := true, apart := false, narrowed := true }
def OrderMixesUptoSaid : Prop := orderMixesUptoRow.holds Try.pinned (OpenSpec.upto orderMixesSpec)

/-- 'variorumlaw04.OrderSets', WHERE WHAT IT READS IS OF BULK AT MOST 1048576: true; the input reads as it did. -/
def orderSetsUptoRow : OpenClaim := { program := "yteielgdgmmeciaa", sum := "c7c0215ad2811de17c9ab28cd4c01ec6e233f45ff9c636ac148f3894bccbb6e9", func := "variorum/variorumlaw04.OrderSets", spec := "orderSets", inPlace := ["internal/bytealg.Compare"], unfollowed := true, recurses := true, apart := false, narrowed := true }
def OrderSetsUptoSaid : Prop := orderSetsUptoRow.holds Try.pinned (OpenSpec.upto orderSetsSpec)

end Rows
end Go.Proofs.Yteielgdgmmeciaa
