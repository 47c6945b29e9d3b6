/- merge of any length; Sort. -/
import Derived.Test.YteielgdgmmeciaaT
namespace Go.Proofs.Yteielgdgmmeciaa
open Go.RowKit
set_option linter.unusedVariables false

theorem merge_any (n : Nat) : MergeAt n := by
  induction n using Nat.strongRecOn with
  | _ n ih =>
    by_cases h : 2 ≤ n
    · exact merge_big n h ih
    · intro a cap xs w hlen hcap hcm hm hin hnone
      have := merge_small a cap xs w (by omega) hin hnone
      rw [hlen] at this
      refine this.mono ?_
      rintro e w' ⟨v, he, ho, hb⟩
      refine ⟨v, he, ?_, hb⟩
      unfold rowI
      rw [msort_small xs (by omega), hlen]
      exact ho

set_option maxHeartbeats 1000000 in
set_option maxRecDepth 100000 in
theorem sort_any (a : Option Addr) (cap : Nat) (xs : List (List UInt8)) (w : World) (hcap : xs.length ≤ cap) (hcm : cap ≤ maxLen) (hm : xs.length ≤ 1000000) (hin : IdsIn w a xs) (hn : a = none → xs = [] ∧ cap = 0) :
    Calls Try.prog 17 #[.slice a xs.length cap] w fun e w' => ∃ v, e = .returned v ∧ rowI w.heap.size (msort xs) v w' ∧ Below w.heap.size w w' := by
  have H := Lib.hid (merge_any xs.length a cap xs w rfl hcap hcm hm hin hn)
  unfold fcmp at H
  clear hcap hcm hm hin hn
  go_enter Try.func17, Try.ntmps17
  go_wp2_with fail
  refine H.out.mono ?_
  rintro e w1 ⟨v, rfl, ho, hb⟩
  have HO := Lib.hid ho
  have HB := Lib.hid hb
  clear ho hb
  go_wp2
  go_ret
  exact ⟨v, rfl, HO.out, HB.out⟩

end Go.Proofs.Yteielgdgmmeciaa
