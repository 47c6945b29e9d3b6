/- merge. -/
import Derived.Test.YteielgdgmmeciaaR
namespace Go.Proofs.Yteielgdgmmeciaa
open Go.RowKit
set_option linter.unusedVariables false

def fcmp : Value := .func (.func 11) #[] #[]

set_option maxHeartbeats 4000000 in
set_option maxRecDepth 100000 in
theorem merge_small (a : Option Addr) (cap : Nat) (xs : List (List UInt8)) (w : World) (h2 : xs.length < 2) (hin : IdsIn w a xs) (hn : a = none → xs = [] ∧ cap = 0) :
    Calls Try.prog 39 #[.slice a xs.length cap, fcmp] w fun e w' => ∃ v, e = .returned v ∧ w'.ownsRow w.heap.size 23 32 v xs.length (idsC xs) ∧ Below w.heap.size w w' := by
  have hi2 : (xs.length : Int) < 2 := by omega
  have HIN := Lib.hid hin
  have HN := Lib.hid hn
  clear hin hn
  have hl : Lib.hid (show xs.length ≤ 1 by omega) = Lib.hid (show xs.length ≤ 1 by omega) := rfl
  clear hl
  have HL := Lib.hid (show xs.length ≤ 1 by omega)
  unfold fcmp
  go_enter Try.func39, Try.ntmps39
  go_wp2_with (at_builtin; refine wpList_append_ids rfl _ _ rfl w.heap.size (.slice none 0 0) [] xs rfl ⟨by simp [idsC], .inl ⟨rfl, rfl⟩⟩ a cap rfl HIN.out HN.out (by have := HL.out; simp; omega) (Nat.le_refl _) ?_)
  rintro v' w' hown hb
  have HO := Lib.hid hown
  have HB := Lib.hid hb
  clear hown hb
  go_wp2
  go_ret
  exact ⟨_, rfl, by simpa using HO.out, HB.out⟩

end Go.Proofs.Yteielgdgmmeciaa
