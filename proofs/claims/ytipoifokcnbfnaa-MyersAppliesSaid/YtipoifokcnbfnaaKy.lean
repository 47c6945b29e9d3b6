/- The reference's Is. -/
import Derived.Test.YtipoifokcnbfnaaKx
namespace Go.Proofs.Ytipoifokcnbfnaa
open Go.RowKit
set_option linter.unusedVariables false

set_option maxHeartbeats 2000000 in
set_option maxRecDepth 100000 in
theorem ris_any (s : ByteArray) (hs : s.size ≤ 1000000) (w : World) :
    Calls Try.prog 30 #[.string s] w fun e w' => e = .returned (.bool (chkE s.data.toList == 0)) ∧ Below w.heap.size w w' := by
  have H := Lib.hid (rrunes_any s (by unfold maxLen; omega) (by omega) w)
  have HC := Lib.hid (chkE_cases s.data.toList)
  go_enter Try.func30, Try.ntmps30
  go_wp2_with fail
  refine H.out.mono ?_
  rintro e w2 ⟨v, rfl, hr, hb2⟩
  obtain ⟨p, cc, rfl⟩ := owns_slice hr
  have HB2 := Lib.hid hb2
  clear hr hb2
  rcases HC.out with h | h
  · have HE := Lib.hid h
    rw [h]
    clear h
    go_wp2
    go_ret
    exact ⟨by rw [HE.out]; rfl, HB2.out⟩
  · have HE := Lib.hid h
    rw [h]
    clear h
    go_wp2
    go_ret
    exact ⟨by rw [HE.out]; rfl, HB2.out⟩
/-- What an edit script makes of runes: where it stands, what it has written; or the code 1. -/
def apStep (xs : List Int) : Option (Nat × List UInt8) → Ed → Option (Nat × List UInt8)
  | none, _ => none
  | some (i, out), e =>
    if e.1 < 0 ∨ e.2.1 < 0 ∨ e.1 > (xs.length : Int) - i ∨ e.2.1 > (xs.length : Int) - i - e.1 then none
    else some (i + e.1.toNat + e.2.1.toNat, out ++ (encs ((xs.drop i).take e.1.toNat) ++ e.2.2))
/-- What Apply tells: the text and the code. -/
def applyL (s : List UInt8) (E : List Ed) : List UInt8 × Int :=
  if chkE s ≠ 0 ∨ E.any (fun e => chkE e.2.2 != 0) then ([], 5)
  else match E.foldl (apStep (runesL s)) (some (0, [])) with
    | none => ([], 1)
    | some (i, out) => if i = (runesL s).length then (out, 0) else ([], 1)
theorem apStep_none (xs : List Int) (E : List Ed) : E.foldl (apStep xs) none = none := by
  induction E with
  | nil => rfl
  | cons e E ih => exact ih
end Go.Proofs.Ytipoifokcnbfnaa
