/- The walk of ScoreMeans, from its argument. -/
import Derived.Test.YtkapidcgonjbaaaSs
import Derived.WideKeyArgs
namespace Go.Proofs.Ytkapidcgonjbaaa
open Go.RowKit Go.WideShapes Go.ChangeShapes
set_option linter.unusedVariables false

theorem trod_flt {H : Type} {enc : TypeId × Value → H} {W : World} {base : Nat} {spare : Nat → Bool} {held : Bool} {fuel : Nat} {cs : List Value} {y : DataW H × List MemPlace} (hf : DataW.trod enc Try.prog W base spare held fuel 23 cs = some y) :
    ∃ x, x < 18446744073709551616 ∧ cs = [.float .f64 x] := by
  cases fuel with
  | zero => simp [DataW.trod] at hf
  | succ n =>
    simp only [DataW.trod, Try.underlying23] at hf
    rcases cs with _ | ⟨v, _ | ⟨v2, rest⟩⟩
    · simp at hf
    · cases v <;> simp at hf
      rename_i k b
      obtain ⟨⟨rfl, hw⟩, _⟩ := hf
      exact ⟨b, flt_wf hw, rfl⟩
    · cases v <;> simp at hf

theorem scoreMeans_walk {H : Type} {enc : TypeId × Value → H} {W : World} {b0 : Nat} {v0 : Value} {d0 : DataW H} {p0 : List MemPlace}
    (k0 : Value.okWide Try.prog W .any b0 30 v0) (h0 : DataW.Trod enc Try.prog W 0 (fun _ => true) true 30 v0 d0 p0) :
    Calls Try.prog 10 #[v0] W fun e w' => e = .returned (.bool true) ∧ Below W.heap.size W w' := by
  obtain ⟨l, a, cap, rfl, h1, h2, h3, h4⟩ := Rec.reads (R := fltR) Try.underlying30 (by kernel_rfl) (fun fuel cs y hy => trod_flt hy) h0 (okWide_slice Try.underlying30 k0)
  exact means_any a cap l W h1 h2 h3 h4
end Go.Proofs.Ytkapidcgonjbaaa
