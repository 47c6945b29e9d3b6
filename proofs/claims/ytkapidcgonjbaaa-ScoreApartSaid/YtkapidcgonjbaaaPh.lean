/- ScoreApart, from its arguments. -/
import Derived.Test.YtkapidcgonjbaaaPg
namespace Go.Proofs.Ytkapidcgonjbaaa
open Go.RowKit Go.WideShapes Go.ChangeShapes
set_option linter.unusedVariables false
theorem scoreApart_walk {H : Type} {enc : TypeId × Value → H} {W : World} {b0 : Nat} {v0 : Value} {d0 : DataW H} {p0 : List MemPlace}
    (k0 : Value.okWide Try.prog W .any b0 29 v0) (h0 : DataW.Trod enc Try.prog W 0 (fun _ => true) true 29 v0 d0 p0) (x : Nat) (hx : (Lit.float .f64 x).wf = true) :
    Calls Try.prog 6 #[v0, .float .f64 x] W fun e w' => e = .returned (.bool true) ∧ Below W.heap.size W w' := by
  obtain ⟨rows, a, cap, rfl, h1, h2, h3, h4⟩ := reads_mat h0 (okWide_slice Try.underlying29 k0)
  exact apart_any a cap rows x (flt_wf hx) W h3
end Go.Proofs.Ytkapidcgonjbaaa
