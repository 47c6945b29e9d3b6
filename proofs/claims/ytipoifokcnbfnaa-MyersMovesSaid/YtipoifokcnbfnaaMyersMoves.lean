/- The law MyersMoves: for every input the call returns true and leaves its arguments as they were. No condition of its own. -/
import Derived.Test.YtipoifokcnbfnaaRows
import Derived.WalkKit
import Derived.ProofKit
import Derived.OpenShut
import Derived.Laws.Cover2
import Derived.ShutString
import Derived.Test.YtipoifokcnbfnaaB
import Derived.Test.YtipoifokcnbfnaaKw
namespace Go.Proofs.Ytipoifokcnbfnaa.myersMoves
open Go.ChangeShapes Go.WideShapes Go.ChangeAt Go.RowKit
open Go.ChangeMaps (open_string shut_string)
set_option linter.unusedVariables false
set_option maxRecDepth 100000 in
theorem lifted (os : Os) (started : os.Started) (H : Type) (enc : TypeId × Value → H) :
    ReturnsInHanded {} Try.checked os 3 .any (Rows.myersMovesSpec.pre6 enc Try.prog Try.f3 Rows.myersMovesRow.domain false) (Rows.myersMovesSpec.post enc Try.prog Try.f3 false true false false) := by
  refine returnsInHanded_of_change_sized (C := Try.checked) own started (by kernel_rfl) Try.func3
    (ChangeSpec.witness6 (enc := enc) (C := Try.checked) false ⟨#[], #[.slice none 0 0, .slice none 0 0], []⟩ 8 (by kernel_rfl) (by kernel_rfl) (by kernel_rfl) (by kernel_rfl)) ?_
  intro W base args ds gs before hval0 hW hcnd hsz0 _
  have hval : ∀ (j : Nat) t v, Try.f3.params[j]? = some t → args[j]? = some v → Value.okWide Try.prog W .any base t v := hval0
  have hsz : (DataW.weightsEach Try.prog (Try.f3.params.toList ++ Rows.myersMovesSpec.plain.varTypes Try.prog) (ds ++ gs)).all (· ≤ reachBytes) = true := hsz0
  have hW' := hW
  obtain ⟨p, q, hA0, hV, rfl, hfz, hnd⟩ := hW
  have hA : DataW.TrodAll enc Try.prog W 0 (fun _ => true) true Try.f3.params.toList args.toList ds p := hA0
  rw [Try.params3] at hA hval hsz
  obtain ⟨v0, vs0, d0, ds0, p0, q0, hargs, rfl, rfl, h0, r0⟩ := trodAll_cons hA
  obtain ⟨v1, vs1, d1, ds1, p1, q1, rfl, rfl, rfl, h1, r1⟩ := trodAll_cons r0
  obtain ⟨rfl, rfl, rfl⟩ := trodAll_nil r1
  obtain rfl : args = #[v0, v1] := by cases args; simp_all
  have hsz' : (DataW.weightsEach Try.prog [22, 22] [d0, d1]).all (· ≤ reachBytes) = true := by
    simp only [List.cons_append, List.nil_append, DataW.weightsEach, List.all_append, Bool.and_eq_true, List.all_nil, and_true] at hsz ⊢
    exact ⟨hsz.1, hsz.2.1⟩
  refine (myersMoves_walk (hval 0 22 v0 rfl rfl) h0 (hval 1 22 v1 rfl rfl) h1 hsz').mono fun e W' ⟨he, hg⟩ => ⟨_, he, ?_⟩
  exact law_post laidOut (by kernel_rfl) rfl Try.underlying4 rfl rfl hW' hg

theorem over : Rows.myersMovesRow.holds Try.pinned (OpenSpec.ofChange Rows.myersMovesSpec) :=
  OpenClaim.holds_of_wide 3 Try.f3 rfl rfl rfl rfl rfl rfl rfl ⟨rfl, rfl, rfl, rfl, rfl⟩ rfl rfl rfl rfl rfl (by kernel_rfl) Try.func3 (by kernel_rfl)
    (of_decide_eq_true (by kernel_rfl)) (by unfold Func.isWrapper; first | (rw [if_pos (by decide +kernel)]; kernel_rfl) | (rw [if_neg (by decide +kernel)]; exact ⟨rfl, rfl⟩))
    (fun os started H enc _ => lifted os started H enc)

theorem proved : Rows.MyersMovesSaid := over
#print axioms proved
end Go.Proofs.Ytipoifokcnbfnaa.myersMoves
