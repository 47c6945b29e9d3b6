/- The laws OrderSorts, OrderMixes, OrderFinds, OrderIn: walks from what their arguments hold. -/
import Derived.Test.YteielgdgmmeciaaRj
import Derived.Test.YteielgdgmmeciaaHm
namespace Go.Proofs.Yteielgdgmmeciaa
open Go.RowKit Go.WideShapes Go.ChangeShapes Go.ChangeMaps
set_option linter.unusedVariables false

theorem orderSorts_walk {H : Type} {enc : TypeId × Value → H} {W : World} {b0 : Nat} {v0 : Value} {d0 : DataW H} {p0 : List MemPlace}
    (k0 : Value.okWide Try.prog W .any b0 30 v0) (h0 : DataW.Trod enc Try.prog W 0 (fun _ => true) true 30 v0 d0 p0) :
    Calls Try.prog 4 #[v0] W fun e w' => e = .returned (.bool true) ∧ Below W.heap.size W w' := by
  obtain ⟨a, cap, xs, rfl, h1, h2, h3, h4⟩ := reads_ids (okWide_slice Try.underlying30 k0) h0
  exact sorts_any a cap xs W h1 h2 h3 h4
theorem orderMixes_walk {H : Type} {enc : TypeId × Value → H} {W : World} {b0 : Nat} {v0 v1 : Value} {d0 d1 : DataW H} {p0 p1 : List MemPlace}
    (k0 : Value.okWide Try.prog W .any b0 30 v0) (h0 : DataW.Trod enc Try.prog W 0 (fun _ => true) true 30 v0 d0 p0) (k1 : Value.okWide Try.prog W .any b0 30 v1) (t1 : DataW.Trod enc Try.prog W 0 (fun _ => true) true 30 v1 d1 p1) :
    Calls Try.prog 9 #[v0, v1] W fun e w' => e = .returned (.bool true) ∧ Below W.heap.size W w' := by
  obtain ⟨a, cap, xs, rfl, h1, h2, h3, h4⟩ := reads_ids (okWide_slice Try.underlying30 k0) h0
  obtain ⟨a', cap', ys, rfl, h1', h2', h3', h4'⟩ := reads_ids (okWide_slice Try.underlying30 k1) t1
  exact mixes_any a cap xs a' cap' ys W h1 h2 h3 h4 h1' h2' h3' h4'
theorem orderFinds_walk {H : Type} {enc : TypeId × Value → H} {W : World} {b0 : Nat} {v0 v1 : Value} {d0 d1 : DataW H} {p0 p1 : List MemPlace}
    (k0 : Value.okWide Try.prog W .any b0 30 v0) (h0 : DataW.Trod enc Try.prog W 0 (fun _ => true) true 30 v0 d0 p0) (k1 : Value.okWide Try.prog W .any b0 23 v1) (t1 : DataW.Trod enc Try.prog W 0 (fun _ => true) true 23 v1 d1 p1) :
    Calls Try.prog 5 #[v0, v1] W fun e w' => e = .returned (.bool true) ∧ Below W.heap.size W w' := by
  obtain ⟨a, cap, xs, rfl, h1, h2, h3, h4⟩ := reads_ids (okWide_slice Try.underlying30 k0) h0
  obtain ⟨x, hx, rfl⟩ := reads_id (ok_arr Try.underlying23 k1) t1
  exact finds_any a cap xs x W h1 h2 h3 h4 hx
theorem orderIn_walk {H : Type} {enc : TypeId × Value → H} {W : World} {b0 : Nat} {v0 v1 : Value} {d0 d1 : DataW H} {p0 p1 : List MemPlace}
    (k0 : Value.okWide Try.prog W .any b0 30 v0) (h0 : DataW.Trod enc Try.prog W 0 (fun _ => true) true 30 v0 d0 p0) (k1 : Value.okWide Try.prog W .any b0 23 v1) (t1 : DataW.Trod enc Try.prog W 0 (fun _ => true) true 23 v1 d1 p1) :
    Calls Try.prog 7 #[v0, v1] W fun e w' => e = .returned (.bool true) ∧ Below W.heap.size W w' := by
  obtain ⟨a, cap, xs, rfl, h1, h2, h3, h4⟩ := reads_ids (okWide_slice Try.underlying30 k0) h0
  obtain ⟨x, hx, rfl⟩ := reads_id (ok_arr Try.underlying23 k1) t1
  exact ins_any a cap xs x W h1 h2 h3 h4 hx

end Go.Proofs.Yteielgdgmmeciaa
