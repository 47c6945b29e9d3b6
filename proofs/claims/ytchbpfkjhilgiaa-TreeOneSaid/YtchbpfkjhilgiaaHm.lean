/- The laws OrderCompares and OrderTotal: walks from what their arguments hold. -/
import Derived.Test.YtchbpfkjhilgiaaHl
namespace Go.Proofs.Ytchbpfkjhilgiaa
open Go.RowKit Go.WideShapes Go.ChangeShapes Go.ChangeMaps
set_option linter.unusedVariables false

set_option maxRecDepth 100000 in
theorem ok_agg {W : World} {b0 : Nat} {t : TypeId} {v : Value} {fs : Array Field} (hu : Try.prog.underlying t = some (.struct fs)) (h : Value.okWide Try.prog W .any b0 t v) : ∃ cs, v = .agg cs := by
  unfold Value.okWide at h
  rw [hu] at h
  obtain ⟨cs, h, _⟩ := h
  exact ⟨cs, h⟩
set_option maxRecDepth 100000 in
theorem ok_arr {W : World} {b0 : Nat} {t : TypeId} {v : Value} {n : Nat} {e : TypeId} (hu : Try.prog.underlying t = some (.array n e)) (h : Value.okWide Try.prog W .any b0 t v) : ∃ cs, v = .agg cs := by
  unfold Value.okWide at h
  rw [hu] at h
  obtain ⟨cs, h, _⟩ := h
  exact ⟨cs, h⟩

@[go_sem ↓] theorem load25 (f : Operand → Value) (x : Operand) (dst : Option Tmp) (ty' : TypeId) (pos : String) (after : Array Edge) (guard : Option (Nat × Bool)) (w : World)
    (hp : isPtr (f x) = true) (hf : fits w (addrOf (f x)) 34) :
    (execOp f ⟨dst, .load 38 x, ty', pos, after, guard⟩).run Try.prog w = .ok (.value (.agg (aggAt w (addrOf (f x)) 34))) w :=
  run_exec_load Try.underlying38 rfl (by kernel_rfl) f x dst ty' pos after guard w hp hf

end Go.Proofs.Ytchbpfkjhilgiaa
