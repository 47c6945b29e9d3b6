/- The laws OrderCompares and OrderTotal: walks. -/
import Derived.Test.YtchbpfkjhilgiaaHk
import Derived.Test.YtchbpfkjhilgiaaJ
namespace Go.Proofs.Ytchbpfkjhilgiaa
open Go.RowKit Go.WideShapes Go.ChangeShapes Go.ChangeMaps
set_option linter.unusedVariables false

theorem keysCmp_eq (t : Int) (c : List UInt8) (i t' : Int) (c' : List UInt8) (i' : Int) : keysCmp t c i t' c' i' = if t < t' then -1 else if t' < t then 1 else if cmpB c c' ≠ 0 then cmpB c c' else if i < i' then -1 else if i' < i then 1 else 0 := by
  unfold keysCmp or3 cmpInt
  split
  · simp
  · split
    · simp
    · rfl

theorem keys_anti (t : Int) (c : List UInt8) (i t' : Int) (c' : List UInt8) (i' : Int) : keysCmp t' c' i' t c i = - keysCmp t c i t' c' i' := by
  rw [keysCmp_eq, keysCmp_eq, cmpB_anti c c']
  rcases cmpB_three c c' with h | h | h <;> rw [h] <;> (repeat' split) <;> omega
theorem keys_three (t : Int) (c : List UInt8) (i t' : Int) (c' : List UInt8) (i' : Int) : keysCmp t c i t' c' i' = -1 ∨ keysCmp t c i t' c' i' = 0 ∨ keysCmp t c i t' c' i' = 1 := by
  rw [keysCmp_eq]
  rcases cmpB_three c c' with h | h | h <;> rw [h] <;> (repeat' split) <;> omega
theorem keys_zero0 (t : Int) (c : List UInt8) (i t' : Int) (c' : List UInt8) (i' : Int) : (keyEq t c i t' c' i' = true) ↔ (t = t' ∧ cmpB c c' = 0 ∧ i = i') := by
  simp only [keyEq, Bool.and_eq_true, beq_iff_eq, cmpB_zero]
theorem keys_cases (t : Int) (c : List UInt8) (i t' : Int) (c' : List UInt8) (i' : Int) :
    (t < t' ∧ keysCmp t c i t' c' i' = -1) ∨ (t' < t ∧ keysCmp t c i t' c' i' = 1) ∨ (t = t' ∧ ((cmpB c c' = -1 ∧ keysCmp t c i t' c' i' = -1) ∨ (cmpB c c' = 1 ∧ keysCmp t c i t' c' i' = 1) ∨
      (cmpB c c' = 0 ∧ ((i < i' ∧ keysCmp t c i t' c' i' = -1) ∨ (i' < i ∧ keysCmp t c i t' c' i' = 1) ∨ (i = i' ∧ keysCmp t c i t' c' i' = 0))))) := by
  rw [keysCmp_eq]
  rcases cmpB_three c c' with h | h | h <;> rw [h] <;> (repeat' split) <;> omega
theorem keys_zero (t : Int) (c : List UInt8) (i t' : Int) (c' : List UInt8) (i' : Int) : keyEq t c i t' c' i' = decide (keysCmp t c i t' c' i' = 0) := by
  have k := keys_cases t c i t' c' i'
  rw [Bool.eq_iff_iff, keys_zero0, decide_eq_true_eq]
  generalize keysCmp t c i t' c' i' = x at *
  generalize cmpB c c' = A at *
  omega
theorem keys_trans (t1 : Int) (c1 : List UInt8) (i1 t2 : Int) (c2 : List UInt8) (i2 t3 : Int) (c3 : List UInt8) (i3 : Int) (h1 : keysCmp t1 c1 i1 t2 c2 i2 ≤ 0) (h2 : keysCmp t2 c2 i2 t3 c3 i3 ≤ 0) :
    keysCmp t1 c1 i1 t3 c3 i3 ≤ 0 ∧ (keysCmp t1 c1 i1 t2 c2 i2 < 0 ∨ keysCmp t2 c2 i2 t3 c3 i3 < 0 → keysCmp t1 c1 i1 t3 c3 i3 < 0) ∧ (keysCmp t1 c1 i1 t2 c2 i2 = 0 → keysCmp t2 c2 i2 t3 c3 i3 = 0 → keysCmp t1 c1 i1 t3 c3 i3 = 0) := by
  have ht := cmpB_trans c1 c2 c3
  have z1 := cmpB_zero c1 c2
  have z2 := cmpB_zero c2 c3
  have z3 := cmpB_zero c1 c3
  have hz : cmpB c1 c2 = 0 → cmpB c2 c3 = 0 → cmpB c1 c3 = 0 := fun a b => z3.2 ((z1.1 a).trans (z2.1 b))
  have k1 := keys_cases t1 c1 i1 t2 c2 i2
  have k2 := keys_cases t2 c2 i2 t3 c3 i3
  have k3 := keys_cases t1 c1 i1 t3 c3 i3
  clear z1 z2 z3
  generalize keysCmp t1 c1 i1 t2 c2 i2 = x at *
  generalize keysCmp t2 c2 i2 t3 c3 i3 = y at *
  generalize keysCmp t1 c1 i1 t3 c3 i3 = z at *
  generalize cmpB c1 c2 = A at *
  generalize cmpB c2 c3 = B at *
  generalize cmpB c1 c3 = C at *
  rcases k1 with k1 | k1 | ⟨_, k1 | k1 | ⟨_, k1 | k1 | k1⟩⟩ <;> (try (exfalso; omega)) <;>
  rcases k2 with k2 | k2 | ⟨_, k2 | k2 | ⟨_, k2 | k2 | k2⟩⟩ <;> (try (exfalso; omega)) <;>
  rcases k3 with k3 | k3 | ⟨_, k3 | k3 | ⟨_, k3 | k3 | k3⟩⟩ <;> omega

end Go.Proofs.Ytchbpfkjhilgiaa

namespace Go.Proofs.Ytchbpfkjhilgiaa
open Go.RowKit Go.WideShapes Go.ChangeShapes Go.ChangeMaps
set_option linter.unusedVariables false

set_option maxRecDepth 100000 in
theorem ok_agg {W : World} {b0 : Nat} {t : TypeId} {v : Value} {fs : Array Field} (hu : Try.prog.underlying t = some (.struct fs)) (h : Value.okWide Try.prog W .any b0 t v) : ∃ cs, v = .agg cs := by
  unfold Value.okWide at h
  rw [hu] at h
  obtain ⟨cs, h, _⟩ := h
  exact ⟨cs, h⟩
set_option maxRecDepth 100000 in
theorem ok_arr {W : World} {b0 : Nat} {t : TypeId} {v : Value} {n : Nat} {e : TypeId} (hu : Try.prog.underlying t = some (.array n e)) (h : Value.okWide Try.prog W .any b0 t v) : ∃ cs, v = .agg cs := by
  unfold Value.okWide at h
  rw [hu] at h
  obtain ⟨cs, h, _⟩ := h
  exact ⟨cs, h⟩

@[go_sem ↓] theorem load25 (f : Operand → Value) (x : Operand) (dst : Option Tmp) (ty' : TypeId) (pos : String) (after : Array Edge) (guard : Option (Nat × Bool)) (w : World)
    (hp : isPtr (f x) = true) (hf : fits w (addrOf (f x)) 34) :
    (execOp f ⟨dst, .load 38 x, ty', pos, after, guard⟩).run Try.prog w = .ok (.value (.agg (aggAt w (addrOf (f x)) 34))) w :=
  run_exec_load Try.underlying38 rfl (by kernel_rfl) f x dst ty' pos after guard w hp hf

end Go.Proofs.Ytchbpfkjhilgiaa
