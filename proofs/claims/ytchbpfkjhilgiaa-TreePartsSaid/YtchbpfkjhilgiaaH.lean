/- '==' on ids. -/
import Derived.Test.YtchbpfkjhilgiaaE
import Derived.ChangeKeysEq
namespace Go.Proofs.Ytchbpfkjhilgiaa
open Go.RowKit
set_option linter.unusedVariables false

theorem run_eqItems_bytes (d : Nat) (x y : List UInt8) (w : World) : ∀ is : List Nat, (∀ i ∈ is, i < x.length ∧ i < y.length) →
    (Op.eqItems (d + 1) 5 1 (idB x) (idB y) is).run Try.prog w = .ok (is.all fun i => x.getD i 0 == y.getD i 0) w
  | [], _ => by simp [Op.eqItems]
  | i :: is, h => by
    have h0 := h i (by simp)
    have ih := run_eqItems_bytes d x y w is (fun j hj => h j (by simp [hj]))
    have hp : Try.prog.plainKey 5 = true := by kernel_rfl
    have hu := Try.underlying5
    simp only [Op.eqItems, Sem.run_bind, Nat.mul_one, run_part_plain w hp (idB_get x i h0.1), run_part_plain w hp (idB_get y i h0.2), Result.andThen_ok,
      run_equalIn_int w d 5 .u8 .u8 _ _ Try.underlying5]
    have hbe : (((x.getD i 0).toNat : Int) == ((y.getD i 0).toNat : Int)) = (x.getD i 0 == y.getD i 0) := by
      by_cases hh : x.getD i 0 = y.getD i 0
      · rw [hh, beq_self_eq_true, beq_self_eq_true]
      · have : ¬ (((x.getD i 0).toNat : Int) = ((y.getD i 0).toNat : Int)) := fun e => hh (UInt8.toNat_inj.1 (by omega))
        rw [beq_eq_false_iff_ne.2 this, beq_eq_false_iff_ne.2 hh]
    rw [hbe]
    cases hq : (x.getD i 0 == y.getD i 0)
    · simp only [Bool.not_false, if_true, Sem.run_pure, List.all_cons, hq, Bool.false_and]
    · simp only [Bool.not_true, Bool.false_eq_true, if_false, ih, List.all_cons, hq, Bool.true_and]

theorem all_eq (x y : List UInt8) (hx : x.length = 32) (hy : y.length = 32) : ((List.range 32).all fun i => x.getD i 0 == y.getD i 0) = (x == y) := by
  by_cases h : x = y
  · subst h; simp
  · rw [beq_eq_false_iff_ne.2 h, List.all_eq_false]
    apply Classical.byContradiction
    intro hn
    apply h
    apply List.ext_getElem (by omega)
    intro i h1 h2
    apply Classical.byContradiction
    intro hne
    exact hn ⟨i, by simp; omega, by simpa [h1, h2] using hne⟩

theorem run_equalIn_ids (d : Nat) (x y : List UInt8) (w : World) (hx : x.length = 32) (hy : y.length = 32) :
    (Op.equalIn (d + 2) 36 (.agg (idB x)) (.agg (idB y))).run Try.prog w = .ok (x == y) w := by
  have hc : Try.prog.cellsOf 5 = 1 := by kernel_rfl
  obtain ⟨i, hi⟩ := info_of_underlying Try.underlying5
  rw [run_equalIn_array w (d + 1) (idB x) (idB y) Try.underlying36 hi, hc, run_eqItems_bytes d x y w _ (fun i hi => by simp at hi; omega), all_eq x y hx hy]

@[go_sem ↓] theorem run_eql_ids (x y : List UInt8) (w : World) (hx : x.length = 32) (hy : y.length = 32) :
    (binOp .eql 36 (.agg (idB x)) (.agg (idB y))).run Try.prog w = .ok (.bool (x == y)) w := by
  rw [run_eql_struct, show (10000 : Nat) = 9998 + 2 from rfl, run_equalIn_ids 9998 x y w hx hy]; rfl

@[go_sem ↓] theorem run_neq_ids (x y : List UInt8) (w : World) (hx : x.length = 32) (hy : y.length = 32) :
    (binOp .neq 36 (.agg (idB x)) (.agg (idB y))).run Try.prog w = .ok (.bool (!(x == y))) w := by
  rw [run_neq_struct, show (10000 : Nat) = 9998 + 2 from rfl, run_equalIn_ids 9998 x y w hx hy]; rfl

end Go.Proofs.Ytchbpfkjhilgiaa
