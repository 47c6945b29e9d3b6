/- A slice literal of ids. -/
import Derived.Test.YteielgdgmmeciaaS
import Derived.Great.BuildSlice
namespace Go.Proofs.Yteielgdgmmeciaa
open Go.RowKit
set_option linter.unusedVariables false

theorem fold_set (off : Nat) : ∀ (l : List Value) (k : Nat) (cs : List Value), off + k + l.length ≤ cs.length →
    ((l.zipIdx k).foldl (fun cs (x : Value × Nat) => cs.setIfInBounds (off + x.2) x.1) cs.toArray) = (cs.take (off + k) ++ l ++ cs.drop (off + k + l.length)).toArray
  | [], k, cs, _ => by simp
  | v :: l, k, cs, h => by
    simp only [List.length_cons] at h
    rw [List.zipIdx_cons, List.foldl_cons]
    simp only [List.setIfInBounds_toArray]
    rw [fold_set off l (k + 1) (cs.set (off + k) v) (by simp; omega)]
    congr 1
    have e1 : (cs.set (off + k) v).take (off + (k + 1)) = cs.take (off + k) ++ [v] := by
      rw [show off + (k + 1) = off + k + 1 by omega, List.take_succ_eq_append_getElem (by simp; omega)]
      simp [List.take_set_of_le]
    have e2 : (cs.set (off + k) v).drop (off + (k + 1) + l.length) = cs.drop (off + k + (l.length + 1)) := by
      rw [List.drop_set, if_pos (by omega)]
      congr 1; omega
    rw [e1, e2]
    simp

def idParts : Nat → List (List UInt8) → List (Nat × Value)
  | _, [] => []
  | k, x :: xs => (k, .agg (idB x)) :: idParts (k + 1) xs

theorem fill_ids : ∀ (xs : List (List UInt8)) (k : Nat) (cs : List Value), (∀ x ∈ xs, x.length = 32) → cs.length = (k + xs.length) * 32 →
    Instr.fill (fun i => some (i * 32, 32)) cs.toArray (idParts k xs) = some (cs.take (k * 32) ++ idsC xs).toArray
  | [], k, cs, _, h => by
    simp at h
    simp [idParts, Instr.fill, idsC, List.take_of_length_le (show cs.length ≤ k * 32 by omega)]
  | x :: xs, k, cs, hx, h => by
    have hl : (Lib.byteCells x).length = 32 := by rw [Lib.byteCells_length, hx x (by simp)]
    have hz : (idB x).size = 32 := by rw [idB_size, hx x (by simp)]
    simp only [List.length_cons] at h
    rw [idParts, Instr.fill]
    have hf := fold_set (k * 32) (Lib.byteCells x) 0 cs (by rw [hl]; omega)
    simp only [Value.cells, hz, ne_eq, not_true_eq_false, decide_false, Bool.false_or, List.size_toArray]
    rw [if_neg (by simp; omega)]
    have hz2 : (idB x).zipIdx.foldl (fun cs (x : Value × Nat) => cs.setIfInBounds (k * 32 + x.2) x.1) cs.toArray = ((Lib.byteCells x).zipIdx 0).foldl (fun cs (x : Value × Nat) => cs.setIfInBounds (k * 32 + x.2) x.1) cs.toArray := by
      simp [idB]
    rw [hz2, hf, fill_ids xs (k + 1) _ (fun y hy => hx y (by simp [hy])) (by simp [hl]; omega)]
    congr 2
    rw [idsC_cons, hl]
    rw [List.take_append_of_le_length (by simp [hl]; omega), List.take_of_length_le (by simp [hl]; omega)]
    simp

theorem wpList_buildIds {ops : Array Oper} {rest : List Oper} {o : Oper} {a : Act} {w : World} {Q : Exit → Act → World → Prop} (hg : o.guard = none) (n : Nat) (parts : Array (Nat × Operand)) (ho : o.op = .buildSlice 30 n parts)
    (xs : List (List UInt8)) (hx : ∀ x ∈ xs, x.length = 32) (hn : xs.length = n) (hpos : 0 < n) (hsmall : n ≤ 1000) (hp : (parts.map fun (i, x) => (i, a.eval x)).toList = idParts 0 xs)
    (h : wpList Try.prog ops Q rest (a.put o.dst (.slice (some ⟨w.heap.size, 0, none⟩) n n)) (w.alloc (.cells (idsC xs).toArray 23))) : wpList Try.prog ops Q (o :: rest) a w := by
  have hi := info23
  cases hq : Try.prog.info? 23 with
  | none => rw [hq] at hi; cases hi
  | some i =>
    rw [hq] at hi
    simp only [Option.map_some, Option.some.injEq, Prod.mk.injEq] at hi
    obtain ⟨hz0, hz1, hz2⟩ := hi
    refine wpList_buildSlice hg 30 23 n parts ho _ i _ Try.underlying30 hq hz0 (by rw [hz1]; omega) (by rw [hz1]; omega) ?_ h
    rw [hp, hz1]
    have := fill_ids xs 0 ((Array.range (n * 32)).map (fun j => (Value.agg (Array.replicate 32 (.int .u8 0))).cells[j % (Value.agg (Array.replicate 32 (.int .u8 0))).cells.size]!)).toList hx (by simp; omega)
    rw [Array.toArray_toList] at this
    exact this.trans (by simp)

end Go.Proofs.Yteielgdgmmeciaa
