/- Literals of records: slices and structs, whatever the program. -/
import Derived.Test.YtchbpfkjhilgiaaRec
import Derived.Great.BuildSlice
namespace Go.Proofs.Ytchbpfkjhilgiaa
open Go.RowKit
set_option linter.unusedVariables false

theorem fold_setB (off : Nat) : ∀ (l : List Value) (k : Nat) (cs : List Value), off + k + l.length ≤ cs.length →
    ((l.zipIdx k).foldl (fun cs (x : Value × Nat) => cs.setIfInBounds (off + x.2) x.1) cs.toArray) = (cs.take (off + k) ++ l ++ cs.drop (off + k + l.length)).toArray
  | [], k, cs, _ => by simp
  | v :: l, k, cs, h => by
    simp only [List.length_cons] at h
    rw [List.zipIdx_cons, List.foldl_cons]
    simp only [List.setIfInBounds_toArray]
    rw [fold_setB off l (k + 1) (cs.set (off + k) v) (by simp; omega)]
    congr 1
    have e1 : (cs.set (off + k) v).take (off + (k + 1)) = cs.take (off + k) ++ [v] := by
      rw [show off + (k + 1) = off + k + 1 by omega, List.take_succ_eq_append_getElem (by simp; omega)]
      simp [List.take_set_of_le]
    have e2 : (cs.set (off + k) v).drop (off + (k + 1) + l.length) = cs.drop (off + k + (l.length + 1)) := by
      rw [List.drop_set, if_pos (by omega)]
      congr 1; omega
    rw [e1, e2]
    simp
theorem fill_one {pl : Nat → Option (Nat × Nat)} {i off sz : Nat} {v : Value} {c cs : List Value} {rest : List (Nat × Value)} (hp : pl i = some (off, sz)) (hv : v.cells = c.toArray) (hl : c.length = sz) (hb : off + sz ≤ cs.length) :
    Instr.fill pl cs.toArray ((i, v) :: rest) = Instr.fill pl (cs.take off ++ c ++ cs.drop (off + sz)).toArray rest := by
  rw [Instr.fill]
  have hf := fold_setB off c 0 cs (by rw [hl]; omega)
  simp only [hp, hv, List.size_toArray, hl, ne_eq, not_true_eq_false, decide_false, Bool.false_or]
  rw [if_neg (by simp; omega)]
  have hz2 : c.toArray.zipIdx.foldl (fun cs (x : Value × Nat) => cs.setIfInBounds (off + x.2) x.1) cs.toArray = (c.zipIdx 0).foldl (fun cs (x : Value × Nat) => cs.setIfInBounds (off + x.2) x.1) cs.toArray := by
    simp
  rw [hz2, hf, hl, Nat.add_zero]
namespace Rec
variable {α : Type} {R : Rec α}
def parts (R : Rec α) (vs : List (Value × α)) (k : Nat) : List (Nat × Value) := (vs.zipIdx k).map fun x => (x.2, x.1.1)
theorem fillR : ∀ (vs : List (Value × α)) (k : Nat) (cs : List Value), (∀ x ∈ vs, R.ok x.2 ∧ x.1.cells = (R.enc x.2).toArray) → cs.length = (k + vs.length) * R.sz →
    Instr.fill (fun i => some (i * R.sz, R.sz)) cs.toArray (parts R vs k) = some (cs.take (k * R.sz) ++ R.cells (vs.map (·.2))).toArray
  | [], k, cs, _, h => by
    simp at h
    simp [parts, Instr.fill, Rec.cells, List.take_of_length_le (show cs.length ≤ k * R.sz by omega)]
  | x :: vs, k, cs, hx, h => by
    obtain ⟨h1, h2⟩ := hx x (by simp)
    have hl := R.len x.2 h1
    simp only [List.length_cons] at h
    have hsz : (k + (vs.length + 1)) * R.sz = k * R.sz + R.sz + vs.length * R.sz := by rw [Nat.add_mul, Nat.add_mul]; omega
    have e : parts R (x :: vs) k = (k, x.1) :: parts R vs (k + 1) := rfl
    rw [e, fill_one rfl h2 hl (by omega), fillR vs (k + 1) _ (fun y hy => hx y (by simp [hy])) (by
      have : (k + 1 + vs.length) * R.sz = k * R.sz + R.sz + vs.length * R.sz := by rw [Nat.add_mul, Nat.add_mul]; omega
      simp [hl]; omega)]
    congr 2
    rw [List.map_cons, cells_cons]
    have e2 : (k + 1) * R.sz = k * R.sz + R.sz := by rw [Nat.add_mul]; omega
    rw [List.take_append_of_le_length (by simp [hl]; omega), List.take_of_length_le (by simp [hl]; omega)]
    simp
/-- '[]T{x, ..}'. -/
theorem run_lit {P : Program} {t e : TypeId} {bytes : Nat} (hT : Ty R P t e bytes) (w : World) (n : Nat) (vs : List (Value × α)) (ps : Array (Nat × Value)) (hp : ps.toList = parts R vs 0) (hn : vs.length = n) (hpos : 0 < n) (hsm : n * R.sz ≤ 10000000) (hx : ∀ x ∈ vs, R.ok x.2 ∧ x.1.cells = (R.enc x.2).toArray) :
    (Instr.buildSlice t n ps).run P w = .ok (.slice (some ⟨w.heap.size, 0, none⟩) n n) (w.alloc (.cells (R.cells (vs.map (·.2))).toArray e)) := by
  obtain ⟨i, z, hi, hz0, hz1, hz2, hz3⟩ := hT.info
  have hsp := R.pos
  have hpp : 0 < n * R.sz := Nat.mul_pos hpos hsp
  refine run_buildSlice w t e n ps _ i z hT.u hi hz0 (by rw [hz1]; omega) (by rw [hz1]; omega) ?_
  have := fillR vs 0 ((Array.range (n * R.sz)).map (fun j => z.cells[j % z.cells.size]!)).toList hx (by simp [hn])
  rw [Array.toArray_toList] at this
  rw [hz1, hp]
  exact this.trans (by simp)
end Rec
end Go.Proofs.Ytchbpfkjhilgiaa
