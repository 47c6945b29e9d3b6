/- Aggregates (arrays, structs) as flat rows of cells: what a load of one reads, in whatever block; bytes handed to bytes.Compare. -/
import Derived.Test.YtchbpfkjhilgiaaProg
import Derived.WalkKit
import Derived.WalkSpells
import Derived.WalkLawsBesides
import Derived.WalkSmall
import Derived.Lib.Hide
import Derived.Lib.Bytealg
import Derived.Lib.Builder
import Derived.Deep.LoopGhost
import Derived.Deep.DeepCutAuto
import Derived.Deep.CutBlock
import Derived.Deep.RegionWith
import Derived.Deep.QuietTactic
import Derived.BigQuiet
namespace Go.Proofs.Ytchbpfkjhilgiaa
open Go.RowKit
set_option linter.unusedVariables false

/-- The n cells from an address on. -/
def aggAt (w : World) (a : Addr) (n : Nat) : Array Value :=
  match w.heap[a.block]? with | some (.cells c _ _) => c.extract a.off (a.off + n) | _ => #[]
/-- n cells lie there. -/
def fits (w : World) (a : Addr) (n : Nat) : Prop := a.spot = none ∧ ∃ c e f, w.heap[a.block]? = some (.cells c e f) ∧ a.off + n ≤ c.size

theorem fits.lt {w : World} {a : Addr} {n : Nat} (h : fits w a n) : a.block < w.heap.size := by
  obtain ⟨_, c, e, f, hh, _⟩ := h
  exact (Array.getElem?_eq_some_iff.1 hh).1

theorem fits_of_block {w w' : World} {a : Addr} {n : Nat} (h : w'.heap[a.block]? = w.heap[a.block]?) (hf : fits w a n) : fits w' a n := by
  obtain ⟨hs, c, e, f, hh, hl⟩ := hf
  exact ⟨hs, c, e, f, h.trans hh, hl⟩
theorem aggAt_of_block {w w' : World} {a : Addr} {n : Nat} (h : w'.heap[a.block]? = w.heap[a.block]?) : aggAt w' a n = aggAt w a n := by
  unfold aggAt; rw [h]

theorem aggAt_size {w : World} {a : Addr} {n : Nat} (h : fits w a n) : (aggAt w a n).size = n := by
  obtain ⟨_, c, e, f, hh, hl⟩ := h
  unfold aggAt; rw [hh]; simp; omega

theorem aggAt_get {w : World} {a : Addr} {n j : Nat} (h : fits w a n) (hj : j < n) : w.cell? ⟨a.block, a.off + j, none⟩ = (aggAt w a n)[j]? := by
  obtain ⟨_, c, e, f, hh, hl⟩ := h
  unfold aggAt; rw [Lib.cell_of_heap hh, hh]
  simp [Array.getElem?_extract]
  omega

theorem run_loadVar_agg {P : Program} {w : World} {a : Addr} {n : Nat} {ty : TypeId} {d : TypeDesc} (hu : P.underlying ty = some d)
    (hd : (match d with | .struct _ | .array _ _ => true | _ => false) = true) (hi : (P.info? ty).map (·.size) = some n) (hf : fits w a n) :
    (loadVar ty a).run P w = .ok (.agg (aggAt w a n)) w := by
  have hsz := aggAt_size hf
  have hl : (loadCells a (aggAt w a n).toList.length).run P w = .ok (aggAt w a n).toList.toArray w :=
    run_loadCells_list (P := P) w a (aggAt w a n).toList (fun j v hv => by
      have hj : j < n := by
        rcases Nat.lt_or_ge j n with h | h
        · exact h
        · rw [List.getElem?_eq_none (by rw [Array.length_toList, hsz]; exact h)] at hv; simp at hv
      have hadd : a.add j = ⟨a.block, a.off + j, none⟩ := by
        have := hf.1
        obtain ⟨b, o, s⟩ := a
        simp at this; subst this
        unfold Addr.add; split <;> simp_all
      rw [hadd, aggAt_get hf hj]
      simpa using hv)
  cases hq : P.info? ty with
  | none => simp [hq] at hi
  | some i =>
    have hs : i.size = n := by simpa [hq] using hi
    have hagg : (isAgg ty).run P w = .ok true w := by
      unfold isAgg
      rw [Sem.run_bind, run_underlying hu w]
      cases d <;> simp_all
    simp only [Array.length_toList, Array.toArray_toList, hsz] at hl
    simp [loadVar, Sem.run_bind, hagg, sizeOf, typeInfo, hq, hs, hl]

/-- The address that a value is. -/
def addrOf : Value → Addr | .pointer (some a) => a | _ => default
def isPtr : Value → Bool | .pointer (some _) => true | _ => false
@[go_sem] theorem addrOf_ptr (a : Addr) : addrOf (.pointer (some a)) = a := rfl
@[go_sem] theorem isPtr_ptr (a : Addr) : isPtr (.pointer (some a)) = true := rfl

theorem run_exec_load {P : Program} {n : Nat} {ty : TypeId} {d : TypeDesc} (hu : P.underlying ty = some d)
    (hd : (match d with | .struct _ | .array _ _ => true | _ => false) = true) (hi : (P.info? ty).map (·.size) = some n)
    (f : Operand → Value) (x : Operand) (dst : Option Tmp) (ty' : TypeId) (pos : String) (after : Array Edge) (guard : Option (Nat × Bool)) (w : World)
    (hp : isPtr (f x) = true) (hf : fits w (addrOf (f x)) n) :
    (execOp f ⟨dst, .load ty x, ty', pos, after, guard⟩).run P w = .ok (.value (.agg (aggAt w (addrOf (f x)) n))) w := by
  cases hfx : f x with
  | pointer a =>
    cases a with
    | none => rw [hfx] at hp; simp [isPtr] at hp
    | some a =>
      rw [hfx] at hf
      simp only [addrOf] at hf ⊢
      unfold execOp
      simp only [hfx, Instr.loadAt, Instr.sureAddr, Sem.run_bind, Sem.run_pure, Result.andThen_ok, run_loadVar_agg hu hd hi hf]
  | _ => rw [hfx] at hp; simp [isPtr] at hp

@[go_sem ↓] theorem load23 (f : Operand → Value) (x : Operand) (dst : Option Tmp) (ty' : TypeId) (pos : String) (after : Array Edge) (guard : Option (Nat × Bool)) (w : World)
    (hp : isPtr (f x) = true) (hf : fits w (addrOf (f x)) 32) :
    (execOp f ⟨dst, .load 36 x, ty', pos, after, guard⟩).run Try.prog w = .ok (.value (.agg (aggAt w (addrOf (f x)) 32))) w :=
  run_exec_load Try.underlying36 rfl (by kernel_rfl) f x dst ty' pos after guard w hp hf

end Go.Proofs.Ytchbpfkjhilgiaa
