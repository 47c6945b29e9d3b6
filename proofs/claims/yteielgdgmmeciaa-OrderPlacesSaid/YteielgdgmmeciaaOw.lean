/- Stores of whole ids in blocks that the call has made; literals of ids and keys. -/
import Derived.Test.YteielgdgmmeciaaW
import Derived.Test.YteielgdgmmeciaaI
import Derived.Test.YteielgdgmmeciaaP
namespace Go.Proofs.Yteielgdgmmeciaa
open Go.RowKit
set_option linter.unusedVariables false

/-- How many cells a block has. -/
def szAt (w : World) (b : Nat) : Option Nat := match w.heap[b]? with | some (.cells c _ fr) => if fr = (0, 0) then some c.size else none | _ => none
@[go_sem] theorem szAt_alloc (w : World) (c : Array Value) (t : TypeId) (b : Nat) : szAt (w.alloc (.cells c t)) b = if b = w.heap.size then some c.size else szAt w b := by
  split
  · next h => subst h; unfold szAt; rw [(MapKept.heap_alloc w _).1]; rfl
  · next h =>
    unfold szAt
    by_cases hb : b < w.heap.size
    · rw [Below.heap_alloc w _ b hb]
    · rw [Array.getElem?_eq_none (by simp; omega), Array.getElem?_eq_none (by omega)]
@[go_sem] theorem setRow_here (w : World) (old c : Array Value) (t : TypeId) (b : Nat) (h : b = w.heap.size) : (w.alloc (.cells old t)).setRow b c = w.alloc (.cells c t) := by
  subst h; exact setRow_alloc w old c t
@[go_sem] theorem setRow_under (w : World) (o : Obj) (c : Array Value) (b : Nat) (h : b < w.heap.size) : (w.alloc o).setRow b c = (w.setRow b c).alloc o := by
  unfold World.setRow World.alloc
  congr 1
  apply Array.ext_getElem?
  intro i
  simp only [Array.getElem?_modify, Array.getElem?_push]
  by_cases h1 : b = i
  · subst h1
    have h' : ¬ b = w.heap.size := by omega
    simp [h']
  · simp [h1]
@[go_sem] theorem setRow_size (w : World) (b : Nat) (c : Array Value) : (w.setRow b c).heap.size = w.heap.size := by simp [World.setRow]

@[go_sem ↓] theorem store23g (f : Operand → Value) (x y : Operand) (dst : Option Tmp) (ty' : TypeId) (pos : String) (after : Array Edge) (guard : Option (Nat × Bool)) (w : World)
    (hp : isPtr (f x) = true) (hf : (addrOf (f x)).off = 0) (hs : (addrOf (f x)).spot = none) (ho : szAt w (addrOf (f x)).block = some 32) (hy : idOk (f y)) :
    (execOp f ⟨dst, .store 23 x y, ty', pos, after, guard⟩).run Try.prog w = .ok .skip (w.setRow (addrOf (f x)).block (aggOf (f y))) := by
  obtain ⟨z, hz, hl⟩ := hy
  have hsz : (idB z).size = 32 := by rw [idB_size, hl]
  have h23 : (Try.prog.info? 23).map (·.size) = some 32 := by kernel_rfl
  cases hfx : f x with
  | pointer a =>
    cases a with
    | none => rw [hfx] at hp; simp [isPtr] at hp
    | some a =>
      obtain ⟨b, o, s⟩ := a
      rw [hfx] at hf hs ho
      simp only [addrOf_ptr] at hf hs ho
      subst hf hs
      unfold szAt at ho
      split at ho
      · rename_i c t fr hh
        split at ho
        case isFalse => cases ho
        rename_i hfr
        subst hfr
        simp only [Option.some.injEq] at ho
        have hr := run_storeVar_row (P := Try.prog) w b t 23 c (idB z) hh (by rw [h23, hsz]) (by rw [ho, hsz]) (idB_one z)
        unfold execOp
        simp only [hfx, hz, Instr.storeAt, Instr.sureAddr, Sem.run_bind, Sem.run_pure, Result.andThen_ok, hr, aggOf_agg, addrOf_ptr]
      · cases ho
  | _ => rw [hfx] at hp; simp [isPtr] at hp

def oneId (k : UInt8) : List UInt8 := k :: List.replicate 31 0
theorem oneId_32 (k : UInt8) : (oneId k).length = 32 := by simp [oneId]

theorem run_exec_build {P : Program} {t : TypeId} {cells : Array Value} (f : Operand → Value) (parts : Array (Nat × Operand)) (dst : Option Tmp) (ty' : TypeId) (pos : String) (after : Array Edge) (guard : Option (Nat × Bool)) (w : World)
    (h : P.built t (parts.map fun (i, x) => (i, f x)).toList = some cells) :
    (execOp f ⟨dst, .build t parts, ty', pos, after, guard⟩).run P w = .ok (.value (.agg cells)) w := by
  unfold execOp
  simp only [Sem.run_bind, run_build w t _ cells h, Result.andThen_ok]
  rfl

end Go.Proofs.Yteielgdgmmeciaa
