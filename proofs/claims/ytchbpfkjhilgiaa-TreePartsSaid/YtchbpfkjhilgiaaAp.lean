/- A drawn region that appends one record to a row of one's own: its words. Whatever the program. -/
import Derived.Test.YtchbpfkjhilgiaaK
import Derived.Test.YtchbpfkjhilgiaaRec
namespace Go.Proofs.Ytchbpfkjhilgiaa
open Go.RowKit
set_option linter.unusedVariables false

/-- What an operation of such a region does to the world; A: the append. -/
def appR (A base : Nat) (vo : Value) (i : Nat) (w w' : World) : Prop := if i = A then w.grownBy w' vo.ownBlock ∧ Below base w w' else Below w.heap.size w w'
/-- One record in a new slice, away from a row's block. -/
def oneR {α : Type} (R : Rec α) (vo : Value) (x : α) : Value → World → Prop := fun v w => ∃ g, v = .slice (some ⟨g, 0, none⟩) 1 1 ∧ R.In w (some ⟨g, 0, none⟩) [x] ∧ some g ≠ vo.ownBlock
theorem appR_b {A base : Nat} {vo : Value} {i : Nat} {w w' : World} (h : i ≠ A) (hb : Below w.heap.size w w') : appR A base vo i w w' := by unfold appR; rw [if_neg h]; exact hb
theorem appR_a {A base : Nat} {vo : Value} {w w' : World} (h : w.grownBy w' vo.ownBlock) (hb : Below base w w') : appR A base vo A w w' := by unfold appR; rw [if_pos rfl]; exact ⟨h, hb⟩
theorem appR_below {A base : Nat} {vo : Value} {i : Nat} {W w w' : World} (hB : W.heap.size ≤ base) (hg : Below W.heap.size W w) (hr : appR A base vo i w w') : Below W.heap.size W w' := by
  unfold appR at hr
  split at hr
  · exact hg.trans (hr.2.mono hB)
  · exact hg.trans (hr.mono hg.size)
theorem oneR_st {α : Type} {R : Rec α} {A base : Nat} {vo : Value} {i : Nat} {x : α} {v : Value} {w w' : World} (h : oneR R vo x v w) (hr : appR A base vo i w w') : oneR R vo x v w' := by
  obtain ⟨g, rfl, hi, hn⟩ := h
  refine ⟨g, rfl, ?_, hn⟩
  unfold appR at hr
  split at hr
  · refine ⟨hi.1, ?_⟩
    rcases hi.2 with h0 | ⟨b, off, he, hlt, hc⟩
    · exact .inl h0
    · cases he
      have e := hr.1.block g hlt hn
      refine .inr ⟨g, 0, rfl, Nat.lt_of_lt_of_le hlt hr.2.size, fun k y hk => ?_⟩
      obtain ⟨h1, h2⟩ := hc k y hk
      exact ⟨fits_of_block (a := ⟨g, 0 + k * R.sz, none⟩) e h1, (aggAt_of_block (a := ⟨g, 0 + k * R.sz, none⟩) e).trans h2⟩
  · exact hi.below hr
theorem ownR_ne {α : Type} {R : Rec α} {e : TypeId} {w : World} {base : Nat} {O : List α} {vo : Value} (h : R.row e base O vo w) : some w.heap.size ≠ vo.ownBlock := by
  obtain ⟨_, _, ⟨rfl, _⟩ | ⟨g, cap, cur, rfl, hg, hh, _⟩⟩ := h
  · intro e; cases e
  · intro e
    simp only [Value.ownBlock, Option.some.injEq] at e
    have := (Array.getElem?_eq_some_iff.1 hh).1
    omega
/-- A value of one cell. -/
def cellV (v : Value) : Prop := v.cells = #[v]
@[go_sem] theorem cellV_int (k : IntKind) (n : Int) : cellV (.int k n) := rfl
@[go_sem] theorem cellV_bool (b : Bool) : cellV (.bool b) := rfl
@[go_sem] theorem cellV_str (s : ByteArray) : cellV (.string s) := rfl
@[go_sem] theorem cellV_slice (a : Option Addr) (n c : Nat) : cellV (.slice a n c) := rfl
end Go.Proofs.Ytchbpfkjhilgiaa
