/- Rows of numbers and of floats; what a sort leaves in other blocks. -/
import Derived.Test.YtkapidcgonjbaaaL
import Derived.Test.YtkapidcgonjbaaaGr
import Derived.Shelf.SlSortCmp.Kit1
namespace Go.Proofs.Ytkapidcgonjbaaa
open Go.RowKit Go.Sort
set_option linter.unusedVariables false

/-- Numbers. -/
def intR : Rec Int where
  enc n := [.int .i64 n]
  sz := 1
  ok _ := True
  pos := Nat.one_pos
  len _ _ := rfl
  one x _ u hu := by simp at hu; subst hu; rfl
theorem int43 : intR.Ty Try.prog 43 3 8 := ⟨Try.underlying43, by kernel_rfl, by kernel_rfl, by decide⟩
theorem int_cell {w : World} {b o k : Nat} {x : Int} (h : intR.At w ⟨b, o + k * intR.sz, none⟩ x) : w.cell? ⟨b, o + k, none⟩ = some (.int .i64 x) := by
  have h1 : intR.At w ⟨b, o + k, none⟩ x := by have := h; simpa [intR] using this
  have := aggAt_get (j := 0) h1.1 Nat.one_pos
  rw [h1.2] at this
  simpa [intR] using this
/-- Floats, by their bits. -/
def fltR : Rec Nat where
  enc n := [.float .f64 n]
  sz := 1
  ok n := n < 18446744073709551616
  pos := Nat.one_pos
  len _ _ := rfl
  one x _ u hu := by simp at hu; subst hu; rfl
theorem flt30 : fltR.Ty Try.prog 30 23 8 := ⟨Try.underlying30, by kernel_rfl, by kernel_rfl, by decide⟩
theorem flt_cell {w : World} {b o k : Nat} {x : Nat} (h : fltR.At w ⟨b, o + k * fltR.sz, none⟩ x) : w.cell? ⟨b, o + k, none⟩ = some (.float .f64 x) := by
  have h1 : fltR.At w ⟨b, o + k, none⟩ x := by have := h; simpa [fltR] using this
  have := aggAt_get (j := 0) h1.1 Nat.one_pos
  rw [h1.2] at this
  simpa [fltR] using this

theorem made_ints (n : Nat) : (madeCells #[.int .i64 0] (n * 1)).toList = intR.cells (List.replicate n 0) := by
  rw [Nat.mul_one, toList_madeCells_one]
  induction n with
  | zero => rfl
  | succ n ih => rw [List.replicate_succ, List.replicate_succ, Rec.cells_cons, ih]; rfl
theorem int_frozen {w : World} {base g l c k : Nat} {O : List Int} (hk : k < O.length) (h : intR.row 3 base O (.slice (some ⟨g, 0, none⟩) l c) w) : w.frozen? ⟨g, k, none⟩ = false := by
  obtain ⟨_, cur, e, hh, hl⟩ := h.fitsW hk
  simp only at hh
  simp [World.frozen?, hh]
theorem int_set {w : World} {base g l c k : Nat} {O : List Int} (x : Int) (hk : k < O.length) (h : intR.row 3 base O (.slice (some ⟨g, 0, none⟩) l c) w) :
    intR.row 3 base (O.set k x) (.slice (some ⟨g, 0, none⟩) l c) (w.setCell ⟨g, k, none⟩ (.int .i64 x)) ∧ Below base w (w.setCell ⟨g, k, none⟩ (.int .i64 x)) := by
  obtain ⟨_, cur, e, hh, hl⟩ := h.fitsW hk
  have hp := h.put (x := x) trivial hk
  simp only [show k * intR.sz = k from Nat.mul_one k] at hp hh hl
  have he : putC w ⟨g, k, none⟩ (intR.enc x).toArray = w.setCell ⟨g, k, none⟩ (.int .i64 x) := by
    have hl' : k + 1 ≤ cur.size := hl
    rw [setCell_eq_setRow w g k cur e (0, 0) _ hh]
    unfold putC
    simp only [hh]
    congr 1
    apply Array.ext'
    simp only [intR, List.size_toArray, List.length_cons, List.length_nil, Array.toList_setIfInBounds]
    rw [List.set_eq_take_append_cons_drop, if_pos (by simp; omega)]
    simp
  rw [he] at hp
  exact hp
theorem info3 : (Try.prog.info? 3).map (fun i => (i.zero, i.size, i.bytes)) = some (some (.int .i64 0), 1, 8) := by kernel_rfl

/-! ### A sort leaves every other block. -/
theorem heap_sortWorld {α : Type} [Inhabited α] (enc : α → Value) (w : World) (blk off m : Nat) (dk : Array α) (os : Array Obj) (k : Nat) (hk : k < w.heap.size) (hne : k ≠ blk) : (sortWorld enc w blk off m dk os).heap[k]? = w.heap[k]? := by
  unfold sortWorld
  simp only [Go.Sort.grow]
  rw [Array.getElem?_append_left (by rw [show (putRow enc (Sort.ahead w m) blk off dk).heap.size = w.heap.size from size_putRow _ _ _ _ _]; exact hk)]
  simp only [putRow, mapBlock, Sort.ahead]
  rw [Array.getElem?_modify]
  simp [Ne.symm hne]
theorem size_sortWorld {α : Type} [Inhabited α] (enc : α → Value) (w : World) (blk off m : Nat) (dk : Array α) (os : Array Obj) : w.heap.size ≤ (sortWorld enc w blk off m dk os).heap.size := by
  unfold sortWorld
  simp only [Go.Sort.grow, Array.size_append]
  rw [show (putRow enc (Sort.ahead w m) blk off dk).heap.size = w.heap.size from size_putRow _ _ _ _ _]
  omega
theorem below_sortWorld {α : Type} [Inhabited α] (enc : α → Value) (w : World) (blk off m : Nat) (dk : Array α) (os : Array Obj) (base : Nat) (hb : base ≤ blk) (hs : base ≤ w.heap.size) : Go.RowKit.Below base w (sortWorld enc w blk off m dk os) :=
  ⟨rfl, rfl, rfl, size_sortWorld enc w blk off m dk os, fun k hk => heap_sortWorld enc w blk off m dk os k (by omega) (by omega)⟩
end Go.Proofs.Ytkapidcgonjbaaa
