/- Rows behind a sort: what a sort leaves, whatever the program. -/
import Derived.Shelf.SlSortCmp.Kit1
import Derived.Test.YtchbpfkjhilgiaaRec
namespace Go.Proofs.Ytchbpfkjhilgiaa
open Go.RowKit
open Go.Sort hiding Below
set_option linter.unusedVariables false

theorem heap_sortWorld {α : Type} [Inhabited α] (enc : α → Value) (w : World) (blk off m : Nat) (dk : Array α) (os : Array Obj) (k : Nat) (hk : k < w.heap.size) (hne : k ≠ blk) : (sortWorld enc w blk off m dk os).heap[k]? = w.heap[k]? := by
  unfold sortWorld
  simp only [Go.Sort.grow]
  rw [Array.getElem?_append_left (by rw [show (putRow enc (Sort.ahead w m) blk off dk).heap.size = w.heap.size from size_putRow _ _ _ _ _]; exact hk)]
  simp only [putRow, mapBlock, Sort.ahead]
  rw [Array.getElem?_modify]
  simp [Ne.symm hne]
theorem size_sortWorld {α : Type} [Inhabited α] (enc : α → Value) (w : World) (blk off m : Nat) (dk : Array α) (os : Array Obj) : w.heap.size ≤ (sortWorld enc w blk off m dk os).heap.size := by
  unfold sortWorld
  simp only [Go.Sort.grow, Array.size_append]
  rw [show (putRow enc (Sort.ahead w m) blk off dk).heap.size = w.heap.size from size_putRow _ _ _ _ _]
  omega
section
variable {α : Type} {R : Rec α} {β : Type} [Inhabited β]
theorem row.holds {e : TypeId} {base g l c : Nat} {O : List α} {w : World} (enc : β → Value) (d : Array β) (h : R.row e base O (.slice (some ⟨g, 0, none⟩) l c) w) (hO : R.cells O = d.toList.map enc) : Holds enc w g 0 d := by
  obtain ⟨_, hl, ⟨he, _⟩ | ⟨g', cap', cur, he, hg, hh, hc, hm, hs, ht⟩⟩ := h
  · cases he
  · cases he
    intro j hj
    refine ⟨?_, Lib.frozen_of_heap hh _⟩
    rw [Lib.cell_of_heap hh, Nat.zero_add]
    have h1 : (R.cells O)[j]? = some (enc d[j]!) := by
      rw [hO, List.getElem?_map, Array.getElem?_toList, Array.getElem?_eq_getElem hj, Option.map_some, getElem!_pos d j hj]
    rw [← ht] at h1
    rw [List.getElem?_take] at h1
    split at h1
    · rwa [Array.getElem?_toList] at h1
    · cases h1
theorem row.sorted {e : TypeId} {base g l c : Nat} {O O' : List α} {w : World} (enc : β → Value) (d : Array β) (m : Nat) (os : Array Obj) (h : R.row e base O (.slice (some ⟨g, 0, none⟩) l c) w)
    (hO : R.cells O' = d.toList.map enc) (hok : ∀ x ∈ O', R.ok x) (hl' : O'.length = O.length) : R.row e base O' (.slice (some ⟨g, 0, none⟩) l c) (sortWorld enc w g 0 m d os) := by
  obtain ⟨hok0, hl, ⟨he, _⟩ | ⟨g', cap', cur, he, hg, hh, hc, hm, hs, ht⟩⟩ := h
  · cases he
  · cases he
    have hd : d.size = O.length * R.sz := by
      have := congrArg List.length hO
      rw [R.cells_length _ hok, hl', List.length_map, Array.length_toList] at this
      exact this.symm
    have hcc : O.length * R.sz ≤ c * R.sz := Nat.mul_le_mul_right _ hc
    have hlt := (Array.getElem?_eq_some_iff.1 hh).1
    have hb : (sortWorld enc w g 0 m d os).heap[g]? = some (.cells (putCells enc 0 d cur) e (0, 0)) := by
      unfold sortWorld
      simp only [Go.Sort.grow]
      rw [Array.getElem?_append_left (by rw [show (putRow enc (Sort.ahead w m) g 0 d).heap.size = w.heap.size from size_putRow _ _ _ _ _]; exact hlt)]
      simp only [putRow, mapBlock, Sort.ahead]
      rw [Array.getElem?_modify]
      simp [hh, onCells]
    refine ⟨hok, by rw [R.cells_length _ hok], .inr ⟨g, c, _, by rw [hl'], hg, hb, by rw [hl']; exact hc, hm, by simp [putCells, hs], ?_⟩⟩
    rw [hO]
    apply List.ext_getElem?
    intro i
    rw [List.getElem?_take, hl', ← hd]
    split
    · rename_i hi
      have hic : i < cur.size := by omega
      rw [Array.getElem?_toList, List.getElem?_map, Array.getElem?_toList, Array.getElem?_eq_getElem hi]
      simp only [putCells, Array.getElem?_mapIdx, Array.getElem?_eq_getElem hic, Option.map_some, Nat.zero_le, Nat.zero_add, true_and, if_pos hi, Nat.sub_zero]
      rw [getElem!_pos d i hi]
    · rename_i hi
      rw [List.getElem?_map, Array.getElem?_toList, Array.getElem?_eq_none (by omega)]; rfl
end

theorem cell_other {w w' : World} {b o : Nat} (h : w'.heap[b]? = w.heap[b]?) : w'.cell? ⟨b, o, none⟩ = w.cell? ⟨b, o, none⟩ := by
  simp [World.cell?, h]
theorem grownBy_sortWorld {α : Type} [Inhabited α] (enc : α → Value) (w : World) (blk off m : Nat) (dk : Array α) (os : Array Obj) : w.grownBy (sortWorld enc w blk off m dk os) (some blk) :=
  ⟨rfl, rfl, rfl, size_sortWorld enc w blk off m dk os, fun k hk hne => heap_sortWorld enc w blk off m dk os k hk (fun he => hne (by rw [he]))⟩
end Go.Proofs.Ytchbpfkjhilgiaa
