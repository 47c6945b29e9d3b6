/- Rows behind a sort; the insertion sort of places; the stable sort of few places. -/
import Derived.Test.YtkapidcgonjbaaaRa
import Derived.Test.YtkapidcgonjbaaaS
namespace Go.Proofs.Ytkapidcgonjbaaa
open Go.RowKit
open Go.Sort hiding Below
set_option linter.unusedVariables false

section
variable {α : Type} {R : Rec α} {β : Type} [Inhabited β]
theorem row.holds {e : TypeId} {base g l c : Nat} {O : List α} {w : World} (enc : β → Value) (d : Array β) (h : R.row e base O (.slice (some ⟨g, 0, none⟩) l c) w) (hO : R.cells O = d.toList.map enc) : Holds enc w g 0 d := by
  obtain ⟨_, hl, ⟨he, _⟩ | ⟨g', cap', cur, he, hg, hh, hc, hm, hs, ht⟩⟩ := h
  · cases he
  · cases he
    intro j hj
    refine ⟨?_, Lib.frozen_of_heap hh _⟩
    rw [Lib.cell_of_heap hh, Nat.zero_add]
    have h1 : (R.cells O)[j]? = some (enc d[j]!) := by
      rw [hO, List.getElem?_map, Array.getElem?_toList, Array.getElem?_eq_getElem hj, Option.map_some, getElem!_pos d j hj]
    rw [← ht] at h1
    rw [List.getElem?_take] at h1
    split at h1
    · rwa [Array.getElem?_toList] at h1
    · cases h1
theorem row.sorted {e : TypeId} {base g l c : Nat} {O O' : List α} {w : World} (enc : β → Value) (d : Array β) (m : Nat) (os : Array Obj) (h : R.row e base O (.slice (some ⟨g, 0, none⟩) l c) w)
    (hO : R.cells O' = d.toList.map enc) (hok : ∀ x ∈ O', R.ok x) (hl' : O'.length = O.length) : R.row e base O' (.slice (some ⟨g, 0, none⟩) l c) (sortWorld enc w g 0 m d os) := by
  obtain ⟨hok0, hl, ⟨he, _⟩ | ⟨g', cap', cur, he, hg, hh, hc, hm, hs, ht⟩⟩ := h
  · cases he
  · cases he
    have hd : d.size = O.length * R.sz := by
      have := congrArg List.length hO
      rw [R.cells_length _ hok, hl', List.length_map, Array.length_toList] at this
      exact this.symm
    have hcc : O.length * R.sz ≤ c * R.sz := Nat.mul_le_mul_right _ hc
    have hlt := (Array.getElem?_eq_some_iff.1 hh).1
    have hb : (sortWorld enc w g 0 m d os).heap[g]? = some (.cells (putCells enc 0 d cur) e (0, 0)) := by
      unfold sortWorld
      simp only [Go.Sort.grow]
      rw [Array.getElem?_append_left (by rw [show (putRow enc (Sort.ahead w m) g 0 d).heap.size = w.heap.size from size_putRow _ _ _ _ _]; exact hlt)]
      simp only [putRow, mapBlock, Sort.ahead]
      rw [Array.getElem?_modify]
      simp [hh, onCells]
    refine ⟨hok, by rw [R.cells_length _ hok], .inr ⟨g, c, _, by rw [hl'], hg, hb, by rw [hl']; exact hc, hm, by simp [putCells, hs], ?_⟩⟩
    rw [hO]
    apply List.ext_getElem?
    intro i
    rw [List.getElem?_take, hl', ← hd]
    split
    · rename_i hi
      have hic : i < cur.size := by omega
      rw [Array.getElem?_toList, List.getElem?_map, Array.getElem?_toList, Array.getElem?_eq_getElem hi]
      simp only [putCells, Array.getElem?_mapIdx, Array.getElem?_eq_getElem hic, Option.map_some, Nat.zero_le, Nat.zero_add, true_and, if_pos hi, Nat.sub_zero]
      rw [getElem!_pos d i hi]
    · rename_i hi
      rw [List.getElem?_map, Array.getElem?_toList, Array.getElem?_eq_none (by omega)]; rfl
end

/-- Places, as the sort knows them. -/
def plE (m : Nat) (i : Fin (m + 1)) : Value := .int .i64 (i.val : Int)
def rkF (l : List Nat) (m : Nat) (i j : Fin (m + 1)) : Int := rkCmp l i.val j.val
def fclo (p c : Nat) : Value := .func (.func 47) #[] #[.pointer (some ⟨c, 0, none⟩), .pointer (some ⟨p, 0, none⟩)]
theorem enters47 : ∀ args w, (callFunc 47 args).run Try.prog w = .ok (.enter 47 args) w := enters_of Try.func47 (by kernel_rfl) rfl

/-- What the sort asks of its closure, in a world whose row lies behind the floats. -/
def SortAt (p c : Nat) (l : List Nat) (blk : Nat) (w : World) : Prop :=
  BoxF p c l w ∧ c ≠ blk ∧ ∃ b off cap, w.cell? ⟨p, 0, none⟩ = some (.slice (some ⟨b, off, none⟩) l.length cap) ∧ fltR.In w (some ⟨b, off, none⟩) l ∧ p ≠ blk ∧ b ≠ blk
theorem cell_other {w w' : World} {b o : Nat} (h : w'.heap[b]? = w.heap[b]?) : w'.cell? ⟨b, o, none⟩ = w.cell? ⟨b, o, none⟩ := by
  simp [World.cell?, h]
theorem SortAt.boxF {p c : Nat} {l : List Nat} {blk : Nat} {w : World} (h : SortAt p c l blk w) {β : Type} [Inhabited β] (enc : β → Value) (m : Nat) (dk : Array β) (os : Array Obj) : BoxF p c l (sortWorld enc w blk 0 m dk os) := by
  obtain ⟨⟨⟨hp, _⟩, hc, hcc⟩, hcb, b, off, cap, h1, h2, hpb, hbb⟩ := h
  have hs := size_sortWorld enc w blk 0 m dk os
  refine ⟨⟨by omega, b, off, cap, ?_, ?_⟩, by omega, ?_⟩
  · rw [cell_other (heap_sortWorld enc w blk 0 m dk os p hp hpb)]; exact h1
  · refine ⟨h2.1, ?_⟩
    rcases h2.2 with h | ⟨b', off', he, hlt, hx⟩
    · exact .inl h
    · cases he
      have hh := heap_sortWorld enc w blk 0 m dk os b hlt hbb
      refine .inr ⟨b, off, rfl, by omega, fun i x hi => ?_⟩
      obtain ⟨f1, f2⟩ := hx i x hi
      exact ⟨fits_of_block hh f1, (aggAt_of_block hh).trans f2⟩
  · rw [cell_other (heap_sortWorld enc w blk 0 m dk os c hc hcb)]; exact hcc

theorem rk_lays (l : List Nat) (m : Nat) (hl : l.length = m + 1) (p c blk : Nat) (w : World) (h : SortAt p c l blk w) (n : Nat) :
    CmpLays1 Try.prog 47 #[.pointer (some ⟨c, 0, none⟩), .pointer (some ⟨p, 0, none⟩)] (plE m) (rkF l m) blk 0 n w := by
  intro k os dk _ x y
  exact rk2_any p c l _ (h.boxF (plE m) k dk os) x.val y.val (by have := x.isLt; omega) (by have := y.isLt; omega)

theorem ins_any (l : List Nat) (m : Nat) (hl : l.length = m + 1) (p c blk cap a b : Nat) (d : Array (Fin (m + 1))) (w : World) (h : SortAt p c l blk w) (hH : Holds (plE m) w blk 0 d) (hblk : blk < w.heap.size) (hab : a ≤ b) (hb : b ≤ d.size) (hsz : d.size < 4611686018427387904) :
    Calls Try.prog 65 #[.slice (some ⟨blk, 0, none⟩) d.size cap, .int .i64 a, .int .i64 b, fclo p c] w fun e w' => e = .returned (.tuple #[]) ∧ SW (plE m) w blk 0 (Sort.insertionSort (ltOf (rkF l m)) d a b) w' :=
  Any.insertionSortCmpFunc_s Try.insI (plE m) (rkF l m) 47 _ blk 0 cap a b d d w w enters47 (rk_lays l m hl p c blk w h d.size) ⟨fun _ => rfl, hH, hblk⟩ rfl (SW.start hH) hab hb hsz

set_option maxHeartbeats 1000000 in
set_option maxRecDepth 100000 in
/-- Fewer than twenty: the stable sort is one insertion sort. -/
theorem cmpStable_few (l : List Nat) (m : Nat) (hl : l.length = m + 1) (hm : m < 19) (p c blk cap : Nat) (d : Array (Fin (m + 1))) (hd : d.size = m + 1) (w : World) (h : SortAt p c l blk w) (hH : Holds (plE m) w blk 0 d) (hblk : blk < w.heap.size) :
    Calls Try.prog 54 #[.slice (some ⟨blk, 0, none⟩) d.size cap, .int .i64 d.size, fclo p c] w fun e w' => e = .returned (.tuple #[]) ∧ SW (plE m) w blk 0 (Sort.insertionSort (ltOf (rkF l m)) d 0 d.size) w' := by
  have HI := Lib.hid (ins_any l m hl p c blk cap 0 d.size d w h hH hblk (Nat.zero_le _) (Nat.le_refl _) (by omega))
  have i1 : (d.size : Int) < 20 := by omega
  clear h hH hblk hm hl hd
  generalize Sort.insertionSort (ltOf (rkF l m)) d 0 d.size = D at *
  obtain ⟨n, hn⟩ : ∃ n, n = d.size := ⟨_, rfl⟩
  rw [← hn] at HI i1 ⊢
  clear hn
  unfold fclo at *
  go_enter Try.func54, Try.ntmps54
  go_wp2_with fail
  refine wp_loop_rounds 2 ?_
  rw [rounds_succ]
  go_wp2_with fail
  refine HI.out.mono ?_
  rintro e w1 ⟨rfl, hs⟩
  have HS := Lib.hid hs
  clear hs
  go_wp2_with fail
  refine wp_loop_rounds 2 ?_
  rw [rounds_succ]
  go_wp2
  go_end0
  exact ⟨rfl, HS.out⟩

set_option maxHeartbeats 1000000 in
set_option maxRecDepth 100000 in
theorem stable_few (l : List Nat) (m : Nat) (hl : l.length = m + 1) (hm : m < 19) (p c blk cap : Nat) (d : Array (Fin (m + 1))) (hd : d.size = m + 1) (w : World) (h : SortAt p c l blk w) (hH : Holds (plE m) w blk 0 d) (hblk : blk < w.heap.size) :
    Calls Try.prog 46 #[.slice (some ⟨blk, 0, none⟩) d.size cap, fclo p c] w fun e w' => e = .returned (.tuple #[]) ∧ SW (plE m) w blk 0 (Sort.insertionSort (ltOf (rkF l m)) d 0 d.size) w' := by
  have HI := Lib.hid (cmpStable_few l m hl hm p c blk cap d hd w h hH hblk)
  clear h hH hblk hm hl hd
  generalize Sort.insertionSort (ltOf (rkF l m)) d 0 d.size = D at *
  obtain ⟨n, hn⟩ : ∃ n, n = d.size := ⟨_, rfl⟩
  rw [← hn] at HI ⊢
  clear hn
  unfold fclo at *
  go_enter Try.func46, Try.ntmps46
  go_wp2_with fail
  refine HI.out.mono ?_
  rintro e w1 ⟨rfl, hs⟩
  have HS := Lib.hid hs
  clear hs
  go_wp2
  go_end0
  exact ⟨rfl, HS.out⟩
end Go.Proofs.Ytkapidcgonjbaaa
