/- Match: the marks, the greedy choice. -/
import Derived.Test.YtkapidcgonjbaaaPc
namespace Go.Proofs.Ytkapidcgonjbaaa
open Go.RowKit
open Go.Sort hiding Below
set_option linter.unusedVariables false

@[go_sem ↓] theorem load55 (f : Operand → Value) (x : Operand) (dst : Option Tmp) (ty' : TypeId) (pos : String) (after : Array Edge) (guard : Option (Nat × Bool)) (w : World)
    (hp : isPtr (f x) = true) (hf : fits w (addrOf (f x)) 3) :
    (execOp f ⟨dst, .load 55 x, ty', pos, after, guard⟩).run Try.prog w = .ok (.value (.agg (aggAt w (addrOf (f x)) 3))) w :=
  run_exec_load Try.underlying55 rfl (by kernel_rfl) f x dst ty' pos after guard w hp hf

@[go_sem] theorem run_store_flt {P : Program} {w : World} {a : Addr} {m : Mode} (k : FloatKind) (n : Nat) : (store a (.float k n) m).run P w = stored P w a (.float k n) m := run_store P w a _ m rfl

section
variable {α : Type} {R : Rec α}
/-- A row whose block is as it was. -/
theorem row.moved {e : TypeId} {base : Nat} {O : List α} {v : Value} {w w' : World} (h : R.row e base O v w) (hh : ∀ g l c, v = .slice (some ⟨g, 0, none⟩) l c → base ≤ g → g < w.heap.size → w'.heap[g]? = w.heap[g]?) : R.row e base O v w' := by
  obtain ⟨hok, hl, h | ⟨g, cap, cur, he, hg, hb, hc, hm, hs, ht⟩⟩ := h
  · exact ⟨hok, hl, .inl h⟩
  · exact ⟨hok, hl, .inr ⟨g, cap, cur, he, hg, (hh g _ _ he hg (Array.getElem?_eq_some_iff.1 hb).1).trans hb, hc, hm, hs, ht⟩⟩
end
theorem setCell_heap_other (w : World) (b o : Nat) (v : Value) (j : Nat) (h : j ≠ b) : (w.setCell ⟨b, o, none⟩ v).heap[j]? = w.heap[j]? := by
  rw [setCell_eq]
  simp only [mapBlock]
  rw [Array.getElem?_modify]
  simp [Ne.symm h]

theorem bool_cell {w : World} {base g l c k : Nat} {O : List Bool} (hk : k < O.length) (h : boolR.row 4 base O (.slice (some ⟨g, 0, none⟩) l c) w) : w.cell? ⟨g, k, none⟩ = some (.bool (O.getD k false)) := by
  have hx : O[k]? = some (O.getD k false) := by simp [List.getD_eq_getElem?_getD, hk]
  have h1 : boolR.At w ⟨g, k, none⟩ (O.getD k false) := by
    have := h.at hx
    simpa [boolR] using this
  have := aggAt_get (j := 0) h1.1 Nat.one_pos
  rw [h1.2] at this
  simpa [boolR] using this
theorem bool_frozen {w : World} {base g l c k : Nat} {O : List Bool} (hk : k < O.length) (h : boolR.row 4 base O (.slice (some ⟨g, 0, none⟩) l c) w) : w.frozen? ⟨g, k, none⟩ = false := by
  obtain ⟨_, cur, e, hh, hl⟩ := h.fitsW hk
  simp only at hh
  simp [World.frozen?, hh]
theorem bool_set {w : World} {base g l c k : Nat} {O : List Bool} (x : Bool) (hk : k < O.length) (h : boolR.row 4 base O (.slice (some ⟨g, 0, none⟩) l c) w) :
    boolR.row 4 base (O.set k x) (.slice (some ⟨g, 0, none⟩) l c) (w.setCell ⟨g, k, none⟩ (.bool x)) ∧ Below base w (w.setCell ⟨g, k, none⟩ (.bool x)) := by
  obtain ⟨_, cur, e, hh, hl⟩ := h.fitsW hk
  have hp := h.put (x := x) trivial hk
  simp only [show k * boolR.sz = k from Nat.mul_one k] at hp hh hl
  have he : putC w ⟨g, k, none⟩ (boolR.enc x).toArray = w.setCell ⟨g, k, none⟩ (.bool x) := by
    have hl' : k + 1 ≤ cur.size := hl
    rw [setCell_eq_setRow w g k cur e (0, 0) _ hh]
    unfold putC
    simp only [hh]
    congr 1
    apply Array.ext'
    simp only [boolR, List.size_toArray, List.length_cons, List.length_nil, Array.toList_setIfInBounds]
    rw [List.set_eq_take_append_cons_drop, if_pos (by simp; omega)]
    simp
  rw [he] at hp
  exact hp
theorem made_bools (n : Nat) : madeCells #[.bool false] n = (boolR.cells (List.replicate n false)).toArray := by
  apply Array.ext'
  rw [List.toList_toArray, toList_madeCells_one]
  induction n with
  | zero => rfl
  | succ n ih => rw [List.replicate_succ, List.replicate_succ, Rec.cells_cons, ih]; rfl
theorem bools_new {w : World} {g n : Nat} (base : Nat) (hb : base ≤ g) (hn : n ≤ 1000000) (hg : w.heap[g]? = some (.cells (madeCells #[.bool false] n) 4)) : boolR.row 4 base (List.replicate n false) (.slice (some ⟨g, 0, none⟩) n n) w := by
  have hc : (boolR.cells (List.replicate n false)).length = n := by
    rw [boolR.cells_length _ (fun _ _ => trivial), List.length_replicate]; exact Nat.mul_one n
  have hz : boolR.sz = 1 := rfl
  rw [made_bools] at hg
  refine ⟨fun _ _ => trivial, by rw [hc, List.length_replicate, hz, Nat.mul_one], .inr ⟨g, n, _, by rw [List.length_replicate], hb, hg, by rw [List.length_replicate]; exact Nat.le_refl _, by unfold maxLen; omega, by rw [List.size_toArray, hc, hz, Nat.mul_one], ?_⟩⟩
  rw [List.toList_toArray, List.length_replicate, hz, Nat.mul_one]
  exact List.take_of_length_le (by rw [hc]; exact Nat.le_refl _)

/-- Two marks are set, in either order. -/
theorem marks_set {w : World} {base gr gc l c l' c' i j : Nat} {R C : List Bool} (hne : gr ≠ gc) (hR : boolR.row 4 base R (.slice (some ⟨gr, 0, none⟩) l c) w) (hC : boolR.row 4 base C (.slice (some ⟨gc, 0, none⟩) l' c') w) (hi : i < R.length) (hj : j < C.length) :
    boolR.row 4 base (R.set i true) (.slice (some ⟨gr, 0, none⟩) l c) ((w.setCell ⟨gr, i, none⟩ (.bool true)).setCell ⟨gc, j, none⟩ (.bool true)).drew ∧
    boolR.row 4 base (C.set j true) (.slice (some ⟨gc, 0, none⟩) l' c') ((w.setCell ⟨gr, i, none⟩ (.bool true)).setCell ⟨gc, j, none⟩ (.bool true)).drew ∧
    (∀ k, k ≠ gr → k ≠ gc → ((w.setCell ⟨gr, i, none⟩ (.bool true)).setCell ⟨gc, j, none⟩ (.bool true)).drew.heap[k]? = w.heap[k]?) ∧
    ((w.setCell ⟨gr, i, none⟩ (.bool true)).setCell ⟨gc, j, none⟩ (.bool true)).drew.heap.size = w.heap.size ∧
    Below base w ((w.setCell ⟨gr, i, none⟩ (.bool true)).setCell ⟨gc, j, none⟩ (.bool true)).drew := by
  obtain ⟨r1, b1⟩ := bool_set true hi hR
  have c1 : boolR.row 4 base C (.slice (some ⟨gc, 0, none⟩) l' c') (w.setCell ⟨gr, i, none⟩ (.bool true)) :=
    row.moved hC fun g _ _ he _ _ => by simp at he; exact setCell_heap_other _ _ _ _ _ (by omega)
  obtain ⟨c2, b2⟩ := bool_set true hj c1
  have r2 : boolR.row 4 base (R.set i true) (.slice (some ⟨gr, 0, none⟩) l c) ((w.setCell ⟨gr, i, none⟩ (.bool true)).setCell ⟨gc, j, none⟩ (.bool true)) :=
    row.moved r1 fun g _ _ he _ _ => by simp at he; exact setCell_heap_other _ _ _ _ _ (by omega)
  refine ⟨r2.below (Below.refl _ _).drew, c2.below (Below.refl _ _).drew, fun k h1 h2 => ?_, by simp, (b1.trans b2).drew⟩
  exact (setCell_heap_other _ _ _ _ _ h2).trans (setCell_heap_other _ _ _ _ _ h1)

/-- One pair is told, where neither its row nor its column is. -/
def gStep (s : List Bool × List Bool × List (Int × Int)) (p : Pr) : List Bool × List Bool × List (Int × Int) :=
  if s.1.getD p.1.toNat false = false ∧ s.2.1.getD p.2.1.toNat false = false then (s.1.set p.1.toNat true, s.2.1.set p.2.1.toNat true, s.2.2 ++ [(p.1, p.2.1)]) else s
def gRun (n c : Nat) (L : List Pr) : List Bool × List Bool × List (Int × Int) := L.foldl gStep (List.replicate n false, List.replicate c false, [])
theorem gRun_succ (n c : Nat) (L : List Pr) (k : Nat) (p : Pr) (h : L[k]? = some p) : gRun n c (L.take (k + 1)) = gStep (gRun n c (L.take k)) p := by
  unfold gRun
  rw [List.take_add_one, h]
  simp
theorem gStep_len (s : List Bool × List Bool × List (Int × Int)) (p : Pr) : (gStep s p).1.length = s.1.length ∧ (gStep s p).2.1.length = s.2.1.length ∧ (gStep s p).2.2.length ≤ s.2.2.length + 1 := by
  unfold gStep
  split <;> simp
theorem gFold_len (L : List Pr) : ∀ s : List Bool × List Bool × List (Int × Int), (L.foldl gStep s).1.length = s.1.length ∧ (L.foldl gStep s).2.1.length = s.2.1.length ∧ (L.foldl gStep s).2.2.length ≤ s.2.2.length + L.length := by
  induction L with
  | nil => intro s; simp
  | cons p L ih =>
    intro s
    rw [List.foldl_cons]
    have h1 := ih (gStep s p)
    have h2 := gStep_len s p
    simp only [List.length_cons]
    omega
theorem gRun_len (n c : Nat) (L : List Pr) : (gRun n c L).1.length = n ∧ (gRun n c L).2.1.length = c ∧ (gRun n c L).2.2.length ≤ L.length := by
  have := gFold_len L (List.replicate n false, List.replicate c false, [])
  simpa [gRun] using this

theorem colsOf_mono (rows : List (List Nat)) (n i : Nat) (r : List Nat) (hi : rows[i]? = some r) (hin : i < n) : r.length ≤ colsOf rows n := by
  induction n with
  | zero => omega
  | succ n ih =>
    by_cases hn : n < rows.length
    · rw [colsOf_succ rows n _ (List.getElem?_eq_getElem hn)]
      by_cases he : i = n
      · subst he
        rw [List.getElem?_eq_getElem hn] at hi
        cases hi
        omega
      · have := ih (by omega); omega
    · have hlt := (List.getElem?_eq_some_iff.1 hi).1
      have := ih (by omega)
      unfold colsOf at *
      rw [List.take_of_length_le (by omega)] at *
      exact this
theorem allPs_mem (least : Nat) (rows : List (List Nat)) (p : Pr) (hp : p ∈ allPs least rows rows.length) : ∃ i k : Nat, p.1 = i ∧ p.2.1 = k ∧ i < rows.length ∧ k < colsOf rows rows.length := by
  unfold allPs at hp
  obtain ⟨i, hi, hp⟩ := List.mem_flatMap.1 hp
  have hi' := List.mem_range.1 hi
  unfold rowPs at hp
  obtain ⟨k, hk, hp⟩ := List.mem_filterMap.1 hp
  have hk' := List.mem_range.1 hk
  split at hp
  · cases hp
    have hr : rows[i]? = some (rows.getD i []) := by rw [List.getD_eq_getElem?_getD, List.getElem?_eq_getElem hi']; rfl
    have := colsOf_mono rows rows.length i _ hr hi'
    exact ⟨i, k, rfl, rfl, hi', by omega⟩
  · cases hp
end Go.Proofs.Ytkapidcgonjbaaa
