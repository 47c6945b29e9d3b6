/- Pairs, marks, places as records; a matrix of floats. -/
import Derived.Test.YtkapidcgonjbaaaRc
import Derived.Test.YtkapidcgonjbaaaM
namespace Go.Proofs.Ytkapidcgonjbaaa
open Go.RowKit
open Go.Sort hiding Below
set_option linter.unusedVariables false

/-- Pairs. -/
def pairR : Rec Pr where
  enc p := (prB p).toList
  sz := 3
  ok p := p.2.2 < 18446744073709551616
  pos := by decide
  len _ _ := rfl
  one x _ u hu := by simp [prB] at hu; rcases hu with rfl | rfl | rfl <;> rfl
theorem pair53 : pairR.Ty Try.prog 53 55 24 := ⟨Try.underlying53, by kernel_rfl, by kernel_rfl, by decide⟩
/-- Marks. -/
def boolR : Rec Bool where
  enc b := [.bool b]
  sz := 1
  ok _ := True
  pos := by decide
  len _ _ := rfl
  one x _ u hu := by simp at hu; subst hu; rfl
theorem bool60 : boolR.Ty Try.prog 60 4 1 := ⟨Try.underlying60, by kernel_rfl, by kernel_rfl, by decide⟩
/-- Places of two. -/
def ijR : Rec (Int × Int) where
  enc p := [.int .i64 p.1, .int .i64 p.2]
  sz := 2
  ok _ := True
  pos := by decide
  len _ _ := rfl
  one x _ u hu := by simp at hu; rcases hu with rfl | rfl <;> rfl
theorem ij32 : ijR.Ty Try.prog 32 36 16 := ⟨Try.underlying32, by kernel_rfl, by kernel_rfl, by decide⟩
/-- Slices. -/
def hdrR : Rec (Option Addr × Nat × Nat) where
  enc h := [.slice h.1 h.2.1 h.2.2]
  sz := 1
  ok _ := True
  pos := by decide
  len _ _ := rfl
  one x _ u hu := by simp at hu; subst hu; rfl
theorem hdr_cell {w : World} {b o k : Nat} {x : Option Addr × Nat × Nat} (h : hdrR.At w ⟨b, o + k * hdrR.sz, none⟩ x) : w.cell? ⟨b, o + k, none⟩ = some (.slice x.1 x.2.1 x.2.2) := by
  have h1 : hdrR.At w ⟨b, o + k, none⟩ x := by have := h; simpa [hdrR] using this
  have := aggAt_get (j := 0) h1.1 Nat.one_pos
  rw [h1.2] at this
  simpa [hdrR] using this

/-- A slice of slices of floats. -/
def MatW (w : World) (a : Option Addr) (rows : List (List Nat)) : Prop := ∃ hs : List (Option Addr × Nat × Nat), hdrR.In w a hs ∧ hs.length = rows.length ∧ ∀ (i : Nat) (h : Option Addr × Nat × Nat) (r : List Nat), hs[i]? = some h → rows[i]? = some r → fltR.Sl w (.slice h.1 h.2.1 h.2.2) r
theorem MatW.below {w w' : World} {a : Option Addr} {rows : List (List Nat)} (h : MatW w a rows) (hb : Below w.heap.size w w') : MatW w' a rows := by
  obtain ⟨hs, h1, h2, h3⟩ := h
  exact ⟨hs, h1.below hb, h2, fun i h r hi hr => (h3 i h r hi hr).below hb⟩
theorem MatW.addr {w : World} {a : Option Addr} {rows : List (List Nat)} (h : MatW w a rows) {k : Nat} (hk : k < rows.length) : ∃ b off, a = some ⟨b, off, none⟩ := by
  obtain ⟨hs, h1, h2, _⟩ := h
  rcases h1.2 with h | ⟨b, off, he, _⟩
  · rw [h] at h2; simp at h2; omega
  · exact ⟨b, off, he⟩
/-- A row: its header's cell, its floats. -/
theorem MatW.row {w : World} {b o : Nat} {rows : List (List Nat)} (h : MatW w (some ⟨b, o, none⟩) rows) (i : Nat) (r : List Nat) (hi : rows[i]? = some r) :
    b < w.heap.size ∧ ∃ a c, w.cell? ⟨b, o + i, none⟩ = some (.slice a r.length c) ∧ r.length ≤ c ∧ c ≤ maxLen ∧ fltR.In w a r ∧ (a = none → r = []) := by
  obtain ⟨hs, h1, h2, h3⟩ := h
  have hlt : i < rows.length := (List.getElem?_eq_some_iff.1 hi).1
  have hh : hs[i]? = some hs[i] := List.getElem?_eq_getElem (by omega)
  rcases h1.2 with h | ⟨b', o', he, hl, hc⟩
  · subst h; simp at h2; omega
  · cases he
    have e1 := hdr_cell (hc i _ hh)
    obtain ⟨a, c, he, h4, h5, h6, h7⟩ := h3 i _ r hh hi
    refine ⟨hl, a, c, ?_, h4, h5, h6, fun h => (h7 h).1⟩
    rw [e1, he]

/-- Is a number told? -/
def tells (least x : Nat) : Bool := !isN x && (!isN least && decide (0 ≤ fOrd x least))
/-- The pairs of a row, of all rows. -/
def rowPs (least i : Nat) (r : List Nat) (n : Nat) : List Pr := (List.range n).filterMap fun k => if tells least (r.getD k 0) = true then some ((i : Int), (k : Int), r.getD k 0) else none
def allPs (least : Nat) (rows : List (List Nat)) (n : Nat) : List Pr := (List.range n).flatMap fun i => rowPs least i (rows.getD i []) (rows.getD i []).length
def colsOf (rows : List (List Nat)) (n : Nat) : Nat := (rows.take n).foldl (fun c r => max c r.length) 0
theorem rowPs_succ (least i : Nat) (r : List Nat) (n : Nat) : rowPs least i r (n + 1) = rowPs least i r n ++ (if tells least (r.getD n 0) = true then [((i : Int), (n : Int), r.getD n 0)] else []) := by
  unfold rowPs
  rw [List.range_succ, List.filterMap_append]
  congr 1
  simp only [List.filterMap_cons, List.filterMap_nil]
  split <;> simp_all
theorem rowPs_length (least i : Nat) (r : List Nat) (n : Nat) : (rowPs least i r n).length ≤ n := by
  unfold rowPs
  have := List.length_filterMap_le (fun k => if tells least (r.getD k 0) = true then some ((i : Int), (k : Int), r.getD k 0) else none) (List.range n)
  simpa using this
theorem allPs_succ (least : Nat) (rows : List (List Nat)) (n : Nat) : allPs least rows (n + 1) = allPs least rows n ++ rowPs least n (rows.getD n []) (rows.getD n []).length := by
  unfold allPs
  rw [List.range_succ, List.flatMap_append]
  simp
theorem colsOf_succ (rows : List (List Nat)) (n : Nat) (r : List Nat) (h : rows[n]? = some r) : colsOf rows (n + 1) = max (colsOf rows n) r.length := by
  unfold colsOf
  have hlt := (List.getElem?_eq_some_iff.1 h).1
  rw [List.take_add_one, h]
  simp
end Go.Proofs.Ytkapidcgonjbaaa
