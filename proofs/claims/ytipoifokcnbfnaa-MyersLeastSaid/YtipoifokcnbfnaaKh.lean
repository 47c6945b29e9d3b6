/- The walk of the reference's Costs. -/
import Derived.Test.YtipoifokcnbfnaaKe
import Derived.Test.YtipoifokcnbfnaaPb
namespace Go.Proofs.Ytipoifokcnbfnaa
open Go.RowKit
set_option linter.unusedVariables false

theorem info3e : (Try.prog.info? 3).map (fun i => (i.zero, i.size, i.bytes)) = some (some (.int .i64 0), 1, 8) := by kernel_rfl
theorem info51e : (Try.prog.info? 51).map (fun i => (i.zero, i.size, i.bytes)) = some (some (.slice none 0 0), 1, 24) := by kernel_rfl
@[go_sem ↓] theorem mk51 (n : Nat) (h : n ≤ 1000000) (w : World) : (Instr.makeSlice 51 (.int .i64 (n : Int)) (.int .i64 (n : Int))).run Try.prog w = .ok (.slice (some ⟨w.heap.size, 0, none⟩) n n) (w.alloc (.cells (madeCells #[.int .i64 0] n) 3)) := by
  have h4 := info3e
  cases hi : Try.prog.info? 3 with
  | none => rw [hi] at h4; cases h4
  | some i =>
    rw [hi] at h4
    simp at h4
    obtain ⟨z0, z1, z2⟩ := h4
    have := run_make (P := Try.prog) w 51 3 i _ Try.underlying51 hi z0 .i64 .i64 n n (by omega) (Int.le_refl _) (by rw [z2]; omega) (by omega)
    rw [this, z1]
    simp [Value.cells]
@[go_sem ↓] theorem mk52 (n : Nat) (h : n ≤ 1000000) (w : World) : (Instr.makeSlice 52 (.int .i64 (n : Int)) (.int .i64 (n : Int))).run Try.prog w = .ok (.slice (some ⟨w.heap.size, 0, none⟩) n n) (w.alloc (.cells (madeCells #[.slice none 0 0] n) 51)) := by
  have h4 := info51e
  cases hi : Try.prog.info? 51 with
  | none => rw [hi] at h4; cases h4
  | some i =>
    rw [hi] at h4
    simp at h4
    obtain ⟨z0, z1, z2⟩ := h4
    have := run_make (P := Try.prog) w 52 51 i _ Try.underlying52 hi z0 .i64 .i64 n n (by omega) (Int.le_refl _) (by rw [z2]; omega) (by omega)
    rw [this, z1]
    simp [Value.cells]
theorem made_hdrs (n : Nat) : (madeCells #[.slice none 0 0] n).toList = hdrR.cells (List.replicate n (none, 0, 0)) := by
  rw [toList_madeCells_one]
  induction n with
  | zero => rfl
  | succ n ih => rw [List.replicate_succ, List.replicate_succ, Rec.cells_cons, ih]; rfl
theorem hrow_made (w : World) (e : TypeId) (n : Nat) (hn : n ≤ 1000000) : hdrR.row e w.heap.size (List.replicate n (none, 0, 0)) (.slice (some ⟨w.heap.size, 0, none⟩) n n) (w.alloc (.cells (madeCells #[.slice none 0 0] n) e)) := by
  have hs : (madeCells #[Value.slice none 0 0] n).size = n := by
    have := congrArg List.length (made_hdrs n)
    rw [Rec.cells_length _ _ (fun _ _ => trivial)] at this
    simpa [hdrR] using this
  refine ⟨fun _ _ => trivial, by rw [Rec.cells_length _ _ (fun _ _ => trivial)], .inr ⟨w.heap.size, n, madeCells #[.slice none 0 0] n, by simp, Nat.le_refl _, (MapKept.heap_alloc w _).1, by simp, by unfold maxLen; omega, by rw [hs]; simp [hdrR], ?_⟩⟩
  rw [made_hdrs n, List.take_of_length_le (by rw [Rec.cells_length _ _ (fun _ _ => trivial)]; simp)]
theorem hdr_frozen {t : TypeId} {w : World} {base g l c k : Nat} {O : List (Option Addr × Nat × Nat)} (hk : k < O.length) (h : hdrR.row t base O (.slice (some ⟨g, 0, none⟩) l c) w) : w.frozen? ⟨g, k, none⟩ = false := by
  obtain ⟨_, cur, e, hh, hl⟩ := h.fitsW hk
  simp only at hh
  simp [World.frozen?, hh]
theorem hdr_at {t : TypeId} {w : World} {base g l c k : Nat} {O : List (Option Addr × Nat × Nat)} {x : Option Addr × Nat × Nat} (hk : O[k]? = some x) (h : hdrR.row t base O (.slice (some ⟨g, 0, none⟩) l c) w) : w.cell? ⟨g, k, none⟩ = some (.slice x.1 x.2.1 x.2.2) := by
  have h2 : hdrR.At w ⟨g, 0 + k * hdrR.sz, none⟩ x := by simpa using h.at hk
  simpa using hdr_cell h2
theorem hdr_set {t : TypeId} {w : World} {base g l c k : Nat} {O : List (Option Addr × Nat × Nat)} (x : Option Addr × Nat × Nat) (hk : k < O.length) (h : hdrR.row t base O (.slice (some ⟨g, 0, none⟩) l c) w) :
    hdrR.row t base (O.set k x) (.slice (some ⟨g, 0, none⟩) l c) (w.setCell ⟨g, k, none⟩ (.slice x.1 x.2.1 x.2.2)) ∧ Below base w (w.setCell ⟨g, k, none⟩ (.slice x.1 x.2.1 x.2.2)) := by
  obtain ⟨_, cur, e, hh, hl⟩ := h.fitsW hk
  have hp := h.put (x := x) trivial hk
  simp only [show k * hdrR.sz = k from Nat.mul_one k] at hp hh hl
  have he : putC w ⟨g, k, none⟩ (hdrR.enc x).toArray = w.setCell ⟨g, k, none⟩ (.slice x.1 x.2.1 x.2.2) := by
    have hl' : k + 1 ≤ cur.size := hl
    rw [setCell_eq_setRow w g k cur e (0, 0) _ hh]
    unfold putC
    simp only [hh]
    congr 1
    apply Array.ext'
    simp only [hdrR, List.size_toArray, List.length_cons, List.length_nil, Array.toList_setIfInBounds]
    rw [List.set_eq_take_append_cons_drop, if_pos (by simp; omega)]
    simp
  rw [he] at hp
  exact hp
theorem row_own {q : IntKind} {t : TypeId} {w : World} {base g l c : Nat} {O : List Int} (h : (numR q).row t base O (.slice (some ⟨g, 0, none⟩) l c) w) : g < w.heap.size ∧ ∃ cur, w.heap[g]? = some (Obj.cells cur t (0, 0)) := by
  obtain ⟨_, cur, hh⟩ := row_block h g rfl
  exact ⟨(Array.getElem?_eq_some_iff.1 hh).1, cur, hh⟩

/-- A row of the costs. -/
def crow (a b : List Int) (i : Nat) : List Int := (List.range (b.length + 1)).map fun j => (C a b i j : Int)
theorem crow_len (a b : List Int) (i : Nat) : (crow a b i).length = b.length + 1 := by simp [crow]
theorem crow_at (a b : List Int) (i j : Nat) (hj : j ≤ b.length) : (crow a b i).getD j 0 = (C a b i j : Int) := by
  have : j < b.length + 1 := by omega
  simp [crow, this]
theorem crow_of (a b : List Int) (i : Nat) (O : List Int) (hl : O.length = b.length + 1) (h : ∀ j, j ≤ b.length → O.getD j 0 = (C a b i j : Int)) : O = crow a b i := by
  apply List.ext_getElem
  · rw [hl, crow_len]
  · intro j h1 h2
    have e1 := h j (by omega)
    have e2 := crow_at a b i j (by omega)
    rw [← e2] at e1
    simpa [List.getD_eq_getElem?_getD, h1, h2] using e1
/-- The rows from one on. -/
def CM (w : World) (base : Nat) (a b : List Int) (hs : List (Option Addr × Nat × Nat)) (k : Nat) : Prop :=
  ∀ i, k ≤ i → i ≤ a.length → ∃ g, hs[i]? = some (some ⟨g, 0, none⟩, b.length + 1, b.length + 1) ∧ (numR .i64).row 3 base (crow a b i) (.slice (some ⟨g, 0, none⟩) (b.length + 1) (b.length + 1)) w
end Go.Proofs.Ytipoifokcnbfnaa
