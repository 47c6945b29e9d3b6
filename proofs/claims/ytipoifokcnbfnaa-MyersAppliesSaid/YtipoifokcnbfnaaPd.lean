/- Cells of edits; a rune as a text. -/
import Derived.Test.YtipoifokcnbfnaaPc
import Derived.Test.YtipoifokcnbfnaaKn
import Derived.Laws.Runes
import Derived.Laws.Concat
namespace Go.Proofs.Ytipoifokcnbfnaa
open Go.RowKit
set_option linter.unusedVariables false

theorem encode_enc (r : Int) (h : may r = true) : Utf8.encode r = ⟨(enc r).toArray⟩ := by
  have hm := (may_iff r).1 h
  have hv : Utf8.valid r = true := by unfold Utf8.valid; simp; omega
  unfold Utf8.encode enc
  simp only [hv, if_true]
  by_cases h1 : r < 128
  · rw [if_pos (by omega), if_pos h1]
  · rw [if_neg (by omega), if_neg h1]
    by_cases h2 : r < 2048
    · rw [if_pos (by omega), if_pos h2]
    · rw [if_neg (by omega), if_neg h2]
      by_cases h3 : r < 65536
      · rw [if_pos (by omega), if_pos h3]
      · rw [if_neg (by omega), if_neg h3]
theorem rune_text (r : Int) (h : may r = true) (w : World) : (convert 21 9 (.int .i32 r)).run Try.prog w = .ok (.string ⟨(enc r).toArray⟩) w := by
  rw [run_convert_int_string w 21 9 .i32 r (by rw [Try.underlying21]; rfl) Try.underlying9, encode_enc r h]
theorem ed_cells {t : TypeId} {w : World} {base g l c k : Nat} {E : List Ed} {x : Ed} (hk : E[k]? = some x) (h : edR.row t base E (.slice (some ⟨g, 0, none⟩) l c) w) :
    w.cell? ⟨g, k * 3, none⟩ = some (.int .i64 x.1) ∧ w.cell? ⟨g, k * 3 + 1, none⟩ = some (.int .i64 x.2.1) ∧ w.cell? ⟨g, k * 3 + 2, none⟩ = some (.string ⟨x.2.2.toArray⟩) := by
  have hat := h.at hk
  have h0 := aggAt_get (j := 0) hat.1 (by decide)
  have h1 := aggAt_get (j := 1) hat.1 (by decide)
  have h2 := aggAt_get (j := 2) hat.1 (by decide)
  rw [hat.2] at h0 h1 h2
  exact ⟨by simpa [edR, edB] using h0, by simpa [edR, edB] using h1, by simpa [edR, edB] using h2⟩
theorem ed_set0 {t : TypeId} {w : World} {base g l c k : Nat} {E : List Ed} {x : Ed} (n : Int) (hk : E[k]? = some x) (h : edR.row t base E (.slice (some ⟨g, 0, none⟩) l c) w) :
    edR.row t base (E.set k (n, x.2.1, x.2.2)) (.slice (some ⟨g, 0, none⟩) l c) (w.setCell ⟨g, k * 3, none⟩ (.int .i64 n)) ∧ Below base w (w.setCell ⟨g, k * 3, none⟩ (.int .i64 n)) :=
  row_field (R := edR) (f := 0) (x' := (n, x.2.1, x.2.2)) (u := .int .i64 n) hk trivial (by decide) rfl h
theorem ed_set1 {t : TypeId} {w : World} {base g l c k : Nat} {E : List Ed} {x : Ed} (n : Int) (hk : E[k]? = some x) (h : edR.row t base E (.slice (some ⟨g, 0, none⟩) l c) w) :
    edR.row t base (E.set k (x.1, n, x.2.2)) (.slice (some ⟨g, 0, none⟩) l c) (w.setCell ⟨g, k * 3 + 1, none⟩ (.int .i64 n)) ∧ Below base w (w.setCell ⟨g, k * 3 + 1, none⟩ (.int .i64 n)) :=
  row_field (R := edR) (f := 1) (x' := (x.1, n, x.2.2)) (u := .int .i64 n) hk trivial (by decide) rfl h
theorem ed_set2 {t : TypeId} {w : World} {base g l c k : Nat} {E : List Ed} {x : Ed} (s : List UInt8) (hk : E[k]? = some x) (h : edR.row t base E (.slice (some ⟨g, 0, none⟩) l c) w) :
    edR.row t base (E.set k (x.1, x.2.1, s)) (.slice (some ⟨g, 0, none⟩) l c) (w.setCell ⟨g, k * 3 + 2, none⟩ (.string ⟨s.toArray⟩)) ∧ Below base w (w.setCell ⟨g, k * 3 + 2, none⟩ (.string ⟨s.toArray⟩)) :=
  row_field (R := edR) (f := 2) (x' := (x.1, x.2.1, s)) (u := .string ⟨s.toArray⟩) hk trivial (by decide) rfl h
theorem str_app (a b : List UInt8) : (⟨a.toArray⟩ : ByteArray) ++ ⟨b.toArray⟩ = ⟨(a ++ b).toArray⟩ := by
  apply ByteArray.ext
  simp
theorem add_bytes (a b : List UInt8) (h : a.length + b.length ≤ 9223372036854775807) (w : World) : (Op.stringOp .add ⟨a.toArray⟩ ⟨b.toArray⟩).run Try.prog w = .ok (.string ⟨(a ++ b).toArray⟩) w := by
  rw [← str_app]
  exact run_string_add_sum w _ _ (by show a.toArray.size + b.toArray.size ≤ _; simpa using h)
/-- Runes of a text, as a slice. -/
theorem runes_in {s : ByteArray} {w w' : World} {v : Value} (h : w'.ownsRow w.heap.size 21 1 v (runesL s.data.toList).length ((runesL s.data.toList).map (Value.int .i32))) :
    ∃ a c, v = .slice a (runesL s.data.toList).length c ∧ (numR .i32).In w' a (runesL s.data.toList) := by
  have hr : (numR .i32).row 21 w.heap.size (runesL s.data.toList) v w' := by
    refine ⟨fun _ _ => trivial, ?_⟩
    have e : (numR .i32).cells (runesL s.data.toList) = (runesL s.data.toList).map (Value.int .i32) := by
      generalize runesL s.data.toList = l
      induction l with
      | nil => rfl
      | cons x l ih => rw [Rec.cells_cons, ih]; rfl
    rw [e]; exact h
  obtain ⟨a, c, h1, _, _, h2, _⟩ := hr.sl
  exact ⟨a, c, h1, h2⟩
theorem runesL_good (l : List UInt8) : Good (runesL l) := by
  unfold runesL
  split
  · exact (parse_parsed l).good
  · intro x hx; cases hx
theorem runesL_le (l : List UInt8) : (runesL l).length ≤ l.length := by
  unfold runesL
  split
  · have h1 := congrArg List.length (parse_parsed l).eq
    have := encs_len (parse l).1
    simp at h1; omega
  · simp
end Go.Proofs.Ytipoifokcnbfnaa
