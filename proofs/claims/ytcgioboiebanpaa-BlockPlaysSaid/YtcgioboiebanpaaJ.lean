/- The order of byte strings; a set's places. Plain. -/
import Derived.Test.YtcgioboiebanpaaE
namespace Go.Proofs.Ytcgioboiebanpaa
open Go.RowKit
set_option linter.unusedVariables false

abbrev cmpB := Lib.compareBytes

theorem cmpB_cons (a b : UInt8) (x y : List UInt8) : cmpB (a :: x) (b :: y) = if a.toNat < b.toNat then -1 else if b.toNat < a.toNat then 1 else cmpB x y := by
  simp only [cmpB, Lib.compareBytes, UInt8.lt_iff_toNat_lt]

theorem cmpB_anti : ∀ x y : List UInt8, cmpB y x = - cmpB x y
  | [], [] => rfl
  | [], _ :: _ => rfl
  | _ :: _, [] => rfl
  | a :: x, b :: y => by
    rw [cmpB_cons, cmpB_cons, cmpB_anti x y]
    generalize cmpB x y = c
    generalize a.toNat = p
    generalize b.toNat = q
    split <;> split <;> omega

theorem cmpB_zero : ∀ x y : List UInt8, cmpB x y = 0 ↔ x = y
  | [], [] => by simp [cmpB, Lib.compareBytes]
  | [], _ :: _ => by simp [cmpB, Lib.compareBytes]
  | _ :: _, [] => by simp [cmpB, Lib.compareBytes]
  | a :: x, b :: y => by
    have ih := cmpB_zero x y
    have h3 := UInt8.toNat_inj (a := a) (b := b)
    rw [cmpB_cons, List.cons.injEq, ← ih, ← h3]
    generalize cmpB x y = c
    generalize a.toNat = p
    generalize b.toNat = q
    split
    · omega
    · split <;> omega

theorem cmpB_three : ∀ x y : List UInt8, cmpB x y = -1 ∨ cmpB x y = 0 ∨ cmpB x y = 1
  | [], [] => by simp [cmpB, Lib.compareBytes]
  | [], _ :: _ => by simp [cmpB, Lib.compareBytes]
  | _ :: _, [] => by simp [cmpB, Lib.compareBytes]
  | a :: x, b :: y => by
    rw [cmpB_cons]
    have := cmpB_three x y
    split
    · simp
    · split
      · simp
      · exact this

theorem cmpB_trans : ∀ x y z : List UInt8, cmpB x y ≤ 0 → cmpB y z ≤ 0 → cmpB x z ≤ 0 ∧ (cmpB x y < 0 ∨ cmpB y z < 0 → cmpB x z < 0)
  | [], [], [], _, _ => by simp [cmpB, Lib.compareBytes]
  | [], [], _ :: _, _, _ => by simp [cmpB, Lib.compareBytes]
  | [], _ :: _, [], _, h => by simp [cmpB, Lib.compareBytes] at h
  | [], _ :: _, _ :: _, _, _ => by simp [cmpB, Lib.compareBytes]
  | _ :: _, [], _, h, _ => by simp [cmpB, Lib.compareBytes] at h
  | _ :: _, _ :: _, [], _, h => by simp [cmpB, Lib.compareBytes] at h
  | a :: x, b :: y, c :: z, h1, h2 => by
    have ih := cmpB_trans x y z
    have hi := cmpB_three x y
    have hj := cmpB_three y z
    have hk := cmpB_three x z
    rw [cmpB_cons] at h1 h2 ⊢
    rw [cmpB_cons, cmpB_cons]
    generalize cmpB x y = c1 at *
    generalize cmpB y z = c2 at *
    generalize cmpB x z = c3 at *
    generalize a.toNat = p at *
    generalize b.toNat = q at *
    generalize c.toNat = r at *
    by_cases e1 : p < q
    · by_cases e2 : q < r
      · rw [if_pos (by omega : p < r)]; omega
      · by_cases e3 : r < q
        · simp [e2, e3] at h2
        · rw [if_pos (by omega : p < r)]; omega
    · by_cases e4 : q < p
      · simp [e1, e4] at h1
      · by_cases e2 : q < r
        · rw [if_pos (by omega : p < r)]; omega
        · by_cases e3 : r < q
          · simp [e2, e3] at h2
          · simp only [e1, e4, e2, e3, if_false] at h1 h2 ⊢
            rw [if_neg (by omega), if_neg (by omega)]
            exact ih h1 h2

/-- How many of a set stand ahead of an id. -/
def placeN (x : List UInt8) : List (List UInt8) → Nat
  | [] => 0
  | a :: l => if cmpB a x < 0 then placeN x l + 1 else 0

theorem placeN_eq (x : List UInt8) : ∀ (l : List (List UInt8)) (k : Nat), k ≤ l.length → (∀ j, j < k → cmpB (l.getD j []) x < 0) → (k < l.length → 0 ≤ cmpB (l.getD k []) x) → placeN x l = k
  | [], k, h, _, _ => by simp at h; simp [placeN, h]
  | a :: l, 0, h, _, h3 => by
    have := h3 (by simp)
    simp at this
    rw [placeN, if_neg (by simpa using this)]
  | a :: l, k + 1, h, h2, h3 => by
    have h0 := h2 0 (by omega)
    simp only [List.getD_cons_zero] at h0
    rw [placeN, if_pos h0, placeN_eq x l k (by simpa using h) (fun j hj => by have := h2 (j + 1) (by omega); simpa using this) (fun hk => by have := h3 (by simpa using hk); simpa using this)]

end Go.Proofs.Ytcgioboiebanpaa
