/- The script, in plain Lean. -/
import Derived.Test.YtipoifokcnbfnaaPa
namespace Go.Proofs.Ytipoifokcnbfnaa
set_option linter.unusedVariables false

/-- The script: 1 keep, 2 drop, 3 add. -/
def script : List Int → List Int → List Int
  | [], [] => []
  | [], _ :: y => 3 :: script [] y
  | _ :: x, [] => 2 :: script x []
  | u :: x, v :: y => if u = v then 1 :: script x y else if cst x (v :: y) ≤ cst (u :: x) y then 2 :: script x (v :: y) else 3 :: script (u :: x) y
termination_by x y => x.length + y.length
theorem script_nil : script [] [] = [] := by rw [script]
theorem script_add (v : Int) (y : List Int) : script [] (v :: y) = 3 :: script [] y := by rw [script]
theorem script_drop (u : Int) (x : List Int) : script (u :: x) [] = 2 :: script x [] := by rw [script]
theorem script_keep (u : Int) (x y : List Int) : script (u :: x) (u :: y) = 1 :: script x y := by rw [script]; simp
theorem script_ne (u v : Int) (x y : List Int) (h : u ≠ v) : script (u :: x) (v :: y) = if cst x (v :: y) ≤ cst (u :: x) y then 2 :: script x (v :: y) else 3 :: script (u :: x) y := by rw [script, if_neg h]
def SC (a b : List Int) (i j : Nat) : List Int := script (a.drop i) (b.drop j)
theorem SC_end (a b : List Int) : SC a b a.length b.length = [] := by unfold SC; rw [List.drop_length, List.drop_length, script_nil]
theorem SC_keep (a b : List Int) (i j : Nat) (hi : i < a.length) (hj : j < b.length) (h : a.getD i 0 = b.getD j 0) : SC a b i j = 1 :: SC a b (i + 1) (j + 1) := by
  unfold SC; rw [drop_cons a i hi, drop_cons b j hj, h, script_keep]
theorem SC_drop (a b : List Int) (i j : Nat) (hi : i < a.length) (h : j = b.length ∨ (j < b.length ∧ a.getD i 0 ≠ b.getD j 0 ∧ C a b (i + 1) j + 1 = C a b i j)) : SC a b i j = 2 :: SC a b (i + 1) j := by
  rcases h with h | ⟨hj, hne, hc⟩
  · subst h
    unfold SC; rw [drop_cons a i hi, List.drop_length, script_drop]
  · have h1 := C_ne a b i j hi hj hne
    have h2 : C a b (i + 1) j ≤ C a b i (j + 1) := by omega
    unfold C at h2
    unfold SC
    rw [drop_cons a i hi] at h2 ⊢
    rw [drop_cons b j hj] at h2 ⊢
    rw [script_ne _ _ _ _ hne, if_pos h2]
theorem SC_add (a b : List Int) (i j : Nat) (hi : i ≤ a.length) (hj : j < b.length) (h : i = a.length ∨ (i < a.length ∧ a.getD i 0 ≠ b.getD j 0 ∧ C a b (i + 1) j + 1 ≠ C a b i j)) : SC a b i j = 3 :: SC a b i (j + 1) ∧ C a b i (j + 1) + 1 = C a b i j := by
  rcases h with h | ⟨hi', hne, hc⟩
  · subst h
    refine ⟨?_, by rw [C_n, C_n]; omega⟩
    unfold SC; rw [drop_cons b j hj, List.drop_length, script_add]
  · have h1 := C_ne a b i j hi' hj hne
    refine ⟨?_, by omega⟩
    have h2 : ¬ C a b (i + 1) j ≤ C a b i (j + 1) := by omega
    unfold C at h2
    unfold SC
    rw [drop_cons a i hi'] at h2 ⊢
    rw [drop_cons b j hj] at h2 ⊢
    rw [script_ne _ _ _ _ hne, if_neg h2]
theorem script_len : ∀ n, ∀ x y : List Int, x.length + y.length = n → (script x y).length ≤ x.length + y.length := by
  intro n
  induction n using Nat.strongRecOn with
  | ind n ih =>
    intro x y hn
    cases x with
    | nil =>
      cases y with
      | nil => simp [script_nil]
      | cons v y => rw [script_add]; simp only [List.length_cons] at hn ⊢; have := ih (0 + y.length) (by simp at hn; omega) [] y (by simp); simp at this ⊢; omega
    | cons u x =>
      cases y with
      | nil => rw [script_drop]; simp only [List.length_cons] at hn ⊢; have := ih x.length (by simp at hn; omega) x [] (by simp); simp at this ⊢; omega
      | cons v y =>
        simp only [List.length_cons] at hn ⊢
        by_cases h : u = v
        · subst h; rw [script_keep]; have := ih (x.length + y.length) (by omega) x y rfl; simp; omega
        · rw [script_ne _ _ _ _ h]
          split
          · have := ih (x.length + (y.length + 1)) (by omega) x (v :: y) (by simp); simp at this ⊢; omega
          · have := ih (x.length + 1 + y.length) (by omega) (u :: x) y (by simp); simp at this ⊢; omega
/-- What 'least' says at a place that is not the same on both sides: does dropping cost no more? -/
theorem drop_iff (a b : List Int) (hn : (a.length : Int) < never) (i j d : Nat) (hi : i < a.length) (hj : j ≤ b.length) (hd : C a b i j = d + 1) (h1 : (i : Int) - j + (d + 1) ≤ C a b 0 0) (h2 : (j : Int) - i + (d + 1) ≤ C a b 0 0) :
    leastL a b d (PL a b d) ((i : Int) + 1 - j) ≤ (i : Int) + 1 ↔ C a b (i + 1) j = d := by
  have hA := (C_A a b i j hi).1
  have := least_iff a b hn d (i + 1) j hi hj (fun h => by omega) (by omega)
  simpa using this
end Go.Proofs.Ytipoifokcnbfnaa
