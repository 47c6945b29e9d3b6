/- Elements listed the other way round: plain Lean. -/
import Derived.Test.YtchbpfkjhilgiaaPc
namespace Go.Proofs.Ytchbpfkjhilgiaa
set_option linter.unusedVariables false

def turnP (n : Nat) (p : Int) : Int := if 0 ≤ p ∧ p < n then (n : Int) - 1 - p else p
def turnX (n : Nat) (x : Nd) : Nd := (x.1, turnP n x.2.1, x.2.2)
/-- The elements the other way round, the first ones. -/
def turnT (l : List Nd) (k : Nat) : List Nd := (List.range k).map fun i => turnX l.length (l.getD (l.length - 1 - i) nd0)
def turnN (l : List Nd) : List Nd := turnT l l.length
theorem turnT_succ (l : List Nd) (k : Nat) : turnT l (k + 1) = turnT l k ++ [turnX l.length (l.getD (l.length - 1 - k) nd0)] := by unfold turnT; rw [List.range_succ, List.map_append]; rfl
theorem turnN_len (l : List Nd) : (turnN l).length = l.length := by simp [turnN, turnT]
theorem turnN_get {l : List Nd} {i : Nat} (h : i < l.length) : (turnN l).getD i nd0 = turnX l.length (l.getD (l.length - 1 - i) nd0) := by
  unfold turnN turnT; simp [List.getD_eq_getElem?_getD, h]
theorem turnP_turn (n : Nat) (p : Int) : turnP n (turnP n p) = p := by
  unfold turnP
  by_cases h : 0 ≤ p ∧ p < n
  · rw [if_pos h, if_pos (by omega)]; omega
  · rw [if_neg h, if_neg h]
theorem turn_turn (l : List Nd) : turnN (turnN l) = l := by
  apply List.ext_getElem?
  intro i
  by_cases h : i < l.length
  · have h1 : i < (turnN (turnN l)).length := by rw [turnN_len, turnN_len]; exact h
    have e1 : (turnN (turnN l))[i]? = some ((turnN (turnN l)).getD i nd0) := by simp [List.getD_eq_getElem?_getD, h1]
    have e2 : l[i]? = some (l.getD i nd0) := by simp [List.getD_eq_getElem?_getD, h]
    rw [e1, e2, turnN_get (by rw [turnN_len]; exact h), turnN_len, turnN_get (by omega), show l.length - 1 - (l.length - 1 - i) = i by omega]
    unfold turnX
    simp only [turnP_turn]
  · rw [List.getElem?_eq_none (by rw [turnN_len, turnN_len]; omega), List.getElem?_eq_none (by omega)]
theorem turn_key {l : List Nd} {i : Nat} (h : i < l.length) : keyN (turnN l) i = keyN l (l.length - 1 - i) := by unfold keyN; rw [turnN_get h]; rfl
theorem turn_par {l : List Nd} {i : Nat} (h : i < l.length) : parN (turnN l) i = turnP l.length (parN l (l.length - 1 - i)) := by unfold parN; rw [turnN_get h]; rfl
theorem turn_rune {l : List Nd} {i : Nat} (h : i < l.length) : runeN (turnN l) i = runeN l (l.length - 1 - i) := by unfold runeN; rw [turnN_get h]; rfl
theorem turn_dead {l : List Nd} {i : Nat} (h : i < l.length) : deadN (turnN l) i = deadN l (l.length - 1 - i) := by unfold deadN; rw [turnN_get h]; rfl
theorem turn_right {l : List Nd} (h : RightL l) : RightL (turnN l) := by
  refine ⟨fun i hi => ?_, fun i j hij hj => ?_⟩
  · rw [turnN_len] at hi
    obtain ⟨h1, h2, h3, h4⟩ := h.1 (l.length - 1 - i) (by omega)
    unfold okN
    rw [turn_rune hi, turn_par hi, turnN_len, turn_key hi]
    unfold turnP
    by_cases hp : 0 ≤ parN l (l.length - 1 - i)
    · rw [if_pos ⟨hp, h3⟩]
      refine ⟨h1, by omega, by omega, fun _ => ?_⟩
      rw [turn_key (by omega)]
      have e : l.length - 1 - ((l.length : Int) - 1 - parN l (l.length - 1 - i)).toNat = (parN l (l.length - 1 - i)).toNat := by omega
      rw [e]
      exact h4 hp
    · rw [if_neg (by omega)]
      exact ⟨h1, h2, h3, fun h => absurd h hp⟩
  · rw [turnN_len] at hj
    rw [turn_key (by omega), turn_key hj]
    exact (h.2 (l.length - 1 - j) (l.length - 1 - i) (by omega) (by omega)).symm
theorem turn_iff (l : List Nd) : RightL (turnN l) ↔ RightL l := ⟨fun h => by have := turn_right h; rwa [turn_turn] at this, turn_right⟩
theorem turn_part {l : List Nd} (h : RightL l) : Forest.Part (forest l) (forest (turnN l)) fun i => some (l.length - 1 - i) where
  lt := by
    intro i hi j hj
    cases hj
    have hi' : i < l.length := hi
    show l.length - 1 - i < (turnN l).length
    rw [turnN_len]; omega
  onto := by
    intro j hj
    have hj' : j < l.length := by have : j < (turnN l).length := hj; rwa [turnN_len] at this
    exact ⟨l.length - 1 - j, by show _ < l.length; omega, by simp only [Option.some.injEq]; omega⟩
  inj := by
    intro i i' j hi hi' h1 h2
    have hi1 : i < l.length := hi
    have hi2 : i' < l.length := hi'
    simp only [Option.some.injEq] at h1 h2
    omega
  root := by
    intro i j hi hj hp
    have hi' : i < l.length := hi
    cases hj
    simp only [forest] at hp ⊢
    split at hp
    · rename_i hneg
      rw [turn_par (by omega), show l.length - 1 - (l.length - 1 - i) = i by omega]
      have e : turnP l.length (parN l i) = parN l i := by unfold turnP; rw [if_neg (by omega)]
      rw [e, if_pos hneg]
    · cases hp
  par := by
    intro i j hi hj p hp
    have hi' : i < l.length := hi
    cases hj
    obtain ⟨_, h2, h3, _⟩ := h.1 i hi'
    simp only [forest] at hp ⊢
    split at hp
    · cases hp
    · simp only [Option.some.injEq] at hp
      subst hp
      refine ⟨_, rfl, ?_⟩
      rw [turn_par (by omega), show l.length - 1 - (l.length - 1 - i) = i by omega]
      have e : turnP l.length (parN l i) = (l.length : Int) - 1 - parN l i := by unfold turnP; rw [if_pos (by omega)]
      rw [e, if_neg (by omega)]
      simp only [Option.some.injEq]
      omega
  kc := by
    intro i i' j j' hi hi' hj hj'
    have hi1 : i < l.length := hi
    have hi2 : i' < l.length := hi'
    cases hj
    cases hj'
    show kCmp _ _ = kCmp _ _
    rw [turn_key (by omega), turn_key (by omega), show l.length - 1 - (l.length - 1 - i) = i by omega, show l.length - 1 - (l.length - 1 - i') = i' by omega]
theorem turn_live (l : List Nd) : liveN (turnN l) = liveN l := by
  by_cases h : RightL l
  · have ht := turn_right h
    have ho : ordN (turnN l) = (ordN l).map fun i => l.length - 1 - i := by
      unfold ordN
      rw [if_pos ht, if_pos h, (turn_part h).ord h.ok ht.ok, ← List.filterMap_eq_map]
      rfl
    unfold liveN
    rw [ho, List.filter_map, List.map_map]
    have hf : (ordN l).filter ((fun i => !deadN (turnN l) i) ∘ fun i => l.length - 1 - i) = (ordN l).filter fun i => !deadN l i := by
      refine List.filter_congr (fun i hi => ?_)
      have := ordN_lt hi
      simp only [Function.comp]
      rw [turn_dead (by omega), show l.length - 1 - (l.length - 1 - i) = i by omega]
    rw [hf]
    refine List.map_congr_left (fun i hi => ?_)
    have := ordN_lt (List.mem_filter.1 hi).1
    simp only [Function.comp]
    rw [turn_rune (by omega), show l.length - 1 - (l.length - 1 - i) = i by omega]
  · have ht : ¬ RightL (turnN l) := fun hh => h ((turn_iff l).1 hh)
    unfold liveN ordN
    rw [if_neg h, if_neg ht]
    rfl
end Go.Proofs.Ytchbpfkjhilgiaa
