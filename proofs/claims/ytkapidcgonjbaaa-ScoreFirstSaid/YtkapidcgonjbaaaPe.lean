/- What Match's choice is like, in plain Lean. -/
import Derived.Test.YtkapidcgonjbaaaPb
namespace Go.Proofs.Ytkapidcgonjbaaa
open Go.RowKit
set_option linter.unusedVariables false

/-- What is told: out of the list; its row and its column are marked; no row, no column twice. -/
def GOk (L : List Pr) (s : List Bool × List Bool × List (Int × Int)) : Prop :=
  (∀ o ∈ s.2.2, (∃ p ∈ L, o = (p.1, p.2.1)) ∧ s.1.getD o.1.toNat false = true ∧ s.2.1.getD o.2.toNat false = true) ∧
  s.2.2.Pairwise fun o o' => o.1 ≠ o'.1 ∧ o.2 ≠ o'.2
theorem getD_set_true (R : List Bool) (i k : Nat) (h : R.getD k false = true) : (R.set i true).getD k false = true := by
  simp only [List.getD_eq_getElem?_getD] at *
  by_cases hik : i = k
  · subst hik
    have hl : i < R.length := by
      apply Classical.byContradiction
      intro hn
      rw [List.getElem?_eq_none (by omega)] at h
      simp at h
    simp [hl]
  · rw [List.getElem?_set_ne hik]; exact h
theorem getD_set_self (R : List Bool) (i : Nat) (h : i < R.length) : (R.set i true).getD i false = true := by
  simp [List.getD_eq_getElem?_getD, h]
theorem GOk.step {L : List Pr} {s : List Bool × List Bool × List (Int × Int)} (h : GOk L s) (p : Pr) (hp : p ∈ L) (h1 : p.1.toNat < s.1.length) (h2 : p.2.1.toNat < s.2.1.length) : GOk L (gStep s p) := by
  unfold gStep
  split
  · rename_i hf
    refine ⟨fun o ho => ?_, ?_⟩
    · rcases List.mem_append.1 ho with ho | ho
      · obtain ⟨e, m1, m2⟩ := h.1 o ho
        exact ⟨e, getD_set_true _ _ _ m1, getD_set_true _ _ _ m2⟩
      · rw [List.mem_singleton] at ho
        subst ho
        exact ⟨⟨p, hp, rfl⟩, getD_set_self _ _ h1, getD_set_self _ _ h2⟩
    · rw [List.pairwise_append]
      refine ⟨h.2, List.pairwise_singleton _ _, fun o ho o' ho' => ?_⟩
      rw [List.mem_singleton] at ho'
      subst ho'
      obtain ⟨_, m1, m2⟩ := h.1 o ho
      refine ⟨fun e => ?_, fun e => ?_⟩
      · rw [e, hf.1] at m1; cases m1
      · rw [e, hf.2] at m2; cases m2
  · exact h
theorem GOk.fold {L : List Pr} {n c : Nat} : ∀ (T : List Pr) (s : List Bool × List Bool × List (Int × Int)), s.1.length = n → s.2.1.length = c → GOk L s → (∀ p ∈ T, p ∈ L ∧ p.1.toNat < n ∧ p.2.1.toNat < c) → GOk L (T.foldl gStep s)
  | [], s, _, _, h, _ => h
  | p :: T, s, h1, h2, h, hT => by
    rw [List.foldl_cons]
    obtain ⟨a, b, c'⟩ := hT p (by simp)
    have hl := gStep_len s p
    exact GOk.fold T _ (hl.1.trans h1) (hl.2.1.trans h2) (h.step p a (by rw [h1]; exact b) (by rw [h2]; exact c')) (fun q hq => hT q (by simp [hq]))
theorem gRun_ok (n c : Nat) (L : List Pr) (hL : ∀ p ∈ L, p.1.toNat < n ∧ p.2.1.toNat < c) : GOk L (gRun n c L) :=
  GOk.fold (n := n) (c := c) L _ (by simp) (by simp) ⟨fun o ho => (by cases ho), List.Pairwise.nil⟩ (fun p hp => ⟨hp, hL p hp⟩)

/-- A pair that is listed: its number stands there, is one, and does not stand ahead of the least. -/
theorem allPs_told (least : Nat) (rows : List (List Nat)) (p : Pr) (hp : p ∈ allPs least rows rows.length) :
    ∃ i k : Nat, p.1 = i ∧ p.2.1 = k ∧ ∃ r, rows[i]? = some r ∧ k < r.length ∧ p.2.2 = r.getD k 0 ∧ isN (r.getD k 0) = false ∧ 0 ≤ fOrd (r.getD k 0) least := by
  unfold allPs at hp
  obtain ⟨i, hi, hp⟩ := List.mem_flatMap.1 hp
  have hi' := List.mem_range.1 hi
  unfold rowPs at hp
  obtain ⟨k, hk, hp⟩ := List.mem_filterMap.1 hp
  have hk' := List.mem_range.1 hk
  split at hp
  · rename_i ht
    cases hp
    have hr : rows[i]? = some (rows.getD i []) := by rw [List.getD_eq_getElem?_getD, List.getElem?_eq_getElem hi']; rfl
    unfold tells at ht
    simp only [Bool.and_eq_true, Bool.not_eq_true', decide_eq_true_eq] at ht
    exact ⟨i, k, rfl, rfl, _, hr, hk', rfl, ht.1, ht.2.2⟩
  · cases hp
/-- What Match tells: each pair stands in the rows and is not ahead of the least; no row, no column twice. -/
theorem matchL_ok (rows : List (List Nat)) (least : Nat) :
    (∀ o ∈ matchL rows least, ∃ i k : Nat, o = ((i : Int), (k : Int)) ∧ ∃ r, rows[i]? = some r ∧ k < r.length ∧ isN (r.getD k 0) = false ∧ 0 ≤ fOrd (r.getD k 0) least) ∧
    (matchL rows least).Pairwise fun o o' => o.1 ≠ o'.1 ∧ o.2 ≠ o'.2 := by
  have hperm : ∀ p, p ∈ sortPs (allPs least rows rows.length) ↔ p ∈ allPs least rows rows.length := fun p => (List.mergeSort_perm _ _).mem_iff
  have h := gRun_ok rows.length (colsOf rows rows.length) (sortPs (allPs least rows rows.length)) (fun p hp => by
    obtain ⟨i, k, e1, e2, h1, h2⟩ := allPs_mem least rows p ((hperm p).1 hp)
    rw [e1, e2]; simp; omega)
  refine ⟨fun o ho => ?_, h.2⟩
  obtain ⟨⟨p, hp, rfl⟩, _⟩ := h.1 o ho
  obtain ⟨i, k, e1, e2, r, h1, h2, _, h4, h5⟩ := allPs_told least rows p ((hperm p).1 hp)
  exact ⟨i, k, by rw [e1, e2], r, h1, h2, h4, h5⟩
end Go.Proofs.Ytkapidcgonjbaaa
