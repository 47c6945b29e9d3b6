/- The reference's Match: the best free pair, again and again; the same list as the greedy choice. -/
import Derived.Test.YtkapidcgonjbaaaPe
namespace Go.Proofs.Ytkapidcgonjbaaa
open Go.RowKit
set_option linter.unusedVariables false

/-- Neither its row nor its column is told yet. -/
def freeP (out : List (Int × Int)) (p : Pr) : Bool := out.all fun o => !(o.1 == p.1) && !(o.2 == p.2.1)
/-- The greedy choice, told by the list alone. -/
def greedy : List Pr → List (Int × Int) → List (Int × Int)
  | [], out => out
  | p :: L, out => if freeP out p = true then greedy L (out ++ [(p.1, p.2.1)]) else greedy L out
theorem greedy_cons (p : Pr) (L : List Pr) (out : List (Int × Int)) : greedy (p :: L) out = if freeP out p = true then greedy L (out ++ [(p.1, p.2.1)]) else greedy L out := rfl
theorem freeP_app (out : List (Int × Int)) (o : Int × Int) (p : Pr) : freeP (out ++ [o]) p = (freeP out p && (!(o.1 == p.1) && !(o.2 == p.2.1))) := by
  simp [freeP, List.all_append]
/-- The marks tell what is free. -/
def MarksOk (n c : Nat) (s : List Bool × List Bool × List (Int × Int)) : Prop :=
  s.1.length = n ∧ s.2.1.length = c ∧ (∀ i, i < n → s.1.getD i false = s.2.2.any fun o => o.1 == (i : Int)) ∧ (∀ k, k < c → s.2.1.getD k false = s.2.2.any fun o => o.2 == (k : Int))
theorem getD_set_ne (R : List Bool) (i k : Nat) (h : i ≠ k) : (R.set i true).getD k false = R.getD k false := by
  simp [List.getD_eq_getElem?_getD, List.getElem?_set_ne h]
theorem MarksOk.free {n c : Nat} {s : List Bool × List Bool × List (Int × Int)} (h : MarksOk n c s) (p : Pr) (i k : Nat) (e1 : p.1 = i) (e2 : p.2.1 = k) (hi : i < n) (hk : k < c) :
    freeP s.2.2 p = true ↔ s.1.getD p.1.toNat false = false ∧ s.2.1.getD p.2.1.toNat false = false := by
  rw [e1, e2, Int.toNat_natCast, Int.toNat_natCast, h.2.2.1 i hi, h.2.2.2 k hk]
  unfold freeP
  rw [e1, e2]
  simp only [List.all_eq_true, Bool.and_eq_true, Bool.not_eq_true', List.any_eq_false]
  constructor
  · intro h; exact ⟨fun o ho => by rw [(h o ho).1]; decide, fun o ho => by rw [(h o ho).2]; decide⟩
  · intro h o ho; exact ⟨by simpa using h.1 o ho, by simpa using h.2 o ho⟩
theorem MarksOk.step {n c : Nat} {s : List Bool × List Bool × List (Int × Int)} (h : MarksOk n c s) (p : Pr) (i k : Nat) (e1 : p.1 = i) (e2 : p.2.1 = k) (hi : i < n) (hk : k < c) : MarksOk n c (gStep s p) := by
  unfold gStep
  split
  · rw [e1, e2, Int.toNat_natCast, Int.toNat_natCast]
    refine ⟨by rw [List.length_set]; exact h.1, by rw [List.length_set]; exact h.2.1, fun j hj => ?_, fun j hj => ?_⟩
    · rw [List.any_append]
      by_cases hij : i = j
      · subst hij
        rw [getD_set_self _ _ (by rw [h.1]; exact hi)]; simp
      · rw [getD_set_ne _ _ _ hij, h.2.2.1 j hj]
        have : ((i : Int) == (j : Int)) = false := beq_eq_false_iff_ne.2 (by omega)
        simp [this]
    · rw [List.any_append]
      by_cases hij : k = j
      · subst hij
        rw [getD_set_self _ _ (by rw [h.2.1]; exact hk)]; simp
      · rw [getD_set_ne _ _ _ hij, h.2.2.2 j hj]
        have : ((k : Int) == (j : Int)) = false := beq_eq_false_iff_ne.2 (by omega)
        simp [this]
  · exact h
theorem fold_greedy (n c : Nat) : ∀ (L : List Pr) (s : List Bool × List Bool × List (Int × Int)), MarksOk n c s → (∀ p ∈ L, ∃ i k : Nat, p.1 = i ∧ p.2.1 = k ∧ i < n ∧ k < c) → (L.foldl gStep s).2.2 = greedy L s.2.2
  | [], s, _, _ => rfl
  | p :: L, s, h, hL => by
    obtain ⟨i, k, e1, e2, hi, hk⟩ := hL p (by simp)
    rw [List.foldl_cons, fold_greedy n c L (gStep s p) (h.step p i k e1 e2 hi hk) (fun q hq => hL q (by simp [hq]))]
    have hf := h.free p i k e1 e2 hi hk
    rw [greedy_cons]
    unfold gStep
    by_cases hfr : freeP s.2.2 p = true
    · rw [if_pos (hf.1 hfr), if_pos hfr]
    · rw [if_neg (fun h => hfr (hf.2 h)), if_neg hfr]
theorem matchL_greedy (rows : List (List Nat)) (least : Nat) : matchL rows least = greedy (sortPs (allPs least rows rows.length)) [] := by
  unfold matchL gRun
  refine fold_greedy rows.length (colsOf rows rows.length) _ _ ⟨by simp, by simp, fun i hi => by simp [List.getD_eq_getElem?_getD, hi], fun k hk => by simp [List.getD_eq_getElem?_getD, hk]⟩ (fun p hp => ?_)
  exact allPs_mem least rows p ((List.mergeSort_perm _ _).mem_iff.1 hp)

/-! ### The best free pair, again and again -/
/-- One pair looked at: is it the best so far? -/
def best1 (out : List (Int × Int)) (b : Option Pr) (p : Pr) : Option Pr := if freeP out p = true then (match b with | none => some p | some q => if 0 < fOrd p.2.2 q.2.2 then some p else some q) else b
def bestOf (PS : List Pr) (out : List (Int × Int)) : Option Pr := PS.foldl (best1 out) none
def refRun (PS : List Pr) : Nat → List (Int × Int) → List (Int × Int)
  | 0, out => out
  | n + 1, out => match bestOf PS out with | none => out | some p => refRun PS n (out ++ [(p.1, p.2.1)])
/-- Where nothing ahead is free, the first free one is next. -/
theorem greedy_find (L : List Pr) : ∀ out, greedy L out = match L.find? (freeP out) with | none => out | some p => greedy L (out ++ [(p.1, p.2.1)]) := by
  induction L with
  | nil => intro out; rfl
  | cons p L ih =>
    intro out
    by_cases h : freeP out p = true
    · rw [List.find?_cons_of_pos h]
      have hn : freeP (out ++ [(p.1, p.2.1)]) p = false := by rw [freeP_app]; simp
      rw [greedy_cons, if_pos h]
      simp only [greedy_cons]
      rw [if_neg (by rw [hn]; decide)]
    · rw [List.find?_cons_of_neg h]
      rw [greedy_cons, if_neg h, ih out]
      cases hf : L.find? (freeP out) with
      | none => rfl
      | some q =>
        simp only
        have hn : ¬ freeP (out ++ [(q.1, q.2.1)]) p = true := by rw [freeP_app]; intro h'; simp only [Bool.and_eq_true] at h'; exact h h'.1
        rw [greedy_cons, if_neg hn]
end Go.Proofs.Ytkapidcgonjbaaa
