/- The best free pair is the first free one of the sorted pairs. -/
import Derived.Test.YtkapidcgonjbaaaPi
namespace Go.Proofs.Ytkapidcgonjbaaa
open Go.RowKit
set_option linter.unusedVariables false

/-- Ahead by its place. -/
def lexP (x y : Pr) : Prop := x.1 < y.1 ∨ (x.1 = y.1 ∧ x.2.1 < y.2.1)
theorem fOrd_pos (x y : Nat) : 0 < fOrd x y ↔ rk y < rk x := by
  unfold fOrd cmpInt; split
  · simp; omega
  · split
    · simp; omega
    · simp; omega
theorem ltP_iff (p q : Pr) : ltP p q = true ↔ rk q.2.2 < rk p.2.2 ∨ (rk q.2.2 = rk p.2.2 ∧ (p.1 < q.1 ∨ (p.1 = q.1 ∧ p.2.1 < q.2.1))) := by
  unfold ltP; rw [decide_eq_true_eq]; exact pCmp_lt p q
/-- The best one of some. -/
def BestIs (PS : List Pr) (out : List (Int × Int)) : Option Pr → Prop
  | none => ∀ q ∈ PS, ¬ freeP out q = true
  | some p => p ∈ PS ∧ freeP out p = true ∧ ∀ q ∈ PS, freeP out q = true → ¬ ltP q p = true
theorem bestOf_snoc (PS : List Pr) (p : Pr) (out : List (Int × Int)) : bestOf (PS ++ [p]) out = best1 out (bestOf PS out) p := by
  unfold bestOf; rw [List.foldl_append]; rfl
theorem bestOf_is (out : List (Int × Int)) : ∀ n, ∀ PS : List Pr, PS.length = n → PS.Pairwise lexP → BestIs PS out (bestOf PS out) := by
  intro n
  induction n with
  | zero => intro PS h _; rw [List.length_eq_zero_iff] at h; subst h; intro q hq; cases hq
  | succ n ih =>
    intro PS h hp
    rcases List.eq_nil_or_concat PS with rfl | ⟨PS, p, rfl⟩
    · simp at h
    rw [List.concat_eq_append] at *
    have h1 := ih PS (by simpa using h) (List.pairwise_append.1 hp).1
    have h2 := (List.pairwise_append.1 hp).2.2
    rw [bestOf_snoc]
    generalize bestOf PS out = b at *
    unfold best1
    by_cases hf : freeP out p = true
    · rw [if_pos hf]
      cases b with
      | none =>
        refine ⟨by simp, hf, fun q hq hqf => ?_⟩
        rcases List.mem_append.1 hq with hq | hq
        · exact absurd hqf (h1 q hq)
        · rw [List.mem_singleton] at hq; subst hq; rw [ltP_iff]; omega
      | some q =>
        obtain ⟨m1, m2, m3⟩ := h1
        have hl := h2 q m1 p (by simp)
        simp only
        split
        · rename_i hlt
          rw [fOrd_pos] at hlt
          refine ⟨by simp, hf, fun r hr hrf => ?_⟩
          rcases List.mem_append.1 hr with hr | hr
          · have := m3 r hr hrf
            rw [ltP_iff] at *; omega
          · rw [List.mem_singleton] at hr; subst hr; rw [ltP_iff]; omega
        · rename_i hlt
          rw [fOrd_pos] at hlt
          refine ⟨by simp [m1], m2, fun r hr hrf => ?_⟩
          rcases List.mem_append.1 hr with hr | hr
          · exact m3 r hr hrf
          · rw [List.mem_singleton] at hr; subst hr
            unfold lexP at hl
            rw [ltP_iff]; omega
    · rw [if_neg hf]
      cases b with
      | none =>
        intro q hq
        rcases List.mem_append.1 hq with hq | hq
        · exact h1 q hq
        · rw [List.mem_singleton] at hq; subst hq; exact hf
      | some q =>
        obtain ⟨m1, m2, m3⟩ := h1
        refine ⟨by simp [m1], m2, fun r hr hrf => ?_⟩
        rcases List.mem_append.1 hr with hr | hr
        · exact m3 r hr hrf
        · rw [List.mem_singleton] at hr; subst hr; exact absurd hrf hf

theorem rowPs_lex (least i : Nat) (r : List Nat) (n : Nat) : (rowPs least i r n).Pairwise lexP ∧ ∀ p ∈ rowPs least i r n, p.1 = (i : Int) ∧ p.2.1 < (n : Int) := by
  induction n with
  | zero => simp [rowPs]
  | succ n ih =>
    rw [rowPs_succ]
    have hm : ∀ p ∈ (if tells least (r.getD n 0) = true then [((i : Int), (n : Int), r.getD n 0)] else []), p = ((i : Int), (n : Int), r.getD n 0) := by
      intro p hp
      split at hp
      · simpa using hp
      · cases hp
    refine ⟨List.pairwise_append.2 ⟨ih.1, ?_, fun x hx y hy => ?_⟩, fun p hp => ?_⟩
    · split
      · exact List.pairwise_singleton _ _
      · exact List.Pairwise.nil
    · rw [hm y hy]
      obtain ⟨e1, e2⟩ := ih.2 x hx
      exact .inr ⟨e1, e2⟩
    · rcases List.mem_append.1 hp with h | h
      · obtain ⟨e1, e2⟩ := ih.2 p h
        exact ⟨e1, by omega⟩
      · rw [hm p h]; exact ⟨rfl, by simp only; omega⟩
theorem allPs_lex (least : Nat) (rows : List (List Nat)) (n : Nat) : (allPs least rows n).Pairwise lexP ∧ ∀ p ∈ allPs least rows n, p.1 < (n : Int) := by
  induction n with
  | zero => simp [allPs]
  | succ n ih =>
    rw [allPs_succ]
    have hr := rowPs_lex least n (rows.getD n []) (rows.getD n []).length
    refine ⟨List.pairwise_append.2 ⟨ih.1, hr.1, fun x hx y hy => .inl ?_⟩, fun p hp => ?_⟩
    · rw [(hr.2 y hy).1]; exact ih.2 x hx
    · rcases List.mem_append.1 hp with h | h
      · have := ih.2 p h; omega
      · rw [(hr.2 p h).1]; omega
/-- Equal, if neither stands ahead. -/
theorem ltP_tot (p q : Pr) (hp : p.2.2 < 18446744073709551616 ∧ isN p.2.2 = false) (hq : q.2.2 < 18446744073709551616 ∧ isN q.2.2 = false) (h1 : ¬ ltP p q = true) (h2 : ¬ ltP q p = true) : p = q := by
  rw [ltP_iff] at h1 h2
  obtain ⟨a, b, c⟩ := p
  obtain ⟨a', b', c'⟩ := q
  simp only at *
  have e2 := rk_inj c c' hp.1 hq.1 hp.2 hq.2 (by omega)
  have e3 : a = a' := by omega
  have e4 : b = b' := by omega
  subst e2 e3 e4
  rfl
theorem sortPs_sorted (PS : List Pr) : (sortPs PS).Pairwise fun x y => ¬ ltP y x = true := by
  have h := List.pairwise_mergeSort (le := fun x y : Pr => !ltP y x) (fun a b c h1 h2 => by
    simp only [Bool.not_eq_true', ← Bool.not_eq_true, ltP_iff] at *; omega) (fun a b => by
    by_cases h : ltP b a = true
    · have h' : ¬ ltP a b = true := by rw [ltP_iff] at *; omega
      simp [h, h']
    · simp [h]) PS
  exact h.imp fun h => by simpa using h
theorem bestOf_find (PS : List Pr) (out : List (Int × Int)) (hl : PS.Pairwise lexP) (hn : ∀ p ∈ PS, p.2.2 < 18446744073709551616 ∧ isN p.2.2 = false) : bestOf PS out = (sortPs PS).find? (freeP out) := by
  have h := bestOf_is out _ PS rfl hl
  have hmem : ∀ p, p ∈ sortPs PS ↔ p ∈ PS := fun p => (List.mergeSort_perm _ _).mem_iff
  generalize bestOf PS out = b at *
  cases b with
  | none =>
    symm
    rw [List.find?_eq_none]
    intro q hq
    exact h q ((hmem q).1 hq)
  | some p =>
    obtain ⟨h1, h2, h3⟩ := h
    cases hf : (sortPs PS).find? (freeP out) with
    | none =>
      rw [List.find?_eq_none] at hf
      exact absurd h2 (hf p ((hmem p).2 h1))
    | some q =>
      obtain ⟨hq, L1, L2, he, hL⟩ := List.find?_eq_some_iff_append.1 hf
      have hqm : q ∈ PS := (hmem q).1 (by rw [he]; simp)
      have hpm : p ∈ L1 ++ q :: L2 := by rw [← he]; exact (hmem p).2 h1
      have hs := sortPs_sorted PS
      rw [he, List.pairwise_append] at hs
      congr 1
      refine ltP_tot p q (hn p h1) (hn q hqm) ?_ (h3 q hqm hq)
      rcases List.mem_append.1 hpm with hp | hp
      · have := hL p hp; rw [h2] at this; cases this
      · rcases List.mem_cons.1 hp with rfl | hp
        · rw [ltP_iff]; omega
        · exact (List.pairwise_cons.1 hs.2.1).1 p hp
/-- One round of the reference: the best free pair, or none. -/
theorem greedy_round (rows : List (List Nat)) (least : Nat) (out : List (Int × Int)) (hn : ∀ r ∈ rows, ∀ x ∈ r, x < 18446744073709551616) :
    greedy (sortPs (allPs least rows rows.length)) out = match bestOf (allPs least rows rows.length) out with | none => out | some p => greedy (sortPs (allPs least rows rows.length)) (out ++ [(p.1, p.2.1)]) := by
  have hnum : ∀ p ∈ allPs least rows rows.length, p.2.2 < 18446744073709551616 ∧ isN p.2.2 = false := by
    intro p hp
    obtain ⟨i, k, e1, e2, r, h1, h2, h3, h4, h5⟩ := allPs_told least rows p hp
    rw [h3]
    refine ⟨hn r (List.mem_of_getElem? h1) _ ?_, h4⟩
    rw [List.getD_eq_getElem?_getD, List.getElem?_eq_getElem h2]; exact List.getElem_mem h2
  have hb := bestOf_find _ out (allPs_lex least rows rows.length).1 hnum
  rw [greedy_find, hb]
  cases List.find? (freeP out) (sortPs (allPs least rows rows.length)) <;> rfl
theorem greedy_len (L : List Pr) : ∀ out, out.length ≤ (greedy L out).length ∧ (greedy L out).length ≤ out.length + L.length := by
  induction L with
  | nil => intro out; simp [greedy]
  | cons p L ih =>
    intro out
    rw [greedy_cons]
    split
    · have := ih (out ++ [(p.1, p.2.1)]); simp at this ⊢; omega
    · have := ih out; simp; omega
end Go.Proofs.Ytkapidcgonjbaaa
