/- Rows of ids; merging. -/
import Derived.Test.YteielgdgmmeciaaP
namespace Go.Proofs.Yteielgdgmmeciaa
open Go.RowKit
set_option linter.unusedVariables false

/-- The cells of ids. -/
def idsC (xs : List (List UInt8)) : List Value := xs.flatMap Lib.byteCells
theorem idsC_nil : idsC [] = [] := rfl
theorem idsC_cons (x : List UInt8) (xs : List (List UInt8)) : idsC (x :: xs) = Lib.byteCells x ++ idsC xs := by simp [idsC]
theorem idsC_append (xs ys : List (List UInt8)) : idsC (xs ++ ys) = idsC xs ++ idsC ys := by simp [idsC]
theorem idsC_length : ∀ xs : List (List UInt8), (∀ x ∈ xs, x.length = 32) → (idsC xs).length = xs.length * 32
  | [], _ => by simp [idsC]
  | x :: xs, h => by
    rw [idsC_cons, List.length_append, idsC_length xs (fun y hy => h y (by simp [hy])), Lib.byteCells_length, h x (by simp), List.length_cons]; omega
theorem idsC_at : ∀ (xs : List (List UInt8)) (i : Nat), (∀ x ∈ xs, x.length = 32) → i < xs.length → ((idsC xs).drop (i * 32)).take 32 = Lib.byteCells (xs.getD i [])
  | [], i, _, h => by simp at h
  | x :: xs, 0, h, _ => by
    have hl : (Lib.byteCells x).length = 32 := by rw [Lib.byteCells_length, h x (by simp)]
    rw [idsC_cons]; simp [hl]
  | x :: xs, i + 1, h, hi => by
    have hl : (Lib.byteCells x).length = 32 := by rw [Lib.byteCells_length, h x (by simp)]
    rw [idsC_cons, List.drop_append, hl, show (i + 1) * 32 - 32 = i * 32 by omega, List.drop_of_length_le (by rw [hl]; omega), List.nil_append, idsC_at xs i (fun y hy => h y (by simp [hy])) (by simpa using hi), List.getD_cons_succ]
theorem idsC_one (xs : List (List UInt8)) : ∀ u ∈ idsC xs, u.oneCell' = true := by
  intro u hu
  obtain ⟨x, _, hx⟩ := List.mem_flatMap.1 hu
  obtain ⟨c, _, rfl⟩ := List.mem_map.1 hx
  rfl

/-- A row of ids is a slice of them. -/
theorem row_ids {w : World} {base : Nat} {v : Value} {xs : List (List UInt8)} (h32 : ∀ x ∈ xs, x.length = 32) (h : w.ownsRow base 23 32 v xs.length (idsC xs)) :
    ∃ a cap, v = .slice a xs.length cap ∧ xs.length ≤ cap ∧ IdsIn w a xs ∧ (a = none → xs = [] ∧ cap = 0) := by
  obtain ⟨hl, ⟨rfl, hn⟩ | ⟨g, cap, cur, rfl, hg, hh, hc, hm, hs, ht⟩⟩ := h
  · have : xs = [] := List.length_eq_zero_iff.1 hn
    subst this
    exact ⟨none, 0, rfl, by simp, ⟨by simp, .inl rfl⟩, fun _ => ⟨rfl, rfl⟩⟩
  · refine ⟨_, cap, rfl, hc, ⟨h32, .inr ⟨g, 0, rfl, fun i hi => ?_⟩⟩, fun e => by cases e⟩
    have hfit : 0 + i * 32 + 32 ≤ cur.size := by rw [hs]; omega
    refine ⟨⟨rfl, cur, 23, (0, 0), hh, hfit⟩, ?_⟩
    unfold aggAt
    rw [show w.heap[(⟨g, 0 + i * 32, none⟩ : Addr).block]? = some (.cells cur 23 (0, 0)) from hh]
    have hcur := idsC_at xs i h32 hi
    rw [← ht] at hcur
    apply Array.ext'
    simp only [Array.toList_extract, List.extract_eq_take_drop, idB]
    rw [← hcur, List.drop_take, List.take_take]
    congr 1
    · omega
    · simp

theorem ids_cells {w : World} {b off : Nat} {xs : List (List UInt8)} (h32 : ∀ x ∈ xs, x.length = 32)
    (h : ∀ i, i < xs.length → fits w ⟨b, off + i * 32, none⟩ 32 ∧ aggAt w ⟨b, off + i * 32, none⟩ 32 = idB (xs.getD i [])) :
    ∀ j u, (idsC xs)[j]? = some u → w.cell? ((⟨b, off, none⟩ : Addr).add j) = some u := by
  intro j u hj
  have hjl : j < (idsC xs).length := (List.getElem?_eq_some_iff.1 hj).1
  rw [idsC_length xs h32] at hjl
  have hi : j / 32 < xs.length := by omega
  obtain ⟨hf, ha⟩ := h (j / 32) hi
  have hadd : (⟨b, off, none⟩ : Addr).add j = ⟨b, (off + j / 32 * 32) + j % 32, none⟩ := by
    rw [show off + j / 32 * 32 + j % 32 = off + j by omega]
    unfold Addr.add; split <;> simp_all
  have hg := aggAt_get (j := j % 32) hf (by omega)
  rw [hadd, hg, ha]
  have := idsC_at xs (j / 32) h32 hi
  have h3 : ((idsC xs).drop (j / 32 * 32)).take 32 = Lib.byteCells (xs.getD (j / 32) []) := this
  have h4 : (((idsC xs).drop (j / 32 * 32)).take 32)[j % 32]? = some u := by
    rw [List.getElem?_take, if_pos (by omega), List.getElem?_drop, show j / 32 * 32 + j % 32 = j by omega]; exact hj
  rw [h3] at h4
  simpa [idB] using h4

/-- One slice's tail. -/
theorem ids_tail {w : World} {b off : Nat} {x : List UInt8} {xs : List (List UInt8)} (h : IdsIn w (some ⟨b, off, none⟩) (x :: xs)) : IdsIn w (some ⟨b, off + 32, none⟩) xs := by
  refine ⟨fun y hy => h.1 y (by simp [hy]), ?_⟩
  rcases h.2 with h0 | ⟨b', off', he, hc⟩
  · cases h0
  · cases he
    refine .inr ⟨b, off + 32, rfl, fun i hi => ?_⟩
    have := hc (i + 1) (by simpa using hi)
    rwa [show off + (i + 1) * 32 = off + 32 + i * 32 by omega, List.getD_cons_succ] at this

def leB (x y : List UInt8) : Bool := decide (cmpB x y ≤ 0)

/-- order.merge, over ids. -/
def msort (xs : List (List UInt8)) : List (List UInt8) :=
  if h : xs.length < 2 then xs else List.merge (msort (xs.take (xs.length / 2))) (msort (xs.drop (xs.length / 2))) leB
termination_by xs.length
decreasing_by all_goals simp; omega

theorem msort_small (xs : List (List UInt8)) (h : xs.length < 2) : msort xs = xs := by rw [msort, dif_pos h]
theorem msort_big (xs : List (List UInt8)) (h : ¬ xs.length < 2) : msort xs = List.merge (msort (xs.take (xs.length / 2))) (msort (xs.drop (xs.length / 2))) leB := by rw [msort, dif_neg h]

theorem msort_perm (xs : List (List UInt8)) : (msort xs).Perm xs := by
  induction hn : xs.length using Nat.strongRecOn generalizing xs with
  | _ n ih =>
    subst hn
    by_cases h : xs.length < 2
    · rw [msort_small xs h]
    · rw [msort_big xs h]
      have h1 := ih (xs.take (xs.length / 2)).length (by simp; omega) _ rfl
      have h2 := ih (xs.drop (xs.length / 2)).length (by simp; omega) _ rfl
      refine (List.merge_perm_append ..).trans ((h1.append h2).trans ?_)
      rw [List.take_append_drop]

theorem msort_length (xs : List (List UInt8)) : (msort xs).length = xs.length := (msort_perm xs).length_eq
theorem msort_32 {xs : List (List UInt8)} (h : ∀ x ∈ xs, x.length = 32) : ∀ x ∈ msort xs, x.length = 32 := fun x hx => h x ((msort_perm xs).mem_iff.1 hx)

theorem leB_trans (a b c : List UInt8) (h1 : leB a b = true) (h2 : leB b c = true) : leB a c = true := by
  simp only [leB, decide_eq_true_eq] at *
  exact (cmpB_trans a b c h1 h2).1
theorem leB_total (a b : List UInt8) : (leB a b || leB b a) = true := by
  simp only [leB, Bool.or_eq_true, decide_eq_true_eq]
  rw [cmpB_anti a b]; omega
theorem leB_anti (a b : List UInt8) (h1 : leB a b = true) (h2 : leB b a = true) : a = b := by
  simp only [leB, decide_eq_true_eq] at *
  rw [cmpB_anti a b] at h2
  exact (cmpB_zero a b).1 (by omega)

theorem msort_sorted (xs : List (List UInt8)) : (msort xs).Pairwise (fun a b => leB a b = true) := by
  induction hn : xs.length using Nat.strongRecOn generalizing xs with
  | _ n ih =>
    subst hn
    by_cases h : xs.length < 2
    · rw [msort_small xs h]
      match xs, h with
      | [], _ => simp
      | [a], _ => simp
      | _ :: _ :: _, h => simp at h; omega
    · rw [msort_big xs h]
      exact List.pairwise_merge leB_trans leB_total _ _ (ih _ (by simp; omega) _ rfl) (ih _ (by simp; omega) _ rfl)

end Go.Proofs.Yteielgdgmmeciaa
