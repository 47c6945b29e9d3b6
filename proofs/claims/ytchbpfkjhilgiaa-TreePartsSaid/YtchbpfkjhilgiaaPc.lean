/- Keys in their order: some are alike just if two that stand side by side are. Plain. -/
import Derived.Test.YtchbpfkjhilgiaaNd
namespace Go.Proofs.Ytchbpfkjhilgiaa
set_option linter.unusedVariables false

/-- What a sort of places tells. -/
structure Sorted (ks : List Key) (O : List Int) : Prop where
  perm : O.Perm (places ks.length)
  le : ∀ x y, x < y → y < O.length → plCmp ks (O.getD x 0) (O.getD y 0) ≤ 0
theorem Sorted.of (ks : List Key) : Sorted ks (mergeI (leK (plCmp ks)) (places ks.length)) where
  perm := mergeI_perm _ _
  le := by
    intro x y hxy hy
    have h := List.pairwise_iff_getElem.1 (mergeI_sorted ks _ (places_lt ks.length)) x y (by omega) hy hxy
    have h := (plLe_iff _ _ _).1 h
    simp only [List.getD_eq_getElem?_getD, List.getElem?_eq_getElem hy, List.getElem?_eq_getElem (show x < _ from Nat.lt_trans hxy hy), Option.getD_some]
    rcases h with h | h <;> omega
theorem Sorted.len {ks : List Key} {O : List Int} (h : Sorted ks O) : O.length = ks.length := by rw [h.perm.length_eq, places_length]
theorem Sorted.lt {ks : List Key} {O : List Int} (h : Sorted ks O) {x : Nat} (hx : x < O.length) : 0 ≤ O.getD x 0 ∧ O.getD x 0 < ks.length := by
  have hm : O.getD x 0 ∈ O := by
    rw [List.getD_eq_getElem?_getD, List.getElem?_eq_getElem hx]; exact List.getElem_mem hx
  exact places_mem (h.perm.subset hm)
theorem places_nodup (n : Nat) : (places n).Nodup := (places_lt n).imp fun h he => by subst he; omega
theorem Sorted.inj {ks : List Key} {O : List Int} (h : Sorted ks O) {x y : Nat} (hx : x < O.length) (hy : y < O.length) (he : O.getD x 0 = O.getD y 0) : x = y := by
  have hn : O.Nodup := h.perm.symm.nodup (places_nodup _)
  simp only [List.getD_eq_getElem?_getD, List.getElem?_eq_getElem hx, List.getElem?_eq_getElem hy, Option.getD_some] at he
  have hp := List.pairwise_iff_getElem.1 (show O.Pairwise (· ≠ ·) from hn)
  rcases Nat.lt_trichotomy x y with hl | hl | hl
  · exact absurd he (hp x y hx hy hl)
  · exact hl
  · exact absurd he.symm (hp y x hy hx hl)
theorem Sorted.pos {ks : List Key} {O : List Int} (h : Sorted ks O) {i : Nat} (hi : i < ks.length) : ∃ x, x < O.length ∧ O.getD x 0 = i := by
  have hm : (i : Int) ∈ O := h.perm.symm.subset (by unfold places; exact List.mem_map.2 ⟨i, List.mem_range.2 hi, rfl⟩)
  obtain ⟨x, hx, he⟩ := List.getElem_of_mem hm
  exact ⟨x, hx, by rw [List.getD_eq_getElem?_getD, List.getElem?_eq_getElem hx]; exact he⟩
theorem Sorted.near {ks : List Key} {O : List Int} (h : Sorted ks O) (hn : ∀ x, x + 1 < O.length → keyAt ks (O.getD x 0) ≠ keyAt ks (O.getD (x + 1) 0)) : ∀ i j, i < j → j < ks.length → ks.getD i zKey ≠ ks.getD j zKey := by
  intro i j hij hj he
  obtain ⟨x, hx, hxi⟩ := h.pos (show i < ks.length by omega)
  obtain ⟨y, hy, hyj⟩ := h.pos hj
  have key : ∀ x y, x < y → y < O.length → keyAt ks (O.getD x 0) = keyAt ks (O.getD y 0) → False := by
    intro x y hxy hy hk
    refine hn x (by omega) ?_
    have h1 := h.le x (x + 1) (by omega) (by omega)
    have h2 : plCmp ks (O.getD (x + 1) 0) (O.getD y 0) ≤ 0 := by
      by_cases h3 : x + 1 = y
      · rw [h3]; unfold plCmp; rw [kCmp_self]; omega
      · exact h.le (x + 1) y (by omega) hy
    unfold plCmp at h1 h2
    rw [← hk, kCmp_anti] at h2
    exact (kCmp_zero _ _).1 (by omega)
  have h1 : keyAt ks (O.getD x 0) = keyAt ks (O.getD y 0) := by rw [hxi, hyj]; unfold keyAt; simpa using he
  rcases Nat.lt_trichotomy x y with hl | hl | hl
  · exact key x y hl hy h1
  · subst hl; rw [hxi] at hyj; omega
  · exact key y x hl hx h1.symm
theorem Sorted.far {ks : List Key} {O : List Int} (h : Sorted ks O) {x : Nat} (hx : x + 1 < O.length) (he : keyAt ks (O.getD x 0) = keyAt ks (O.getD (x + 1) 0)) : ¬ ∀ i j, i < j → j < ks.length → ks.getD i zKey ≠ ks.getD j zKey := by
  intro hall
  obtain ⟨a0, a1⟩ := h.lt (show x < O.length by omega)
  obtain ⟨b0, b1⟩ := h.lt hx
  have hne : O.getD x 0 ≠ O.getD (x + 1) 0 := fun hh => by have := h.inj (show x < O.length by omega) hx hh; omega
  unfold keyAt at he
  rcases Nat.lt_trichotomy (O.getD x 0).toNat (O.getD (x + 1) 0).toNat with hl | hl | hl
  · exact hall _ _ hl (by omega) he
  · omega
  · exact hall _ _ hl (by omega) he.symm
theorem rightL_iff {l : List Nd} {ks : List Key} (hk : ks = (List.range l.length).map (keyN l)) (hok : ∀ i, i < l.length → okN l i) : RightL l ↔ ∀ i j, i < j → j < ks.length → ks.getD i zKey ≠ ks.getD j zKey := by
  have hg : ∀ i, i < l.length → ks.getD i zKey = keyN l i := fun i hi => by rw [hk]; simp [List.getD_eq_getElem?_getD, hi]
  have hl : ks.length = l.length := by rw [hk]; simp
  constructor
  · intro h i j hij hj
    rw [hg i (by omega), hg j (by omega)]
    exact h.2 i j hij (by omega)
  · intro h
    refine ⟨hok, fun i j hij hj => ?_⟩
    have := h i j hij (by omega)
    rwa [hg i (by omega), hg j (by omega)] at this
end Go.Proofs.Ytchbpfkjhilgiaa
