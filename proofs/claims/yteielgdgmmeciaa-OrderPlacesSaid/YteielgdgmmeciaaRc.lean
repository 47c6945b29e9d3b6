/- Sets of ids, plain. -/
import Derived.Test.YteielgdgmmeciaaRb
namespace Go.Proofs.Yteielgdgmmeciaa
set_option linter.unusedVariables false

/-- Rising, each once. -/
def Strict (l : List (List UInt8)) : Prop := l.Pairwise fun a b => cmpB a b < 0

theorem cmpB_self (x : List UInt8) : cmpB x x = 0 := (cmpB_zero x x).2 rfl

theorem strict_ext : ∀ (l m : List (List UInt8)), Strict l → Strict m → (∀ x, x ∈ l ↔ x ∈ m) → l = m
  | [], [], _, _, _ => rfl
  | [], b :: m, _, _, h => by have := (h b).2 (by simp); simp at this
  | a :: l, [], _, _, h => by have := (h a).1 (by simp); simp at this
  | a :: l, b :: m, hl, hm, h => by
    have hl' := List.pairwise_cons.1 hl
    have hm' := List.pairwise_cons.1 hm
    have hab : a = b := by
      have h1 := (h a).1 (by simp)
      have h2 := (h b).2 (by simp)
      rcases List.mem_cons.1 h1 with e | h1
      · exact e
      rcases List.mem_cons.1 h2 with e | h2
      · exact e.symm
      have c1 := hm'.1 a h1
      have c2 := hl'.1 b h2
      rw [cmpB_anti a b] at c1
      omega
    subst hab
    congr 1
    refine strict_ext l m hl'.2 hm'.2 fun x => ?_
    have hx := h x
    simp only [List.mem_cons] at hx
    constructor
    · intro hxl
      rcases hx.1 (.inr hxl) with e | e
      · subst e; have := hl'.1 x hxl; rw [cmpB_self] at this; omega
      · exact e
    · intro hxm
      rcases hx.2 (.inr hxm) with e | e
      · subst e; have := hm'.1 x hxm; rw [cmpB_self] at this; omega
      · exact e

theorem lt_of_le_ne {a b : List UInt8} (h : leB a b = true) (hn : a ≠ b) : cmpB a b < 0 := by
  simp only [leB, decide_eq_true_eq] at h
  have := (cmpB_zero a b)
  rcases Int.lt_or_eq_of_le h with h | h
  · exact h
  · exact absurd (this.1 h) hn

theorem strict_of_sorted {l : List (List UInt8)} (hs : l.Pairwise fun a b => leB a b = true) (hn : l.Nodup) : Strict l := by
  unfold Strict
  exact (List.Pairwise.and hs hn).imp fun ⟨h1, h2⟩ => lt_of_le_ne h1 h2

theorem dd_strict : ∀ (l acc : List (List UInt8)), l.Pairwise (fun a b => leB a b = true) → Strict acc → (∀ x ∈ acc, ∀ y ∈ l, leB x y = true) →
    Strict (l.foldl ddF acc) ∧ ∀ x, x ∈ l.foldl ddF acc ↔ (x ∈ acc ∨ x ∈ l)
  | [], acc, _, ha, _ => ⟨ha, fun x => by simp⟩
  | y :: l, acc, hl, ha, hle => by
    have hl' := List.pairwise_cons.1 hl
    rw [List.foldl_cons]
    by_cases hc : acc = [] ∨ acc.getLastD [] ≠ y
    · rw [show ddF acc y = acc ++ [y] from if_pos hc]
      have hnew : ∀ x ∈ acc, cmpB x y < 0 := fun x hx => by
        rcases hc with rfl | hc
        · simp at hx
        · have hxy := hle x hx y (by simp)
          -- the last one is below y
          have hne : acc ≠ [] := fun e => by rw [e] at hx; simp at hx
          have hlast : acc.getLastD [] ∈ acc := by
            rw [List.getLastD_eq_getLast?, List.getLast?_eq_some_getLast hne]; simp
          have h1 := lt_of_le_ne (hle _ hlast y (by simp)) hc
          by_cases he : x = acc.getLastD []
          · rw [he]; exact h1
          · -- x stands ahead of the last one
            refine lt_of_le_ne hxy (fun e => ?_)
            subst e
            have hsp : acc = acc.dropLast ++ [acc.getLastD []] := by
              have := (List.dropLast_concat_getLast hne).symm
              rw [List.getLastD_eq_getLast?, List.getLast?_eq_some_getLast hne]
              simpa using this
            have hx2 : x ∈ acc.dropLast := by
              rw [hsp] at hx
              rcases List.mem_append.1 hx with h | h
              · exact h
              · exact absurd (List.mem_singleton.1 h) he
            have hp := ha
            unfold Strict at hp
            rw [hsp] at hp
            have := (List.pairwise_append.1 hp).2.2 x hx2 (acc.getLastD []) (by simp)
            rw [cmpB_anti] at h1
            omega
      have := dd_strict l (acc ++ [y]) hl'.2 (List.pairwise_append.2 ⟨ha, by simp, fun x hx z hz => by rw [List.mem_singleton.1 hz]; exact hnew x hx⟩) (fun x hx z hz => by
        rcases List.mem_append.1 hx with h | h
        · exact hle x h z (by simp [hz])
        · rw [List.mem_singleton.1 h]; exact hl'.1 z hz)
      refine ⟨this.1, fun x => ?_⟩
      rw [this.2]; simp [or_assoc]
    · rw [show ddF acc y = acc from if_neg hc]
      have hne : acc ≠ [] := fun e => hc (.inl e)
      have he : acc.getLastD [] = y := Classical.byContradiction fun e => hc (.inr e)
      have := dd_strict l acc hl'.2 ha (fun x hx z hz => hle x hx z (by simp [hz]))
      refine ⟨this.1, fun x => ?_⟩
      rw [this.2]
      have hy : y ∈ acc := by rw [← he, List.getLastD_eq_getLast?, List.getLast?_eq_some_getLast hne]; simp
      constructor
      · rintro (h | h)
        · exact .inl h
        · exact .inr (by simp [h])
      · rintro (h | h)
        · exact .inl h
        · rcases List.mem_cons.1 h with rfl | h
          · exact .inl hy
          · exact .inr h

theorem setL_strict (xs : List (List UInt8)) : Strict (setL xs) := (dd_strict _ [] (msort_sorted xs) List.Pairwise.nil (by simp)).1
theorem setL_mem (xs : List (List UInt8)) (x : List UInt8) : x ∈ setL xs ↔ x ∈ xs := by
  rw [setL, (dd_strict _ [] (msort_sorted xs) List.Pairwise.nil (by simp)).2]; simp [(msort_perm xs).mem_iff]
theorem setL_eq {l xs : List (List UInt8)} (h : Strict l) (hm : ∀ x, x ∈ l ↔ x ∈ xs) : l = setL xs :=
  strict_ext _ _ h (setL_strict xs) (fun x => by rw [hm, setL_mem])
theorem setL_congr {xs ys : List (List UInt8)} (h : ∀ x, x ∈ xs ↔ x ∈ ys) : setL xs = setL ys := setL_eq (setL_strict xs) (fun x => by rw [setL_mem, h])
theorem setL_self {l : List (List UInt8)} (h : Strict l) : setL l = l := (setL_eq h (fun _ => Iff.rfl)).symm
theorem msort_nodup {O : List (List UInt8)} (h : O.Nodup) : msort O = setL O :=
  setL_eq (strict_of_sorted (msort_sorted O) ((msort_perm O).nodup_iff.2 h)) (fun x => (msort_perm O).mem_iff)
theorem setL_length (xs : List (List UInt8)) : (setL xs).length ≤ xs.length := by
  have h : ∀ (l acc : List (List UInt8)), (l.foldl ddF acc).length ≤ acc.length + l.length := by
    intro l
    induction l with
    | nil => simp
    | cons y l ih =>
      intro acc
      rw [List.foldl_cons]
      refine Nat.le_trans (ih _) ?_
      unfold ddF
      split <;> simp <;> omega
  have := h (msort xs) []
  rw [msort_length] at this
  simpa [setL] using this
theorem setL_32 {xs : List (List UInt8)} (h : ∀ x ∈ xs, x.length = 32) : ∀ x ∈ setL xs, x.length = 32 := fun x hx => h x ((setL_mem xs x).1 hx)

theorem strict_isSet : ∀ l : List (List UInt8), isSetL l = true ↔ Strict l
  | [] => by simp [isSetL, Strict]
  | [a] => by simp [isSetL, Strict]
  | a :: b :: l => by
    have ih := strict_isSet (b :: l)
    simp only [isSetL, Bool.and_eq_true, decide_eq_true_eq, ih]
    constructor
    · rintro ⟨h1, h2⟩
      refine List.pairwise_cons.2 ⟨fun x hx => ?_, h2⟩
      rcases List.mem_cons.1 hx with rfl | hx
      · exact h1
      · exact (cmpB_trans a b x (by unfold cmpB; omega) (by have := (List.pairwise_cons.1 h2).1 x hx; omega)).2 (.inl h1)
    · intro h
      have h' := List.pairwise_cons.1 h
      exact ⟨h'.1 b (by simp), h'.2⟩

theorem isAt_mem {l : List (List UInt8)} (x : List UInt8) (h : isSetL l = true) : isAt x l = decide (x ∈ l) := by
  by_cases hm : x ∈ l
  · obtain ⟨k, hk, e⟩ := List.getElem_of_mem hm
    have := isAt_found x l k h hk (by rw [List.getD_eq_getElem?_getD, List.getElem?_eq_getElem hk, Option.getD_some, e, cmpB_self])
    simp [this.2, hm]
  · simp only [hm, decide_false]
    unfold isAt
    by_cases hp : placeN x l < l.length
    · simp only [hp, decide_true, Bool.true_and]
      exact beq_eq_false_iff_ne.2 fun e => hm (e ▸ getD_mem hp)
    · simp [hp]

/-- One id put in at its place. -/
theorem ins_sorted {O : List (List UInt8)} {x : List UInt8} {k : Nat} (hk : k ≤ O.length) (hs : O.Pairwise fun a b => leB a b = true) (h1 : k = 0 ∨ leB (O.getD (k - 1) []) x = true)
    (h2 : ∀ j, k ≤ j → j < O.length → leB x (O.getD j []) = true) : (O.take k ++ x :: O.drop k).Pairwise fun a b => leB a b = true := by
  have hx : ∀ z ∈ O.drop k, leB x z = true := fun z hz => by
    obtain ⟨j, hj, e⟩ := List.getElem_of_mem hz
    simp only [List.length_drop] at hj
    have := h2 (k + j) (by omega) (by omega)
    rw [List.getD_eq_getElem?_getD, List.getElem?_eq_getElem (by omega), Option.getD_some] at this
    rw [List.getElem_drop] at e
    rwa [e] at this
  have hy : ∀ y ∈ O.take k, leB y x = true := fun y hy => by
    rcases h1 with rfl | h1
    · simp at hy
    · obtain ⟨j, hj, e⟩ := List.getElem_of_mem hy
      simp only [List.length_take] at hj
      rw [List.getElem_take] at e
      by_cases hjk : j = k - 1
      · subst hjk
        rw [List.getD_eq_getElem?_getD, List.getElem?_eq_getElem (by omega), Option.getD_some, e] at h1
        exact h1
      · have h3 := List.pairwise_iff_getElem.1 hs j (k - 1) (by omega) (by omega) (by omega)
        rw [e] at h3
        rw [List.getD_eq_getElem?_getD, List.getElem?_eq_getElem (by omega), Option.getD_some] at h1
        exact leB_trans _ _ _ h3 h1
  refine List.pairwise_append.2 ⟨hs.sublist (List.take_sublist _ _), List.pairwise_cons.2 ⟨hx, hs.sublist (List.drop_sublist _ _)⟩, fun y hyy z hz => ?_⟩
  rcases List.mem_cons.1 hz with rfl | hz
  · exact hy y hyy
  · exact leB_trans _ _ _ (hy y hyy) (hx z hz)
theorem ins_perm (O : List (List UInt8)) (x : List UInt8) (k : Nat) : (O.take k ++ x :: O.drop k).Perm (O ++ [x]) := by
  refine (List.perm_middle).trans ?_
  rw [List.take_append_drop]
  exact (List.perm_append_singleton x O).symm
theorem sort_unique {O xs : List (List UInt8)} (hp : O.Perm xs) (hs : O.Pairwise fun a b => leB a b = true) : O = msort xs :=
  List.Perm.eq_of_pairwise (le := fun a b => leB a b = true) (fun a b _ _ h1 h2 => leB_anti a b h1 h2) hs (msort_sorted xs) (hp.trans (msort_perm xs).symm)

end Go.Proofs.Yteielgdgmmeciaa
