/- Places of keys in their order, plain: both sorts agree. -/
import Derived.Test.YtchbpfkjhilgiaaMb
import Derived.Test.YtchbpfkjhilgiaaHm
namespace Go.Proofs.Ytchbpfkjhilgiaa
set_option linter.unusedVariables false

abbrev Key := Int × List UInt8 × Int
def kCmp (a b : Key) : Int := keysCmp a.1 a.2.1 a.2.2 b.1 b.2.1 b.2.2
def zeroId : List UInt8 := List.replicate 32 0
def zKey : Key := (0, zeroId, 0)
def keyAt (ks : List Key) (x : Int) : Key := ks.getD x.toNat zKey
/-- How the keys at two places compare. -/
def plCmp (ks : List Key) (x y : Int) : Int := kCmp (keyAt ks x) (keyAt ks y)
/-- Ahead, or the same and no further on. -/
def plLe (ks : List Key) (x y : Int) : Bool := decide (plCmp ks x y < 0) || (decide (plCmp ks x y = 0) && decide (x ≤ y))

theorem plLe_iff (ks : List Key) (x y : Int) : plLe ks x y = true ↔ plCmp ks x y < 0 ∨ (plCmp ks x y = 0 ∧ x ≤ y) := by simp [plLe]
theorem plCmp_anti (ks : List Key) (x y : Int) : plCmp ks y x = - plCmp ks x y := keys_anti _ _ _ _ _ _
theorem plLe_trans (ks : List Key) (a b c : Int) (h1 : plLe ks a b = true) (h2 : plLe ks b c = true) : plLe ks a c = true := by
  rw [plLe_iff] at *
  have := keys_trans (keyAt ks a).1 (keyAt ks a).2.1 (keyAt ks a).2.2 (keyAt ks b).1 (keyAt ks b).2.1 (keyAt ks b).2.2 (keyAt ks c).1 (keyAt ks c).2.1 (keyAt ks c).2.2
  have h : plCmp ks a b ≤ 0 → plCmp ks b c ≤ 0 → plCmp ks a c ≤ 0 ∧ (plCmp ks a b < 0 ∨ plCmp ks b c < 0 → plCmp ks a c < 0) ∧ (plCmp ks a b = 0 → plCmp ks b c = 0 → plCmp ks a c = 0) := this
  generalize plCmp ks a b = x at *
  generalize plCmp ks b c = y at *
  generalize plCmp ks a c = z at *
  rcases h1 with h1 | ⟨h1, h1'⟩ <;> rcases h2 with h2 | ⟨h2, h2'⟩
  · exact .inl ((h (by omega) (by omega)).2.1 (.inl h1))
  · exact .inl ((h (by omega) (by omega)).2.1 (.inl h1))
  · exact .inl ((h (by omega) (by omega)).2.1 (.inr h2))
  · exact .inr ⟨(h (by omega) (by omega)).2.2 h1 h2, by omega⟩
theorem plLe_total (ks : List Key) (a b : Int) : (plLe ks a b || plLe ks b a) = true := by
  rw [Bool.or_eq_true, plLe_iff, plLe_iff, plCmp_anti ks a b]
  omega
theorem plLe_anti (ks : List Key) (a b : Int) (h1 : plLe ks a b = true) (h2 : plLe ks b a = true) : a = b := by
  rw [plLe_iff] at *
  rw [plCmp_anti ks a b] at h2
  omega

theorem merge_congr {α : Type} {le le' : α → α → Bool} : ∀ (A B : List α), (∀ x ∈ A, ∀ y ∈ B, le x y = le' x y) → List.merge A B le = List.merge A B le'
  | [], B, _ => by simp
  | x :: A, [], _ => by simp
  | x :: A, y :: B, h => by
    rw [List.cons_merge_cons, List.cons_merge_cons, h x (by simp) y (by simp), merge_congr A (y :: B) (fun u hu v hv => h u (by simp [hu]) v hv), merge_congr (x :: A) B (fun u hu v hv => h u hu v (by simp [hv]))]

theorem mergeI_sorted (ks : List Key) (xs : List Int) (h : xs.Pairwise (· < ·)) : (mergeI (leK (plCmp ks)) xs).Pairwise (fun a b => plLe ks a b = true) := by
  induction hn : xs.length using Nat.strongRecOn generalizing xs with
  | _ n ih =>
    subst hn
    by_cases h2 : xs.length < 2
    · rw [mergeI_small _ xs h2]
      match xs, h2 with
      | [], _ => simp
      | [a], _ => simp
      | _ :: _ :: _, h2 => simp at h2; omega
    · rw [mergeI_big _ xs h2]
      have hs := h
      rw [← List.take_append_drop (xs.length / 2) xs] at hs
      obtain ⟨p1, p2, p3⟩ := List.pairwise_append.1 hs
      rw [merge_congr (le' := plLe ks)]
      · exact List.pairwise_merge (plLe_trans ks) (plLe_total ks) _ _ (ih _ (by simp; omega) _ p1 rfl) (ih _ (by simp; omega) _ p2 rfl)
      · intro x hx y hy
        have hlt := p3 x ((mergeI_perm _ _).mem_iff.1 hx) y ((mergeI_perm _ _).mem_iff.1 hy)
        rw [Bool.eq_iff_iff, plLe_iff]
        simp only [leK, decide_eq_true_eq]
        omega

/-- One more put in at its place, by any order. -/
theorem insG_sorted {α : Type} [Inhabited α] {le : α → α → Prop} (htr : ∀ a b c, le a b → le b c → le a c) {O : List α} {x : α} {k : Nat} (hk : k ≤ O.length) (hs : O.Pairwise le) (h1 : k = 0 ∨ le (O.getD (k - 1) default) x)
    (h2 : ∀ j, k ≤ j → j < O.length → le x (O.getD j default)) : (O.take k ++ x :: O.drop k).Pairwise le := by
  have hx : ∀ z ∈ O.drop k, le x z := fun z hz => by
    obtain ⟨j, hj, e⟩ := List.getElem_of_mem hz
    simp only [List.length_drop] at hj
    have := h2 (k + j) (by omega) (by omega)
    rw [List.getD_eq_getElem?_getD, List.getElem?_eq_getElem (by omega), Option.getD_some] at this
    rw [List.getElem_drop] at e
    rwa [e] at this
  have hy : ∀ y ∈ O.take k, le y x := fun y hy => by
    rcases h1 with rfl | h1
    · simp at hy
    · obtain ⟨j, hj, e⟩ := List.getElem_of_mem hy
      simp only [List.length_take] at hj
      rw [List.getElem_take] at e
      by_cases hjk : j = k - 1
      · subst hjk
        rw [List.getD_eq_getElem?_getD, List.getElem?_eq_getElem (by omega), Option.getD_some, e] at h1
        exact h1
      · have h3 := List.pairwise_iff_getElem.1 hs j (k - 1) (by omega) (by omega) (by omega)
        rw [e] at h3
        rw [List.getD_eq_getElem?_getD, List.getElem?_eq_getElem (by omega), Option.getD_some] at h1
        exact htr _ _ _ h3 h1
  refine List.pairwise_append.2 ⟨hs.sublist (List.take_sublist _ _), List.pairwise_cons.2 ⟨hx, hs.sublist (List.drop_sublist _ _)⟩, fun y hyy z hz => ?_⟩
  rcases List.mem_cons.1 hz with rfl | hz
  · exact hy y hyy
  · exact htr _ _ _ (hy y hyy) (hx z hz)
theorem insG_perm {α : Type} (O : List α) (x : α) (k : Nat) : (O.take k ++ x :: O.drop k).Perm (O ++ [x]) := by
  refine (List.perm_middle).trans ?_
  rw [List.take_append_drop]
  exact (List.perm_append_singleton x O).symm

/-- The numbers of n places. -/
def places (n : Nat) : List Int := (List.range n).map fun (k : Nat) => (k : Int)
theorem places_length (n : Nat) : (places n).length = n := by simp [places]
theorem places_succ (n : Nat) : places (n + 1) = places n ++ [(n : Int)] := by simp [places, List.range_succ]
theorem places_lt (n : Nat) : (places n).Pairwise (· < ·) := by
  unfold places
  rw [List.pairwise_map]
  exact List.pairwise_lt_range.imp fun h => by omega
theorem places_mem {n : Nat} {x : Int} (h : x ∈ places n) : 0 ≤ x ∧ x < n := by
  obtain ⟨k, hk, rfl⟩ := List.mem_map.1 h
  have := List.mem_range.1 hk
  omega
theorem places_unique {ks : List Key} {n : Nat} {O : List Int} (hp : O.Perm (places n)) (hs : O.Pairwise fun a b => plLe ks a b = true) : O = mergeI (leK (plCmp ks)) (places n) :=
  List.Perm.eq_of_pairwise (le := fun a b => plLe ks a b = true) (fun a b _ _ h1 h2 => plLe_anti ks a b h1 h2) hs (mergeI_sorted ks _ (places_lt n)) (hp.trans (mergeI_perm _ _).symm)

end Go.Proofs.Ytchbpfkjhilgiaa
