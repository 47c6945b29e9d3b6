/- Ranks, and the best: plain. -/
import Derived.Test.YtkapidcgonjbaaaRc
import Derived.Test.YtkapidcgonjbaaaQa
import Derived.Test.YtkapidcgonjbaaaPj
namespace Go.Proofs.Ytkapidcgonjbaaa
open Go.RowKit
open Go.Sort hiding Below
set_option linter.unusedVariables false

/-- Does a place stand ahead of another one? -/
def rkLtN (l : List Nat) (i j : Nat) : Bool :=
  decide (lastOf (fAt l i) < lastOf (fAt l j) ∨ (lastOf (fAt l i) = lastOf (fAt l j) ∧ (rk (fAt l j) < rk (fAt l i) ∨ (rk (fAt l i) = rk (fAt l j) ∧ i < j))))
def rkLt (l : List Nat) (m : Nat) (i j : Fin (m + 1)) : Bool := rkLtN l i.val j.val
theorem rkLtN_iff (l : List Nat) (i j : Nat) : rkLtN l i j = true ↔ (lastOf (fAt l i) < lastOf (fAt l j) ∨ (lastOf (fAt l i) = lastOf (fAt l j) ∧ (rk (fAt l j) < rk (fAt l i) ∨ (rk (fAt l i) = rk (fAt l j) ∧ i < j)))) := decide_eq_true_iff
theorem rkLtN_false (l : List Nat) (i j : Nat) : rkLtN l i j = false ↔ ¬ (lastOf (fAt l i) < lastOf (fAt l j) ∨ (lastOf (fAt l i) = lastOf (fAt l j) ∧ (rk (fAt l j) < rk (fAt l i) ∨ (rk (fAt l i) = rk (fAt l j) ∧ i < j)))) := decide_eq_false_iff_not
theorem rkLt_swo (l : List Nat) (m : Nat) : SWO (rkLt l m) where
  irrefl x := by unfold rkLt; rw [rkLtN_false]; omega
  trans x y z h1 h2 := by unfold rkLt at *; rw [rkLtN_iff] at *; omega
  ntrans x y z h1 h2 := by unfold rkLt at *; rw [rkLtN_false] at *; omega
theorem rkLtN_total (l : List Nat) (i j : Nat) (h1 : rkLtN l i j = false) (h2 : rkLtN l j i = false) : i = j := by
  rw [rkLtN_false] at h1 h2; omega
theorem rkLtN_trans (l : List Nat) (i j k : Nat) (h1 : rkLtN l i j = true) (h2 : rkLtN l j k = true) : rkLtN l i k = true := by
  rw [rkLtN_iff] at *; omega
theorem rkLtN_asymm (l : List Nat) (i j : Nat) (h1 : rkLtN l i j = true) : rkLtN l j i = false := by
  rw [rkLtN_iff] at h1; rw [rkLtN_false]; omega
theorem fOrd_negi (x y : Nat) : fOrd x y < 0 ↔ rk x < rk y := by
  unfold fOrd
  exact cmpInt_lt _ _
theorem rkCmp_neg (l : List Nat) (i j : Nat) : rkCmp l i j < 0 ↔ lastOf (fAt l i) < lastOf (fAt l j) ∨ (lastOf (fAt l i) = lastOf (fAt l j) ∧ rk (fAt l j) < rk (fAt l i)) := by
  unfold rkCmp or2
  have h1 := cmpInt_lt (lastOf (fAt l i)) (lastOf (fAt l j))
  have h2 := cmpInt_eq (lastOf (fAt l i)) (lastOf (fAt l j))
  have h3 := fOrd_negi (fAt l j) (fAt l i)
  split
  · next h => rw [h1]; constructor <;> intro h' <;> omega
  · next h =>
    have h : cmpInt (lastOf (fAt l i)) (lastOf (fAt l j)) = 0 := by omega
    rw [h3]; constructor <;> intro h' <;> omega
theorem rkF_lt (l : List Nat) (m : Nat) (x y : Fin (m + 1)) (h : y.val < x.val) : ltOf (rkF l m) x y = rkLt l m x y := by
  unfold ltOf rkF rkLt rkLtN
  congr 1
  rw [rkCmp_neg]
  apply propext
  omega

/-- The places in order. -/
def IsRank (l : List Nat) (R : List Nat) : Prop := R.Perm (List.range l.length) ∧ R.Pairwise (fun i j => rkLtN l i j = true)
theorem IsRank.len {l R : List Nat} (h : IsRank l R) : R.length = l.length := by rw [h.1.length_eq, List.length_range]
theorem IsRank.lt {l R : List Nat} (h : IsRank l R) {i : Nat} (hi : i ∈ R) : i < l.length := List.mem_range.1 (h.1.mem_iff.1 hi)
theorem IsRank.nodup {l R : List Nat} (h : IsRank l R) : R.Nodup := h.1.symm.nodup List.nodup_range
theorem rank_of_sorted (l : List Nat) (m : Nat) (hl : l.length = m + 1) (D : Array (Fin (m + 1))) (hp : PermIn 0 (m + 1) (allP m) D) (hs : SortedIn (rkLt l m) 0 (m + 1) D) : IsRank l (D.toList.map fun i => i.val) := by
  have hsz : D.size = m + 1 := hp.1.trans (allP_size m)
  have h1 : D.toList.Perm (allP m).toList := by
    have := hp.2.2
    have e1 : D.extract 0 (m + 1) = D := Array.extract_eq_self_of_le (by omega)
    have e2 : (allP m).extract 0 (m + 1) = allP m := Array.extract_eq_self_of_le (by rw [allP_size]; omega)
    rw [e1, e2] at this
    exact this
  have hpr : (D.toList.map fun i => i.val).Perm (List.range l.length) := by
    refine (h1.map _).trans ?_
    rw [hl]
    have : (allP m).toList.map (fun i => i.val) = List.range (m + 1) := by
      apply List.ext_getElem
      · simp [allP]
      · intro i h1 h2; simp [allP]
    rw [this]
  refine ⟨hpr, ?_⟩
  have hnd : (D.toList.map fun i => i.val).Pairwise (· ≠ ·) := hpr.symm.nodup List.nodup_range
  rw [List.pairwise_iff_getElem] at hnd ⊢
  intro i j hi hj hij
  have hi' : i < D.size := by simpa using hi
  have hj' : j < D.size := by simpa using hj
  have h2 := hs i j (Nat.zero_le _) hij (by omega)
  rw [getElem!_pos D i hi', getElem!_pos D j hj'] at h2
  simp only [List.getElem_map, Array.getElem_toList]
  cases h3 : rkLtN l D[i].val D[j].val with
  | true => rfl
  | false =>
    have := rkLtN_total l _ _ h3 h2
    have h4 := hnd i j hi hj hij
    simp only [List.getElem_map, Array.getElem_toList] at h4
    exact absurd this h4
/-- How many places stand ahead of one. -/
def cntR (l : List Nat) (i k : Nat) : Nat := ((List.range k).filter fun j => rkLtN l j i).length
theorem cntR_succ (l : List Nat) (i k : Nat) : cntR l i (k + 1) = if rkLtN l k i then cntR l i k + 1 else cntR l i k := by
  unfold cntR
  rw [List.range_succ, List.filter_append]
  cases h : rkLtN l k i <;> simp [h]
theorem cntR_le (l : List Nat) (i k : Nat) : cntR l i k ≤ k := by
  have := List.length_filter_le (fun j => rkLtN l j i) (List.range k)
  rwa [List.length_range] at this
theorem IsRank.cnt {l R : List Nat} (h : IsRank l R) {j : Nat} (hj : j < R.length) : cntR l R[j] l.length = j := by
  unfold cntR
  rw [← (h.1.filter _).length_eq]
  have hsplit : R = R.take j ++ R[j] :: R.drop (j + 1) := by rw [List.getElem_cons_drop, List.take_append_drop]
  have hp := h.2
  have e : R.filter (fun k => rkLtN l k R[j]) = R.take j := by
    generalize hx : R[j] = x at *
    rw [hsplit] at hp ⊢
    obtain ⟨h1, h2, h3⟩ := List.pairwise_append.1 hp
    rw [List.filter_append, List.filter_cons]
    have e1 : (R.take j).filter (fun k => rkLtN l k x) = R.take j := List.filter_eq_self.2 fun a ha => h3 a ha x (List.mem_cons_self ..)
    have e2 : (R.drop (j + 1)).filter (fun k => rkLtN l k x) = [] := List.filter_eq_nil_iff.2 fun a ha => by
      rw [rkLtN_asymm l x a ((List.pairwise_cons.1 h2).1 a ha)]; simp
    have e3 : rkLtN l x x = false := by rw [rkLtN_false]; omega
    rw [e1, e2, e3]
    simp [Nat.min_eq_left (Nat.le_of_lt hj)]
  rw [e, List.length_take]
  omega
/-- The reference's row, where the first k are told. -/
def outR (R : List Nat) (k : Nat) : List Int := R.map fun x => if x < k then ((x : Nat) : Int) else 0
theorem outR_zero (R : List Nat) : outR R 0 = List.replicate R.length 0 := by
  unfold outR
  apply List.ext_getElem
  · simp
  · intro i h1 h2; simp
theorem outR_all {l R : List Nat} (h : IsRank l R) : outR R l.length = R.map fun x => ((x : Nat) : Int) := by
  unfold outR
  apply List.map_congr_left
  intro x hx
  rw [if_pos (h.lt hx)]
theorem outR_len (R : List Nat) (k : Nat) : (outR R k).length = R.length := by simp [outR]
theorem outR_set {l R : List Nat} (h : IsRank l R) {k : Nat} (hk : k < l.length) : cntR l k l.length < R.length ∧ (outR R k).set (cntR l k l.length) (k : Int) = outR R (k + 1) := by
  have hm : k ∈ R := h.1.mem_iff.2 (List.mem_range.2 hk)
  obtain ⟨j, hj, rfl⟩ := List.getElem_of_mem hm
  rw [h.cnt hj]
  refine ⟨hj, ?_⟩
  apply List.ext_getElem
  · simp [outR]
  · intro i h1 h2
    have hi : i < R.length := by simpa [outR] using h1
    rw [List.getElem_set]
    simp only [outR, List.getElem_map]
    by_cases hij : j = i
    · subst hij; rw [if_pos rfl, if_pos (by omega)]
    · rw [if_neg hij]
      have hne : R[i] ≠ R[j] := fun he => hij ((List.getElem_inj h.nodup).1 he).symm
      by_cases h3 : R[i] < R[j]
      · rw [if_pos h3, if_pos (by omega)]
      · rw [if_neg h3, if_neg (by omega)]

/-! ### The best -/
/-- What stands at a place is the best number; the first of those. -/
def BestAt (l : List Nat) (n a : Nat) : Prop := a < n ∧ isN (fAt l a) = false ∧ ∀ k, k < n → isN (fAt l k) = true ∨ rk (fAt l k) < rk (fAt l a) ∨ (rk (fAt l k) = rk (fAt l a) ∧ a ≤ k)
def BestP (l : List Nat) (n : Nat) (a : Nat) (f : Bool) : Prop := (f = true ∧ BestAt l n a) ∨ (f = false ∧ a = 0 ∧ ∀ k, k < n → isN (fAt l k) = true)
theorem BestP.start (l : List Nat) : BestP l 0 0 false := .inr ⟨rfl, rfl, fun k hk => by omega⟩
theorem BestP.skip {l : List Nat} {n a : Nat} {f : Bool} (h : BestP l n a f) (hn : isN (fAt l n) = true) : BestP l (n + 1) a f := by
  rcases h with ⟨hf, h1, h2, h3⟩ | ⟨hf, h1, h2⟩
  · refine .inl ⟨hf, by omega, h2, fun k hk => ?_⟩
    by_cases he : k = n
    · subst he; exact .inl hn
    · exact h3 k (by omega)
  · refine .inr ⟨hf, h1, fun k hk => ?_⟩
    by_cases he : k = n
    · subst he; exact hn
    · exact h2 k (by omega)
theorem BestP.first {l : List Nat} {n a : Nat} (h : BestP l n a false) (hn : isN (fAt l n) = false) : BestP l (n + 1) n true := by
  rcases h with ⟨hf, _⟩ | ⟨_, h1, h2⟩
  · cases hf
  · refine .inl ⟨rfl, by omega, hn, fun k hk => ?_⟩
    by_cases he : k = n
    · subst he; exact .inr (.inr ⟨rfl, Nat.le_refl _⟩)
    · exact .inl (h2 k (by omega))
theorem BestP.at {l : List Nat} {n a : Nat} (h : BestP l n a true) : BestAt l n a := by
  rcases h with ⟨_, h⟩ | ⟨hf, _⟩
  · exact h
  · cases hf
theorem BestP.next {l : List Nat} {n a : Nat} (h : BestP l n a true) (hn : isN (fAt l n) = false) : (rk (fAt l a) < rk (fAt l n) → BestP l (n + 1) n true) ∧ (¬ rk (fAt l a) < rk (fAt l n) → BestP l (n + 1) a true) := by
  obtain ⟨h1, h2, h3⟩ := h.at
  refine ⟨fun hlt => .inl ⟨rfl, by omega, hn, fun k hk => ?_⟩, fun hge => .inl ⟨rfl, by omega, h2, fun k hk => ?_⟩⟩
  · by_cases he : k = n
    · subst he; exact .inr (.inr ⟨rfl, Nat.le_refl _⟩)
    · rcases h3 k (by omega) with h | h | ⟨h, _⟩
      · exact .inl h
      · exact .inr (.inl (by omega))
      · exact .inr (.inl (by omega))
  · by_cases he : k = n
    · subst he
      rcases Int.lt_trichotomy (rk (fAt l k)) (rk (fAt l a)) with h | h | h
      · exact .inr (.inl h)
      · exact .inr (.inr ⟨h, by omega⟩)
      · exact absurd h hge
    · exact h3 k (by omega)
theorem bestAt_one {l : List Nat} {n a b : Nat} (h : BestAt l n a) (h' : BestAt l n b) : a = b := by
  obtain ⟨h1, h2, h3⟩ := h
  obtain ⟨g1, g2, g3⟩ := h'
  have c1 := h3 b g1
  have c2 := g3 a h1
  rw [g2] at c1
  rw [h2] at c2
  simp only [Bool.false_eq_true, false_or] at c1 c2
  omega
theorem bestP_one {l : List Nat} {n a b : Nat} {f g : Bool} (h : BestP l n a f) (h' : BestP l n b g) : a = b ∧ f = g := by
  rcases h with ⟨rfl, h⟩ | ⟨rfl, rfl, h⟩
  · rcases h' with ⟨rfl, h'⟩ | ⟨rfl, rfl, h'⟩
    · exact ⟨bestAt_one h h', rfl⟩
    · have := h' a h.1; rw [h.2.1] at this; cases this
  · rcases h' with ⟨rfl, h'⟩ | ⟨rfl, rfl, h'⟩
    · have := h b h'.1; rw [h'.2.1] at this; cases this
    · exact ⟨rfl, rfl⟩
theorem lastOf_num {x : Nat} (h : isN x = false) : lastOf x = 0 := by unfold lastOf; rw [if_neg (by rw [h]; decide)]
theorem lastOf_nan {x : Nat} (h : isN x = true) : lastOf x = 1 := by unfold lastOf; rw [if_pos h]
theorem rank_best {l R : List Nat} (h : IsRank l R) {a : Nat} (hb : BestAt l l.length a) : R.getD 0 0 = a := by
  obtain ⟨h1, h2, h3⟩ := hb
  have hm : a ∈ R := h.1.mem_iff.2 (List.mem_range.2 h1)
  cases R with
  | nil => cases hm
  | cons x R =>
    show x = a
    rcases List.mem_cons.1 hm with rfl | hm
    · rfl
    · have h4 := (List.pairwise_cons.1 h.2).1 a hm
      have hx := h.lt (List.mem_cons_self ..)
      exfalso
      rw [rkLtN_iff, lastOf_num h2] at h4
      rcases h3 x hx with h5 | h5 | h5
      · rw [lastOf_nan h5] at h4; omega
      · have : 0 ≤ lastOf (fAt l x) := by unfold lastOf; split <;> omega
        omega
      · have : 0 ≤ lastOf (fAt l x) := by unfold lastOf; split <;> omega
        omega
/-- Two places, one behind the other. -/
theorem rank_step {l R : List Nat} (h : IsRank l R) {i : Nat} (hi : i + 1 < R.length) (hn : isN (fAt l (R.getD (i + 1) 0)) = false) : isN (fAt l (R.getD i 0)) = false ∧ ¬ fOrd (fAt l (R.getD i 0)) (fAt l (R.getD (i + 1) 0)) < 0 := by
  have e1 : R.getD i 0 = R[i] := by simp [List.getD_eq_getElem?_getD, show i < R.length by omega]
  have e2 : R.getD (i + 1) 0 = R[i + 1] := by simp [List.getD_eq_getElem?_getD, hi]
  rw [e2] at hn
  rw [e1, e2, fOrd_negi]
  have h1 := List.pairwise_iff_getElem.1 h.2 i (i + 1) (by omega) hi (by omega)
  rw [rkLtN_iff, lastOf_num hn] at h1
  cases h2 : isN (fAt l R[i]) with
  | true => rw [lastOf_nan h2] at h1; omega
  | false => rw [lastOf_num h2] at h1; exact ⟨rfl, by omega⟩
end Go.Proofs.Ytkapidcgonjbaaa
