/- Some of the elements, each with its parent: plain. -/
import Derived.Test.YtchbpfkjhilgiaaNd
namespace Go.Proofs.Ytchbpfkjhilgiaa
set_option linter.unusedVariables false
set_option linter.unusedSimpArgs false

def tkB (T : List Bool) (i : Nat) : Bool := T.getD i false
/-- The taken ones below a place. -/
def takenL (T : List Bool) (k : Nat) : List Nat := (List.range k).filter (tkB T)
def rankT (T : List Bool) (i : Nat) : Nat := (takenL T i).length
def numT (T : List Bool) (i : Nat) : Option Nat := if tkB T i then some (rankT T i) else none
def inv (T : List Bool) (i : Nat) : Int := if tkB T i then (rankT T i : Nat) else -1
def fixN (T : List Bool) (x : Nd) : Nd := (x.1, if x.2.1 < 0 then x.2.1 else inv T x.2.1.toNat, x.2.2)
/-- Each taken one's parent is taken. -/
def ClT (l : List Nd) (T : List Bool) : Prop := ∀ i, i < l.length → tkB T i = true → 0 ≤ parN l i → tkB T (parN l i).toNat = true
def someL (l : List Nd) (T : List Bool) (k : Nat) : List Nd := (takenL T k).map fun i => l.getD i nd0
def fixL (l : List Nd) (T : List Bool) : List Nd := (takenL T l.length).map fun i => fixN T (l.getD i nd0)

theorem takenL_succ (T : List Bool) (k : Nat) : takenL T (k + 1) = if tkB T k then takenL T k ++ [k] else takenL T k := by
  unfold takenL
  rw [List.range_succ, List.filter_append]
  cases h : tkB T k <;> simp [h]
theorem takenL_add (T : List Bool) (i d : Nat) : ∃ r, takenL T (i + d) = takenL T i ++ r := by
  induction d with
  | zero => exact ⟨[], by simp⟩
  | succ d ih =>
    obtain ⟨r, hr⟩ := ih
    rw [← Nat.add_assoc, takenL_succ, hr]
    split
    · exact ⟨r ++ [i + d], by simp⟩
    · exact ⟨r, rfl⟩
theorem takenL_mem {T : List Bool} {k i : Nat} : i ∈ takenL T k ↔ i < k ∧ tkB T i = true := by unfold takenL; rw [List.mem_filter, List.mem_range]
theorem takenL_sorted (T : List Bool) (k : Nat) : (takenL T k).Pairwise (· < ·) := List.Pairwise.filter _ List.pairwise_lt_range
theorem rank_get {T : List Bool} {i n : Nat} (hi : i < n) (h : tkB T i = true) : (takenL T n)[rankT T i]? = some i := by
  obtain ⟨r, hr⟩ := takenL_add T (i + 1) (n - (i + 1))
  rw [show i + 1 + (n - (i + 1)) = n by omega, takenL_succ, if_pos h] at hr
  rw [hr, List.append_assoc, List.getElem?_append_right (by unfold rankT; omega)]
  unfold rankT
  rw [Nat.sub_self]; rfl
theorem rank_lt {T : List Bool} {i n : Nat} (hi : i < n) (h : tkB T i = true) : rankT T i < (takenL T n).length := (List.getElem?_eq_some_iff.1 (rank_get hi h)).1
theorem rank_of {T : List Bool} {j i n : Nat} (h : (takenL T n)[j]? = some i) : i < n ∧ tkB T i = true ∧ rankT T i = j := by
  obtain ⟨h1, h2⟩ := takenL_mem.1 (List.mem_of_getElem? h)
  refine ⟨h1, h2, ?_⟩
  have h3 := rank_get h1 h2
  obtain ⟨hj, hj'⟩ := List.getElem?_eq_some_iff.1 h
  obtain ⟨hr, hr'⟩ := List.getElem?_eq_some_iff.1 h3
  have hs := List.pairwise_iff_getElem.1 (takenL_sorted T n)
  rcases Nat.lt_trichotomy (rankT T i) j with hl | hl | hl
  · have := hs _ _ hr hj hl; omega
  · exact hl
  · have := hs _ _ hj hr hl; omega
theorem fixL_len (l : List Nd) (T : List Bool) : (fixL l T).length = (takenL T l.length).length := by unfold fixL; rw [List.length_map]
theorem fixL_get {l : List Nd} {T : List Bool} {i : Nat} (hi : i < l.length) (h : tkB T i = true) : (fixL l T).getD (rankT T i) nd0 = fixN T (l.getD i nd0) := by
  unfold fixL
  rw [List.getD_eq_getElem?_getD, List.getElem?_map, rank_get hi h]; rfl
theorem fixL_key {l : List Nd} {T : List Bool} {i : Nat} (hi : i < l.length) (h : tkB T i = true) : keyN (fixL l T) (rankT T i) = keyN l i := by
  unfold keyN; rw [fixL_get hi h]; rfl
theorem fixL_par {l : List Nd} {T : List Bool} {i : Nat} (hi : i < l.length) (h : tkB T i = true) : parN (fixL l T) (rankT T i) = if parN l i < 0 then parN l i else inv T (parN l i).toNat := by
  unfold parN; rw [fixL_get hi h]; rfl
theorem fixL_at {l : List Nd} {T : List Bool} {j : Nat} (hj : j < (fixL l T).length) : ∃ i, i < l.length ∧ tkB T i = true ∧ rankT T i = j := by
  rw [fixL_len] at hj
  exact ⟨_, rank_of (List.getElem?_eq_getElem hj)⟩
theorem par_taken {l : List Nd} {T : List Bool} (hR : RightL l) (hT : ClT l T) {i : Nat} (hi : i < l.length) (h : tkB T i = true) (hp : 0 ≤ parN l i) :
    (parN l i).toNat < l.length ∧ tkB T (parN l i).toNat = true ∧ inv T (parN l i).toNat = (rankT T (parN l i).toNat : Nat) := by
  have h1 := (hR.1 i hi).2.2.1
  have h2 := hT i hi h hp
  refine ⟨by omega, h2, ?_⟩
  unfold inv; rw [if_pos h2]
theorem fixL_right {l : List Nd} {T : List Bool} (hR : RightL l) (hT : ClT l T) : RightL (fixL l T) := by
  refine ⟨fun j hj => ?_, fun j j' hjj hj' => ?_⟩
  · obtain ⟨i, hi, ht, rfl⟩ := fixL_at hj
    obtain ⟨h1, h2, h3, h4⟩ := hR.1 i hi
    refine ⟨?_, ?_, ?_, ?_⟩
    · unfold runeN; rw [fixL_get hi ht]; exact h1
    · rw [fixL_par hi ht]
      split
      · omega
      · next hp => rw [(par_taken hR hT hi ht (by omega)).2.2]; omega
    · rw [fixL_par hi ht]
      split
      · omega
      · next hp =>
        obtain ⟨p1, p2, p3⟩ := par_taken hR hT hi ht (by omega)
        have := rank_lt p1 p2
        rw [p3, fixL_len]; omega
    · rw [fixL_par hi ht, fixL_key hi ht]
      split
      · intro; omega
      · next hp =>
        obtain ⟨p1, p2, p3⟩ := par_taken hR hT hi ht (by omega)
        rw [p3, Int.toNat_natCast, fixL_key p1 p2]
        exact fun _ => h4 (by omega)
  · obtain ⟨i', hi', ht', rfl⟩ := fixL_at hj'
    obtain ⟨i, hi, ht, rfl⟩ := fixL_at (Nat.lt_trans hjj hj')
    rw [fixL_key hi ht, fixL_key hi' ht']
    have hlt : i < i' := by
      obtain ⟨a1, a2⟩ := List.getElem?_eq_some_iff.1 (rank_get hi ht)
      obtain ⟨b1, b2⟩ := List.getElem?_eq_some_iff.1 (rank_get hi' ht')
      have := List.pairwise_iff_getElem.1 (takenL_sorted T l.length) _ _ a1 b1 hjj
      rw [a2, b2] at this
      exact this
    exact hR.2 i i' hlt hi'
theorem fixL_part {l : List Nd} {T : List Bool} (hR : RightL l) (hT : ClT l T) : Forest.Part (forest l) (forest (fixL l T)) (numT T) where
  lt := by
    intro i hi j hj
    unfold numT at hj
    split at hj
    · next h => cases hj; show _ < (fixL l T).length; rw [fixL_len]; exact rank_lt hi h
    · cases hj
  onto := by
    intro j hj
    obtain ⟨i, hi, ht, rfl⟩ := fixL_at hj
    exact ⟨i, hi, by unfold numT; rw [if_pos ht]⟩
  inj := by
    intro i i' j hi hi' h h'
    unfold numT at h h'
    split at h
    · next ht =>
      split at h'
      · next ht' =>
        have e1 := rank_get hi ht
        have e2 := rank_get hi' ht'
        cases h
        injection h' with h'
        rw [h', e1] at e2
        cases e2; rfl
      · cases h'
    · cases h
  root := by
    intro i j hi h hp
    unfold numT at h
    split at h
    · next ht =>
      cases h
      have hp : (if parN l i < 0 then none else some (parN l i).toNat) = none := hp
      show (if parN (fixL l T) (rankT T i) < 0 then none else some (parN (fixL l T) (rankT T i)).toNat) = none
      split at hp
      · next hneg => rw [fixL_par hi ht, if_pos hneg, if_pos hneg]
      · cases hp
    · cases h
  par := by
    intro i j hi h p hp
    unfold numT at h
    split at h
    · next ht =>
      cases h
      have hp : (if parN l i < 0 then none else some (parN l i).toNat) = some p := hp
      split at hp
      · cases hp
      · next hpos =>
        cases hp
        obtain ⟨p1, p2, p3⟩ := par_taken hR hT hi ht (by omega)
        refine ⟨rankT T (parN l i).toNat, by unfold numT; rw [if_pos p2], ?_⟩
        show (if parN (fixL l T) (rankT T i) < 0 then none else some (parN (fixL l T) (rankT T i)).toNat) = _
        rw [fixL_par hi ht, if_neg hpos, p3, if_neg (by omega), Int.toNat_natCast]
    · cases h
  kc := by
    intro i i' j j' hi hi' h h'
    unfold numT at h h'
    split at h
    · next ht =>
      split at h'
      · next ht' =>
        cases h; cases h'
        show kCmp (keyN (fixL l T) _) (keyN (fixL l T) _) = kCmp (keyN l i) (keyN l i')
        rw [fixL_key hi ht, fixL_key hi' ht']
      · cases h'
    · cases h
theorem fixL_ord {l : List Nd} {T : List Bool} (hR : RightL l) (hT : ClT l T) : ordN (fixL l T) = (ordN l).filterMap (numT T) := by
  unfold ordN
  rw [if_pos hR, if_pos (fixL_right hR hT)]
  exact Forest.Part.ord (fixL_part hR hT) hR.ok (fixL_right hR hT).ok

/-! ### The rows on the way -/
/-- 'in', where the first k are told. -/
def inL (T : List Bool) (n k : Nat) : List Int := (List.range n).map fun i => if i < k then inv T i else 0
theorem inL_len (T : List Bool) (n k : Nat) : (inL T n k).length = n := by simp [inL]
theorem inL_zero (T : List Bool) (n : Nat) : inL T n 0 = List.replicate n 0 := by
  apply List.ext_getElem?
  intro i
  by_cases h : i < n <;> simp [inL, List.getElem?_map, h, List.getElem?_replicate, List.getElem?_range]
theorem inL_get {T : List Bool} {n i : Nat} (h : i < n) : (inL T n n)[i]? = some (inv T i) := by
  simp [inL, List.getElem?_map, h, List.getElem?_range]
theorem inL_set {T : List Bool} {n k : Nat} (h : k < n) : (inL T n k).set k (inv T k) = inL T n (k + 1) := by
  apply List.ext_getElem?
  intro i
  rw [List.getElem?_set, inL_len]
  by_cases h1 : k = i
  · subst h1
    rw [if_pos rfl, if_pos h]
    simp [inL, List.getElem?_map, h, List.getElem?_range]
  · rw [if_neg h1]
    by_cases h2 : i < n
    · simp only [inL, List.getElem?_map, List.getElem?_range h2, Option.map_some, Option.some.injEq]
      by_cases h3 : i < k
      · rw [if_pos h3, if_pos (by omega)]
      · rw [if_neg h3, if_neg (by omega)]
    · simp [inL, List.getElem?_map, List.getElem?_eq_none, h2]
theorem someL_succ (l : List Nd) (T : List Bool) (k : Nat) : someL l T (k + 1) = if tkB T k then someL l T k ++ [l.getD k nd0] else someL l T k := by
  unfold someL
  rw [takenL_succ]
  split <;> simp
theorem someL_len (l : List Nd) (T : List Bool) (k : Nat) : (someL l T k).length = rankT T k := by simp [someL, rankT]
theorem someL_le (l : List Nd) (T : List Bool) (k : Nat) : (someL l T k).length ≤ k := by
  rw [someL_len]; unfold rankT takenL
  have := List.length_filter_le (tkB T) (List.range k)
  rwa [List.length_range] at this
/-- 'some', where the first k have their new parents. -/
def partL (l : List Nd) (T : List Bool) (k : Nat) : List Nd := (fixL l T).take k ++ (someL l T l.length).drop k
theorem someL_len' (l : List Nd) (T : List Bool) : (someL l T l.length).length = (fixL l T).length := by simp [someL, fixL]
theorem partL_zero (l : List Nd) (T : List Bool) : partL l T 0 = someL l T l.length := by simp [partL]
theorem partL_all (l : List Nd) (T : List Bool) : partL l T (fixL l T).length = fixL l T := by
  unfold partL; rw [List.take_length, List.drop_of_length_le (by rw [someL_len']; exact Nat.le_refl _), List.append_nil]
theorem partL_len {l : List Nd} {T : List Bool} {k : Nat} (h : k ≤ (fixL l T).length) : (partL l T k).length = (fixL l T).length := by
  unfold partL; rw [List.length_append, List.length_take, List.length_drop, someL_len']; omega
theorem partL_get {l : List Nd} {T : List Bool} {k : Nat} (h : k < (fixL l T).length) :
    ∃ i, i < l.length ∧ tkB T i = true ∧ (partL l T k)[k]? = some (l.getD i nd0) ∧ (partL l T k).set k (fixN T (l.getD i nd0)) = partL l T (k + 1) := by
  obtain ⟨i, hi, ht, hr⟩ := fixL_at h
  have hs : (someL l T l.length)[k]? = some (l.getD i nd0) := by
    unfold someL; rw [List.getElem?_map, ← hr, rank_get hi ht]; rfl
  have hf : (fixL l T)[k]? = some (fixN T (l.getD i nd0)) := by
    unfold fixL; rw [List.getElem?_map, ← hr, rank_get hi ht]; rfl
  have hl : ((fixL l T).take k).length = k := by rw [List.length_take]; omega
  have hks : k < (someL l T l.length).length := by rw [someL_len']; exact h
  have hd : (someL l T l.length).drop k = l.getD i nd0 :: (someL l T l.length).drop (k + 1) := by
    rw [List.drop_eq_getElem_cons hks]
    congr 1
    exact (List.getElem?_eq_some_iff.1 hs).2
  refine ⟨i, hi, ht, ?_, ?_⟩
  · unfold partL
    rw [List.getElem?_append_right (by omega), hl, Nat.sub_self, List.getElem?_drop, Nat.add_zero, hs]
  · unfold partL
    rw [List.set_append_right _ _ (by omega), hl, Nat.sub_self, hd, List.set_cons_zero, List.take_add_one, hf]
    simp
theorem fixN_pos {T : List Bool} {x : Nd} (h : 0 ≤ x.2.1) : fixN T x = (x.1, inv T x.2.1.toNat, x.2.2) := by unfold fixN; rw [if_neg (by omega)]
theorem fixN_neg {T : List Bool} {x : Nd} (h : x.2.1 < 0) : fixN T x = x := by unfold fixN; rw [if_pos h]
/-- 'want', where the first k of the order are told. -/
def wantL (O : List Nat) (T : List Bool) (k : Nat) : List Nat := (O.take k).filterMap (numT T)
theorem wantL_succ {O : List Nat} {T : List Bool} {k : Nat} (h : k < O.length) : wantL O T (k + 1) = if tkB T (O.getD k 0) then wantL O T k ++ [rankT T (O.getD k 0)] else wantL O T k := by
  unfold wantL
  have : O.take (k + 1) = O.take k ++ [O.getD k 0] := by
    rw [List.take_succ_eq_append_getElem h, List.getD_eq_getElem?_getD, List.getElem?_eq_getElem h]; rfl
  rw [this, List.filterMap_append]
  generalize O.getD k 0 = x
  unfold numT
  split <;> simp_all
theorem wantL_le (O : List Nat) (T : List Bool) (k : Nat) : (wantL O T k).length ≤ O.length := by
  unfold wantL
  have h1 := List.length_filterMap_le (numT T) (O.take k)
  rw [List.length_take] at h1; omega

/-! ### Taking -/
def freeT (T : List Bool) : Nat := (T.filter (! ·)).length
theorem freeT_set : ∀ {T : List Bool} {i : Nat}, i < T.length → tkB T i = false → freeT (T.set i true) + 1 = freeT T
  | [], i, h, _ => by simp at h
  | b :: T, 0, _, h => by
    have : b = false := h
    subst this
    simp [freeT]
  | b :: T, i + 1, h, ht => by
    have := freeT_set (T := T) (i := i) (by simpa using h) ht
    unfold freeT at this ⊢
    rw [List.set_cons_succ]
    cases b <;> simp <;> omega
theorem tkB_set {T : List Bool} {i j : Nat} (hi : i < T.length) : tkB (T.set i true) j = (tkB T j || decide (i = j)) := by
  unfold tkB
  rw [List.getD_eq_getElem?_getD, List.getElem?_set, List.getD_eq_getElem?_getD]
  by_cases h : i = j
  · subst h; rw [if_pos rfl, if_pos hi]; simp
  · rw [if_neg h]; simp [h]
theorem clT_set {l : List Nd} {T : List Bool} {i : Nat} (hl : T.length = l.length) (hi : i < l.length) (h : ClT l T) (hp : 0 ≤ parN l i → tkB T (parN l i).toNat = true) : ClT l (T.set i true) := by
  intro j hj ht hpj
  rw [tkB_set (by omega)] at ht ⊢
  by_cases h1 : i = j
  · subst h1; rw [hp hpj]; rfl
  · have : tkB T j = true := by simpa [h1] using ht
    rw [h j hj this hpj]; rfl
theorem clT_start (l : List Nd) (n : Nat) : ClT l (List.replicate n false) := by
  intro i _ h
  unfold tkB at h
  rw [List.getD_eq_getElem?_getD, List.getElem?_replicate] at h
  split at h <;> simp at h
end Go.Proofs.Ytchbpfkjhilgiaa
