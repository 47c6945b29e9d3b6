/- Edits applied give the other text, in plain Lean. -/
import Derived.Test.YtipoifokcnbfnaaKy
import Derived.Test.YtipoifokcnbfnaaPf
namespace Go.Proofs.Ytipoifokcnbfnaa
set_option linter.unusedVariables false

theorem lastPut_snoc (y : List Int) (m : Int) (j : Nat) (E : List Ed) (e : Ed) : lastPut y m j (E ++ [e]) = E ++ [edPut y m j e] := by
  unfold lastPut
  simp [List.getD_eq_getElem?_getD]
theorem encs_take_succ (x : List Int) (i : Nat) (h : i < x.length) : encs (x.take (i + 1)) = encs (x.take i) ++ enc (x.getD i 0) := by
  rw [take_snocB 0 x i h, encs_append]
  simp [encs]
/-- What holds of edits on the way. -/
def ApI (x y : List Int) (i j : Nat) (last : Int) (E : List Ed) : Prop :=
  (E = [] ∧ i = 0 ∧ j = 0) ∨ ∃ E0 e i0 out, E = E0 ++ [e] ∧ E0.foldl (apStep x) (some (0, [])) = some (i0, out) ∧ 0 ≤ e.1 ∧ 0 ≤ e.2.1 ∧ i0 + e.1.toNat + e.2.1.toNat = i ∧
    out ++ (encs ((x.drop i0).take e.1.toNat) ++ e.2.2) = encs (y.take j) ∧ (last = 1 → e.2.1 = 0 ∧ e.2.2 = [])
theorem ApI.fold {x y : List Int} {i j : Nat} {last : Int} {E : List Ed} (h : ApI x y i j last E) (hi : i ≤ x.length) : E.foldl (apStep x) (some (0, [])) = some (i, encs (y.take j)) := by
  rcases h with ⟨rfl, rfl, rfl⟩ | ⟨E0, e, i0, out, rfl, h0, h1, h2, h3, h4, _⟩
  · simp [encs]
  · rw [List.foldl_append, h0]
    simp only [List.foldl_cons, List.foldl_nil, apStep]
    rw [if_neg (by omega), h3, h4]
/-- The last edit, and what stands ahead of it. -/
def ApL (x y : List Int) (i j : Nat) (m : Int) (E : List Ed) : Prop :=
  ∃ E0 e i0 out, E = E0 ++ [e] ∧ E0.foldl (apStep x) (some (0, [])) = some (i0, out) ∧ 0 ≤ e.1 ∧ 0 ≤ e.2.1 ∧ i0 + e.1.toNat + e.2.1.toNat = i ∧
    out ++ (encs ((x.drop i0).take e.1.toNat) ++ e.2.2) = encs (y.take j) ∧ (m = 1 → e.2.1 = 0 ∧ e.2.2 = [])
theorem ApI.begun {x y : List Int} {i j : Nat} {last m : Int} {E : List Ed} (h : ApI x y i j last E) (hi : i ≤ x.length) : ApL x y i j m (begun m last E) := by
  unfold Ytipoifokcnbfnaa.begun
  split
  · exact ⟨E, ed0, i, encs (y.take j), rfl, h.fold hi, by simp [ed0], by simp [ed0], by simp [ed0], by simp [ed0, encs], fun _ => ⟨rfl, rfl⟩⟩
  · rename_i hn
    unfold isNew at hn
    simp only [Bool.or_eq_true, decide_eq_true_eq, not_or, Bool.and_eq_true, beq_iff_eq, bne_iff_ne, ne_eq, not_and, Decidable.not_not] at hn
    rcases h with ⟨rfl, _, _⟩ | ⟨E0, e, i0, out, h1, h2, h3, h4, h5, h6, h7⟩
    · exact absurd rfl hn.1
    · exact ⟨E0, e, i0, out, h1, h2, h3, h4, h5, h6, fun hm => h7 (hn.2 hm)⟩
theorem ApL.keep {x y : List Int} {i j : Nat} {E : List Ed} (h : ApL x y i j 1 E) (hi : i < x.length) (hj : j < y.length) (he : x.getD i 0 = y.getD j 0) : ApI x y (i + 1) (j + 1) 1 (lastPut y 1 j E) := by
  obtain ⟨E0, ⟨a, b, c⟩, i0, out, rfl, h2, h3, h4, h5, h6, h7⟩ := h
  obtain ⟨h8, h9⟩ := h7 rfl
  simp only at h3 h4 h5 h6 h8 h9
  subst h8 h9
  refine .inr ⟨E0, (a + 1, 0, []), i0, out, by rw [lastPut_snoc]; rfl, h2, by simp only; omega, by simp, by simp only; omega, ?_, fun _ => ⟨rfl, rfl⟩⟩
  have e1 : (a + 1).toNat = a.toNat + 1 := by omega
  have e2 := encs_take_succ (x.drop i0) a.toNat (by rw [List.length_drop]; simp at h5; omega)
  have e3 : (x.drop i0).getD a.toNat 0 = x.getD i 0 := by
    simp only [List.getD_eq_getElem?_getD, List.getElem?_drop]
    rw [show i0 + a.toNat = i by simp at h5; omega]
  simp only [List.append_nil] at h6 ⊢
  rw [e1, e2, e3, he, encs_take_succ y j hj, ← List.append_assoc, h6]
theorem ApL.drop {x y : List Int} {i j : Nat} {E : List Ed} (h : ApL x y i j 2 E) : ApI x y (i + 1) j 2 (lastPut y 2 j E) := by
  obtain ⟨E0, ⟨a, b, c⟩, i0, out, rfl, h2, h3, h4, h5, h6, h7⟩ := h
  simp only at h3 h4 h5 h6
  exact .inr ⟨E0, (a, b + 1, c), i0, out, by rw [lastPut_snoc]; rfl, h2, h3, by simp only; omega, by simp only; omega, h6, fun h => by cases h⟩
theorem ApL.add {x y : List Int} {i j : Nat} {E : List Ed} (h : ApL x y i j 3 E) (hj : j < y.length) : ApI x y i (j + 1) 3 (lastPut y 3 j E) := by
  obtain ⟨E0, ⟨a, b, c⟩, i0, out, rfl, h2, h3, h4, h5, h6, h7⟩ := h
  simp only at h3 h4 h5 h6
  refine .inr ⟨E0, (a, b, c ++ enc (y.getD j 0)), i0, out, by rw [lastPut_snoc]; rfl, h2, h3, h4, h5, ?_, fun h => by cases h⟩
  simp only
  rw [encs_take_succ y j hj, ← h6]
  simp
theorem script_eq (x y : List Int) : ∀ k i j last E, x.length - i + (y.length - j) ≤ k → i ≤ x.length → j ≤ y.length → ApI x y i j last E →
    (edGo y (SC x y i j) j last E).foldl (apStep x) (some (0, [])) = some (x.length, encs y) := by
  intro k
  induction k with
  | zero =>
    intro i j last E hk hi hj h
    obtain rfl : i = x.length := by omega
    obtain rfl : j = y.length := by omega
    rw [SC_end]
    have := h.fold (Nat.le_refl _)
    rw [List.take_length] at this
    exact this
  | succ k ih =>
    intro i j last E hk hi hj h
    by_cases hij : i = x.length ∧ j = y.length
    · obtain ⟨rfl, rfl⟩ := hij
      rw [SC_end]
      have := h.fold (Nat.le_refl _)
      rw [List.take_length] at this
      exact this
    by_cases hia : i = x.length
    · have h1 := (SC_add x y i j hi (by omega) (.inl hia)).1
      rw [h1, edGo_cons]
      exact ih i (j + 1) 3 _ (by omega) hi (by omega) ((h.begun hi).add (by omega))
    · by_cases hjb : j = y.length
      · have h1 := SC_drop x y i j (by omega) (.inl hjb)
        rw [h1, edGo_cons]
        exact ih (i + 1) j 2 _ (by omega) (by omega) hj (h.begun hi).drop
      · by_cases he : x.getD i 0 = y.getD j 0
        · have h1 := SC_keep x y i j (by omega) (by omega) he
          rw [h1, edGo_cons]
          exact ih (i + 1) (j + 1) 1 _ (by omega) (by omega) (by omega) ((h.begun hi).keep (by omega) (by omega) he)
        · by_cases hc : C x y (i + 1) j + 1 = C x y i j
          · have h1 := SC_drop x y i j (by omega) (.inr ⟨by omega, he, hc⟩)
            rw [h1, edGo_cons]
            exact ih (i + 1) j 2 _ (by omega) (by omega) hj (h.begun hi).drop
          · have h1 := (SC_add x y i j hi (by omega) (.inr ⟨by omega, he, hc⟩)).1
            rw [h1, edGo_cons]
            exact ih i (j + 1) 3 _ (by omega) hi (by omega) ((h.begun hi).add (by omega))
/-- Edits applied give the other text. -/
theorem edits_apply (x y : List Int) : (edits x y).foldl (apStep x) (some (0, [])) = some (x.length, encs y) := by
  have h := script_eq x y _ 0 0 3 [] (Nat.le_refl _) (Nat.zero_le _) (Nat.zero_le _) (.inl ⟨rfl, rfl, rfl⟩)
  unfold SC at h
  exact h
/-- What an edit writes is text. -/
def Tx (e : Ed) : Prop := ∃ rs, Good rs ∧ e.2.2 = encs rs
theorem Tx.chk {e : Ed} (h : Tx e) : chkE e.2.2 = 0 := by
  obtain ⟨rs, hg, he⟩ := h
  rw [he]; unfold chkE; rw [isText_encs hg]; rfl
theorem getD_good {y : List Int} (hy : Good y) (j : Nat) : may (y.getD j 0) = true := by
  rw [List.getD_eq_getElem?_getD]
  by_cases h : j < y.length
  · rw [List.getElem?_eq_getElem h]; exact hy _ (List.getElem_mem h)
  · rw [List.getElem?_eq_none (by omega)]; decide
theorem edGo_text {y : List Int} (hy : Good y) : ∀ (ms : List Int) (j : Nat) (last : Int) (E : List Ed), (∀ e ∈ E, Tx e) → ∀ e ∈ edGo y ms j last E, Tx e := by
  intro ms
  induction ms with
  | nil => intro j last E h; exact h
  | cons m ms ih =>
    intro j last E h
    rw [edGo_cons]
    refine ih _ _ _ ?_
    have hb : ∀ e ∈ begun m last E, Tx e := by
      intro e he
      unfold begun at he
      split at he
      · rcases List.mem_append.1 he with he | he
        · exact h e he
        · rw [List.mem_singleton] at he; subst he; exact ⟨[], fun _ h => (by cases h), by simp [ed0, encs]⟩
      · exact h e he
    have hl := begun_len m last E
    generalize begun m last E = B at *
    intro e he
    unfold lastPut at he
    rcases List.mem_or_eq_of_mem_set he with he | he
    · exact hb e he
    · have hm : B.getD (B.length - 1) ed0 ∈ B := by
        have h3 : B.length - 1 < B.length := by omega
        rw [List.getD_eq_getElem?_getD, List.getElem?_eq_getElem h3]; exact List.getElem_mem h3
      obtain ⟨rs, hg, hr⟩ := hb _ hm
      rw [he]
      unfold edPut
      split
      · exact ⟨rs, hg, hr⟩
      · split
        · exact ⟨rs, hg, hr⟩
        · exact ⟨rs ++ [y.getD j 0], hg.snoc (getD_good hy j), by rw [encs_snoc, ← hr]⟩
theorem edits_text (x : List Int) {y : List Int} (hy : Good y) : ∀ e ∈ edits x y, Tx e := edGo_text hy _ _ _ _ (fun _ h => by cases h)
/-- Apply of Diff's edits. -/
theorem apply_diff (s t : List UInt8) (hs : chkE s = 0) (ht : chkE t = 0) : applyL s (edits (runesL s) (runesL t)) = (t, 0) := by
  have h1 : (edits (runesL s) (runesL t)).any (fun e => chkE e.2.2 != 0) = false := by
    rw [List.any_eq_false]
    intro e he
    rw [(edits_text _ (runesL_good t) e he).chk]; decide
  unfold applyL
  rw [h1, edits_apply]
  have h2 : encs (runesL t) = t := by
    have h3 := isText_of ht
    unfold runesL
    rw [if_pos h3]
    exact (isText_iff.1 h3).symm
  simp [hs, h2]
end Go.Proofs.Ytipoifokcnbfnaa
