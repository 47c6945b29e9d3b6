/- Texts with a common beginning: plain. -/
import Derived.Test.YtipoifokcnbfnaaKu
namespace Go.Proofs.Ytipoifokcnbfnaa
set_option linter.unusedVariables false

theorem encs_app (a b : List Int) : encs (a ++ b) = encs a ++ encs b := by simp [encs]
theorem Parsed.append {a b : List UInt8} {rs rs' : List Int} {t t' : List UInt8} (h : Parsed a rs t) (h' : Parsed (t ++ b) rs' t') : Parsed (a ++ b) (rs ++ rs') t' := by
  refine ⟨?_, ?_, h'.stop⟩
  · intro x hx
    rcases List.mem_append.1 hx with hx | hx
    · exact h.good x hx
    · exact h'.good x hx
  · rw [encs_app, List.append_assoc, ← h'.eq, ← List.append_assoc, ← h.eq]
theorem isText_of {l : List UInt8} (h : chkE l = 0) : isText l = true := by
  unfold chkE at h; split at h
  · assumption
  · cases h
theorem front_runes {f a : List UInt8} (hf : chkE f = 0) (ha : chkE a = 0) : chkE (f ++ a) = 0 ∧ runesL (f ++ a) = runesL f ++ runesL a := by
  have tf := isText_of hf
  have ta := isText_of ha
  have pf := parse_parsed f
  have pa := parse_parsed a
  have ef : (parse f).2 = [] := by simpa [isText] using tf
  have ea : (parse a).2 = [] := by simpa [isText] using ta
  rw [ef] at pf
  rw [ea] at pa
  have pab := (pf.append (t := []) (by simpa using pa)).parse_eq
  have tab : isText (f ++ a) = true := by unfold isText; rw [pab]; rfl
  refine ⟨by unfold chkE; rw [tab]; rfl, ?_⟩
  unfold runesL
  rw [tab, tf, ta, if_pos rfl, if_pos rfl, if_pos rfl, pab]
theorem script_front : ∀ (f x y : List Int), script (f ++ x) (f ++ y) = List.replicate f.length 1 ++ script x y
  | [], x, y => rfl
  | u :: f, x, y => by rw [List.cons_append, List.cons_append, script_keep, script_front f x y]; rfl
theorem cst_front : ∀ (f x y : List Int), cst (f ++ x) (f ++ y) = cst x y
  | [], x, y => rfl
  | u :: f, x, y => by rw [List.cons_append, List.cons_append, cst_eq, cst_front f x y]
/-- The first edit keeps no less. -/
theorem lastPut_first (y : List Int) (m : Int) (j : Nat) (k a : Int) (c : List UInt8) (E : List Ed) : ∃ k' a' c' E', lastPut y m j ((k, a, c) :: E) = (k', a', c') :: E' ∧ k ≤ k' := by
  cases E with
  | nil =>
    refine ⟨(edPut y m j (k, a, c)).1, (edPut y m j (k, a, c)).2.1, (edPut y m j (k, a, c)).2.2, [], rfl, ?_⟩
    unfold edPut
    split
    · simp only; omega
    · split
      · simp only; omega
      · simp only; omega
  | cons e E =>
    exact ⟨k, a, c, (e :: E).set E.length (edPut y m j (((k, a, c) :: e :: E).getD (E.length + 1) ed0)), rfl, Int.le_refl _⟩
theorem begun_first (m last : Int) (e : Ed) (E : List Ed) : ∃ E', begun m last (e :: E) = e :: E' := by
  unfold begun
  split
  · exact ⟨_, List.cons_append⟩
  · exact ⟨_, rfl⟩
theorem edGo_first (y : List Int) : ∀ (ms : List Int) (j : Nat) (last k a : Int) (c : List UInt8) (E : List Ed), ∃ k' a' c' E', edGo y ms j last ((k, a, c) :: E) = (k', a', c') :: E' ∧ k ≤ k'
  | [], j, last, k, a, c, E => ⟨k, a, c, E, rfl, Int.le_refl _⟩
  | m :: ms, j, last, k, a, c, E => by
    rw [edGo_cons]
    obtain ⟨E1, h1⟩ := begun_first m last (k, a, c) E
    rw [h1]
    obtain ⟨k2, a2, c2, E2, h2, h3⟩ := lastPut_first y m j k a c E1
    rw [h2]
    obtain ⟨k4, a4, c4, E4, h4, h5⟩ := edGo_first y ms (jNext m j) m k2 a2 c2 E2
    exact ⟨k4, a4, c4, E4, h4, by omega⟩
theorem ahead_first (f x y : List Int) (h : f.length ≠ 0) : ∃ k a c E, edits (f ++ x) (f ++ y) = (k, a, c) :: E ∧ (f.length : Int) ≤ k := by
  unfold edits
  rw [script_front]
  obtain ⟨n, hn⟩ : ∃ n, f.length = n + 1 := ⟨f.length - 1, by omega⟩
  rw [hn, first_keep]
  obtain ⟨k, a, c, E, h1, h2⟩ := edGo_first (f ++ y) (script x y) (0 + (n + 1)) 1 ((n : Int) + 1) 0 [] []
  exact ⟨k, a, c, E, h1, by omega⟩
theorem bytes_app (a b : ByteArray) : (a ++ b).data.toList = a.data.toList ++ b.data.toList := by
  rw [ByteArray.data_append]; simp
/-- Two texts, and the same behind a common beginning. -/
theorem ahead_law (f a b : ByteArray) (hf : chkE f.data.toList = 0) (hab : dC a b = 0) : dC (f ++ a) (f ++ b) = 0 ∧ cntN f.data.toList = (runesL f.data.toList).length ∧ costE (dE (f ++ a) (f ++ b)) = costE (dE a b) ∧
    ((runesL f.data.toList).length = 0 → dE (f ++ a) (f ++ b) = dE a b) ∧ ((runesL f.data.toList).length ≠ 0 → ∃ k x c E, dE (f ++ a) (f ++ b) = (k, x, c) :: E ∧ ((runesL f.data.toList).length : Int) ≤ k) := by
  have hh : chkE a.data.toList = 0 ∧ chkE b.data.toList = 0 := by
    unfold dC at hab
    split at hab
    · assumption
    · cases hab
  obtain ⟨h1, h2⟩ := front_runes hf hh.1
  obtain ⟨h3, h4⟩ := front_runes hf hh.2
  have h5 : dE (f ++ a) (f ++ b) = edits (runesL f.data.toList ++ runesL a.data.toList) (runesL f.data.toList ++ runesL b.data.toList) := by
    unfold dE
    rw [bytes_app, bytes_app, if_pos ⟨h1, h3⟩, h2, h4]
  have h6 : dE a b = edits (runesL a.data.toList) (runesL b.data.toList) := by unfold dE; rw [if_pos hh]
  refine ⟨by unfold dC; rw [bytes_app, bytes_app, if_pos ⟨h1, h3⟩], ?_, ?_, fun h => ?_, fun h => ?_⟩
  · have := isText_of hf
    unfold cntN runesL
    rw [this]; rfl
  · rw [h5, h6, edits_cost _ _ (by intro x hx; rcases List.mem_append.1 hx with h | h; exact runesL_good _ x h; exact runesL_good _ x h), edits_cost _ _ (runesL_good _), cst_front]
  · rw [h5, h6, List.length_eq_zero_iff.1 h]; rfl
  · rw [h5]; exact ahead_first _ _ _ h
end Go.Proofs.Ytipoifokcnbfnaa
