/- The least cost of a script, in plain Lean; the lists of the way back, and what they tell. -/
namespace Go.Proofs.Ytipoifokcnbfnaa
set_option linter.unusedVariables false

/-- What the rest costs. -/
def cst : List Int → List Int → Nat
  | [], y => y.length
  | u :: x, [] => x.length + 1
  | u :: x, v :: y => if u = v then cst x y else if cst x (v :: y) < cst (u :: x) y then 1 + cst x (v :: y) else 1 + cst (u :: x) y
termination_by x y => x.length + y.length
theorem cst_nil (y : List Int) : cst [] y = y.length := by unfold cst; rfl
theorem cst_nil' (x : List Int) : cst x [] = x.length := by cases x <;> (unfold cst; simp)
theorem cst_eq (u : Int) (x y : List Int) : cst (u :: x) (u :: y) = cst x y := by rw [cst]; simp
theorem cst_ne (u v : Int) (x y : List Int) (h : u ≠ v) : cst (u :: x) (v :: y) = 1 + min (cst x (v :: y)) (cst (u :: x) y) := by
  rw [cst, if_neg h]; split <;> omega
theorem cst_adj : ∀ n, ∀ x y : List Int, x.length + y.length = n →
    (∀ u, cst (u :: x) y ≤ cst x y + 1 ∧ cst x y ≤ cst (u :: x) y + 1) ∧ (∀ v, cst x (v :: y) ≤ cst x y + 1 ∧ cst x y ≤ cst x (v :: y) + 1) := by
  intro n
  induction n using Nat.strongRecOn with
  | ind n ih =>
    intro x y hn
    constructor
    · intro u
      cases y with
      | nil => simp [cst_nil']; omega
      | cons v y =>
        simp only [List.length_cons] at hn
        obtain ⟨h1, h2⟩ := ih (x.length + y.length) (by omega) x y rfl
        have hA := h1 u
        have hB := h2 v
        by_cases huv : u = v
        · subst huv; rw [cst_eq]; omega
        · rw [cst_ne _ _ _ _ huv]; omega
    · intro v
      cases x with
      | nil => simp [cst_nil]; omega
      | cons u x =>
        simp only [List.length_cons] at hn
        obtain ⟨h1, h2⟩ := ih (x.length + y.length) (by omega) x y rfl
        have hA := h1 u
        have hB := h2 v
        by_cases huv : u = v
        · subst huv; rw [cst_eq]; omega
        · rw [cst_ne _ _ _ _ huv]; omega
theorem cst_A (u : Int) (x y : List Int) : cst (u :: x) y ≤ cst x y + 1 ∧ cst x y ≤ cst (u :: x) y + 1 := (cst_adj _ x y rfl).1 u
theorem cst_B (v : Int) (x y : List Int) : cst x (v :: y) ≤ cst x y + 1 ∧ cst x y ≤ cst x (v :: y) + 1 := (cst_adj _ x y rfl).2 v
theorem cst_D (u v : Int) (x y : List Int) : cst x y ≤ cst (u :: x) (v :: y) := by
  by_cases h : u = v
  · subst h; rw [cst_eq]; omega
  · rw [cst_ne _ _ _ _ h]
    have h1 := (cst_A u x y).2
    have h2 := (cst_B v x y).2
    omega
theorem cst_len : ∀ n, ∀ x y : List Int, x.length + y.length = n → x.length ≤ y.length + cst x y ∧ y.length ≤ x.length + cst x y ∧ cst x y ≤ x.length + y.length ∧ (cst x y) % 2 = (x.length + y.length) % 2 := by
  intro n
  induction n using Nat.strongRecOn with
  | ind n ih =>
    intro x y hn
    cases x with
    | nil => simp [cst_nil]
    | cons u x =>
      cases y with
      | nil => simp [cst_nil']
      | cons v y =>
        simp only [List.length_cons] at hn ⊢
        by_cases huv : u = v
        · subst huv
          rw [cst_eq]
          have := ih (x.length + y.length) (by omega) x y rfl
          omega
        · rw [cst_ne _ _ _ _ huv]
          have h1 := ih (x.length + (y.length + 1)) (by omega) x (v :: y) rfl
          have h2 := ih (x.length + 1 + y.length) (by omega) (u :: x) y rfl
          simp only [List.length_cons] at h1 h2
          omega
theorem cst_symm : ∀ n, ∀ x y : List Int, x.length + y.length = n → cst x y = cst y x := by
  intro n
  induction n using Nat.strongRecOn with
  | ind n ih =>
    intro x y hn
    cases x with
    | nil => simp [cst_nil, cst_nil']
    | cons u x =>
      cases y with
      | nil => simp [cst_nil, cst_nil']
      | cons v y =>
        simp only [List.length_cons] at hn
        by_cases huv : u = v
        · subst huv
          rw [cst_eq, cst_eq]
          exact ih (x.length + y.length) (by omega) x y rfl
        · rw [cst_ne _ _ _ _ huv, cst_ne _ _ _ _ (fun h => huv h.symm), ih (x.length + (y.length + 1)) (by omega) x (v :: y) rfl, ih (x.length + 1 + y.length) (by omega) (u :: x) y rfl]
          omega

/-- What the rest costs from a place on. -/
def C (a b : List Int) (i j : Nat) : Nat := cst (a.drop i) (b.drop j)
theorem drop_cons (a : List Int) (i : Nat) (h : i < a.length) : a.drop i = a.getD i 0 :: a.drop (i + 1) := by
  rw [List.drop_eq_getElem_cons h]; simp [h]
theorem C_n (a b : List Int) (j : Nat) : C a b a.length j = b.length - j := by unfold C; rw [List.drop_length, cst_nil, List.length_drop]
theorem C_m (a b : List Int) (i : Nat) : C a b i b.length = a.length - i := by unfold C; rw [List.drop_length, cst_nil', List.length_drop]
theorem C_eq (a b : List Int) (i j : Nat) (hi : i < a.length) (hj : j < b.length) (h : a.getD i 0 = b.getD j 0) : C a b i j = C a b (i + 1) (j + 1) := by
  unfold C; rw [drop_cons a i hi, drop_cons b j hj, h, cst_eq]
theorem C_ne (a b : List Int) (i j : Nat) (hi : i < a.length) (hj : j < b.length) (h : a.getD i 0 ≠ b.getD j 0) : C a b i j = 1 + min (C a b (i + 1) j) (C a b i (j + 1)) := by
  unfold C; rw [drop_cons a i hi, drop_cons b j hj, cst_ne _ _ _ _ h]
theorem C_A (a b : List Int) (i j : Nat) (hi : i < a.length) : C a b i j ≤ C a b (i + 1) j + 1 ∧ C a b (i + 1) j ≤ C a b i j + 1 := by
  unfold C; rw [drop_cons a i hi]; exact cst_A _ _ _
theorem C_B (a b : List Int) (i j : Nat) (hj : j < b.length) : C a b i j ≤ C a b i (j + 1) + 1 ∧ C a b i (j + 1) ≤ C a b i j + 1 := by
  unfold C; rw [drop_cons b j hj]; exact cst_B _ _ _
theorem C_D (a b : List Int) (i j : Nat) (hi : i < a.length) (hj : j < b.length) : C a b (i + 1) (j + 1) ≤ C a b i j := by
  unfold C; rw [drop_cons a i hi, drop_cons b j hj]; exact cst_D _ _ _ _
theorem C_Ds (a b : List Int) (i j : Nat) : ∀ s, i + s ≤ a.length → j + s ≤ b.length → C a b (i + s) (j + s) ≤ C a b i j
  | 0, _, _ => Nat.le_refl _
  | s + 1, h1, h2 => Nat.le_trans (C_D a b (i + s) (j + s) (by omega) (by omega)) (C_Ds a b i j s (by omega) (by omega))
theorem C_len (a b : List Int) (i j : Nat) (hi : i ≤ a.length) (hj : j ≤ b.length) :
    a.length - i ≤ b.length - j + C a b i j ∧ b.length - j ≤ a.length - i + C a b i j ∧ C a b i j ≤ a.length - i + (b.length - j) ∧ C a b i j % 2 = (a.length - i + (b.length - j)) % 2 := by
  have := cst_len _ (a.drop i) (b.drop j) rfl
  simp only [List.length_drop] at this
  exact this
/-- It costs at least as much as the way along. -/
theorem C_from (a b : List Int) : ∀ i, i ≤ a.length → ∀ j, j ≤ b.length → C a b 0 0 ≤ i + j + C a b i j := by
  intro i
  induction i with
  | zero =>
    intro _ j
    induction j with
    | zero => intro _; omega
    | succ j ih => intro h; have := ih (by omega); have := (C_B a b 0 j (by omega)).1; omega
  | succ i ih =>
    intro h j hj
    have := ih (by omega) j hj
    have := (C_A a b i j (by omega)).1
    omega
/-- On a diagonal above or left, all the more so. -/
theorem C_side (a b : List Int) (j : Nat) : j ≤ b.length → C a b 0 0 ≤ j + C a b 0 j := by
  intro h; have := C_from a b 0 (by omega) j h; omega
theorem C_side' (a b : List Int) (i : Nat) : i ≤ a.length → C a b 0 0 ≤ i + C a b i 0 := by
  intro h; have := C_from a b i h 0 (by omega); omega

/-! ### The lists of the way back -/
def never : Int := 2147483647
def slide (a b : List Int) (k : Int) : Nat → Nat
  | 0 => 0
  | i + 1 => if 0 < (i : Int) + 1 - k ∧ a.getD i 0 = b.getD ((i : Int) - k).toNat 0 then slide a b k i else i + 1
def try1 (k best i : Int) : Int := if 0 ≤ i ∧ 0 ≤ i - k then min best i else best
def diag (a b : List Int) (d t : Nat) : Int := (a.length : Int) - b.length - d + 2 * t
def best (k : Int) (d : Nat) (ahead : List Int) (t : Nat) : Int :=
  let b1 := if t < d ∧ ahead.getD t never ≠ never then try1 k never (ahead.getD t never - 1) else never
  if 0 < t ∧ ahead.getD (t - 1) never ≠ never then try1 k b1 (ahead.getD (t - 1) never) else b1
def entry (a b : List Int) (d : Nat) (ahead : List Int) (t : Nat) : Int :=
  let x := best (diag a b d t) d ahead t
  if x ≠ never then (slide a b (diag a b d t) x.toNat : Int) else never
def PL (a b : List Int) : Nat → List Int
  | 0 => [(slide a b ((a.length : Int) - b.length) a.length : Int)]
  | d + 1 => (List.range (d + 2)).map (entry a b (d + 1) (PL a b d))
theorem PL_len (a b : List Int) (d : Nat) : (PL a b d).length = d + 1 := by
  cases d <;> simp [PL]
theorem PL_get (a b : List Int) (d t : Nat) (ht : t ≤ d + 1) : (PL a b (d + 1)).getD t never = entry a b (d + 1) (PL a b d) t := by
  have h : t < d + 2 := by omega
  simp [PL, h]

theorem slide_le (a b : List Int) (k : Int) : ∀ i, slide a b k i ≤ i
  | 0 => Nat.le_refl _
  | i + 1 => by
    unfold slide
    split
    · have := slide_le a b k i; omega
    · exact Nat.le_refl _
/-- Sliding stays in range and costs nothing. -/
theorem slide_ok (a b : List Int) (k : Int) (c : Nat) : ∀ i : Nat, i ≤ a.length → 0 ≤ (i : Int) - k → (i : Int) - k ≤ b.length → C a b i ((i : Int) - k).toNat ≤ c →
    0 ≤ (slide a b k i : Int) - k ∧ (slide a b k i : Int) - k ≤ b.length ∧ C a b (slide a b k i) ((slide a b k i : Int) - k).toNat ≤ c
  | 0, h1, h2, h3, h4 => by unfold slide; exact ⟨h2, h3, h4⟩
  | i + 1, h1, h2, h3, h4 => by
    unfold slide
    split
    · rename_i h
      have he : (((i + 1 : Nat) : Int) - k).toNat = ((i : Int) - k).toNat + 1 := by omega
      rw [he, ← C_eq a b i _ (by omega) (by omega) h.2] at h4
      exact slide_ok a b k c i (by omega) (by omega) (by omega) h4
    · exact ⟨h2, h3, h4⟩
/-- Sliding goes back over what is the same. -/
theorem slide_far (a b : List Int) (i j : Nat) (s : Nat) (hm : ∀ r, r < s → a.getD (i + r) 0 = b.getD (j + r) 0) : ∀ p, p ≤ i + s → slide a b ((i : Int) - j) p ≤ i
  | 0, h => by unfold slide; omega
  | p + 1, h => by
    by_cases hp : p + 1 ≤ i
    · exact Nat.le_trans (slide_le _ _ _ _) hp
    · obtain ⟨r, hr⟩ : ∃ r, p = i + r := ⟨p - i, by omega⟩
      subst hr
      unfold slide
      have hx : a.getD (i + r) 0 = b.getD (((i + r : Nat) : Int) - ((i : Int) - j)).toNat 0 := by
        rw [show (((i + r : Nat) : Int) - ((i : Int) - j)).toNat = j + r by omega]
        exact hm r (by omega)
      rw [if_pos ⟨by omega, hx⟩]
      exact slide_far a b i j s hm (i + r) (by omega)

/-- What a list's entry is worth. -/
def Snd (a b : List Int) (d : Nat) (k p : Int) : Prop := p ≠ never → 0 ≤ p ∧ p ≤ a.length ∧ 0 ≤ p - k ∧ p - k ≤ b.length ∧ C a b p.toNat (p - k).toNat ≤ d
theorem try1_cases (k x i : Int) : try1 k x i = x ∨ (try1 k x i = i ∧ 0 ≤ i ∧ 0 ≤ i - k) := by
  unfold try1
  split
  · rename_i h
    rcases Int.le_total x i with h1 | h1
    · left; omega
    · right; exact ⟨by omega, h⟩
  · exact .inl rfl
theorem snd_slide (a b : List Int) (d : Nat) (k x : Int) (h : Snd a b d k x) : Snd a b d k (if x ≠ never then (slide a b k x.toNat : Int) else never) := by
  intro hne
  by_cases hx : x = never
  · rw [if_neg (by simpa using hx)] at hne; exact absurd rfl hne
  · rw [if_pos hx]
    obtain ⟨h1, h2, h3, h4, h5⟩ := h hx
    have hxt : ((x.toNat : Nat) : Int) = x := by omega
    have h6 := slide_ok a b k d x.toNat (by omega) (by omega) (by omega) (by rw [hxt]; exact h5)
    have h7 := slide_le a b k x.toNat
    refine ⟨by omega, by omega, h6.1, h6.2.1, ?_⟩
    rw [Int.toNat_natCast]; exact h6.2.2
theorem best_snd (a b : List Int) (d t : Nat) (ih : ∀ t, t ≤ d → Snd a b d (diag a b d t) ((PL a b d).getD t never)) (ht : t ≤ d + 1) : Snd a b (d + 1) (diag a b (d + 1) t) (best (diag a b (d + 1) t) (d + 1) (PL a b d) t) := by
  have hb1 : Snd a b (d + 1) (diag a b (d + 1) t) (if t < d + 1 ∧ (PL a b d).getD t never ≠ never then try1 (diag a b (d + 1) t) never ((PL a b d).getD t never - 1) else never) := by
    split
    · rename_i h
      rcases try1_cases (diag a b (d + 1) t) never ((PL a b d).getD t never - 1) with e | ⟨e, e1, e2⟩
      · rw [e]; intro h; exact absurd rfl h
      · rw [e]; intro _
        obtain ⟨h1, h2, h3, h4, h5⟩ := ih t (by omega) h.2
        have hk : diag a b (d + 1) t = diag a b d t - 1 := by unfold diag; omega
        generalize (PL a b d).getD t never = p at *
        rw [hk] at *
        refine ⟨e1, by omega, e2, by omega, ?_⟩
        have hA := (C_A a b (p - 1).toNat (p - diag a b d t).toNat (by omega)).1
        rw [show (p - 1).toNat + 1 = p.toNat by omega] at hA
        rw [show (p - 1 - (diag a b d t - 1)).toNat = (p - diag a b d t).toNat by omega]
        omega
    · intro h; exact absurd rfl h
  unfold best
  simp only
  split
  · rename_i h
    rcases try1_cases (diag a b (d + 1) t) (if t < d + 1 ∧ (PL a b d).getD t never ≠ never then try1 (diag a b (d + 1) t) never ((PL a b d).getD t never - 1) else never) ((PL a b d).getD (t - 1) never) with e | ⟨e, e1, e2⟩
    · rw [e]; exact hb1
    · rw [e]; intro _
      obtain ⟨h1, h2, h3, h4, h5⟩ := ih (t - 1) (by omega) h.2
      have hk : diag a b (d + 1) t = diag a b d (t - 1) + 1 := by unfold diag; omega
      generalize (PL a b d).getD (t - 1) never = p at *
      rw [hk] at *
      refine ⟨e1, h2, e2, by omega, ?_⟩
      have hB := (C_B a b p.toNat (p - (diag a b d (t - 1) + 1)).toNat (by omega)).1
      rw [show (p - (diag a b d (t - 1) + 1)).toNat + 1 = (p - diag a b d (t - 1)).toNat by omega] at hB
      omega
  · exact hb1
theorem PL_snd (a b : List Int) (hn : (a.length : Int) < never) : ∀ d t, t ≤ d → Snd a b d (diag a b d t) ((PL a b d).getD t never)
  | 0, t, ht => by
    have ht0 : t = 0 := by omega
    subst ht0
    have hk : diag a b 0 0 = (a.length : Int) - b.length := by unfold diag; omega
    rw [hk]
    show Snd a b 0 _ ((slide a b ((a.length : Int) - b.length) a.length : Nat) : Int)
    intro _
    have h := slide_ok a b ((a.length : Int) - b.length) 0 a.length (Nat.le_refl _) (by omega) (by omega) (by
      rw [show ((a.length : Int) - ((a.length : Int) - b.length)).toNat = b.length by omega, C_n]; omega)
    have h2 := slide_le a b ((a.length : Int) - b.length) a.length
    refine ⟨by omega, by omega, h.1, h.2.1, ?_⟩
    rw [Int.toNat_natCast]; exact h.2.2
  | d + 1, t, ht => by
    rw [PL_get a b d t ht]
    unfold entry
    exact snd_slide a b (d + 1) _ _ (best_snd a b d t (PL_snd a b hn d) ht)

/-- The first place where the two part, on from here. -/
theorem part_at (a b : List Int) : ∀ n i j, a.length - i = n → i ≤ a.length → j ≤ b.length → ∃ s, i + s ≤ a.length ∧ j + s ≤ b.length ∧ (∀ r, r < s → a.getD (i + r) 0 = b.getD (j + r) 0) ∧ C a b (i + s) (j + s) = C a b i j ∧
    (i + s = a.length ∨ j + s = b.length ∨ a.getD (i + s) 0 ≠ b.getD (j + s) 0) := by
  intro n
  induction n with
  | zero => intro i j h hi hj; exact ⟨0, by omega, by omega, fun r hr => by omega, rfl, .inl (by omega)⟩
  | succ n ih =>
    intro i j h hi hj
    by_cases hjm : j = b.length
    · exact ⟨0, by omega, by omega, fun r hr => by omega, rfl, .inr (.inl (by omega))⟩
    by_cases he : a.getD i 0 = b.getD j 0
    · obtain ⟨s, h1, h2, h3, h4, h5⟩ := ih (i + 1) (j + 1) (by omega) (by omega) (by omega)
      refine ⟨s + 1, by omega, by omega, fun r hr => ?_, ?_, ?_⟩
      · cases r with
        | zero => exact he
        | succ r => have := h3 r (by omega); rwa [show i + 1 + r = i + (r + 1) by omega, show j + 1 + r = j + (r + 1) by omega] at this
      · rw [C_eq a b i j (by omega) (by omega) he, ← h4, show i + 1 + s = i + (s + 1) by omega, show j + 1 + s = j + (s + 1) by omega]
      · rwa [show i + 1 + s = i + (s + 1) by omega, show j + 1 + s = j + (s + 1) by omega] at h5
    · exact ⟨0, by omega, by omega, fun r hr => by omega, rfl, .inr (.inr he)⟩
theorem step_at (a b : List Int) (i j d : Nat) (hi : i ≤ a.length) (hj : j ≤ b.length) (h : C a b i j = d + 1) (hp : i = a.length ∨ j = b.length ∨ a.getD i 0 ≠ b.getD j 0) :
    (i < a.length ∧ C a b (i + 1) j = d) ∨ (j < b.length ∧ C a b i (j + 1) = d) := by
  by_cases h1 : i = a.length
  · subst h1; rw [C_n] at h
    right; refine ⟨by omega, ?_⟩; rw [C_n]; omega
  by_cases h2 : j = b.length
  · subst h2; rw [C_m] at h
    left; refine ⟨by omega, ?_⟩; rw [C_m]; omega
  have h3 : a.getD i 0 ≠ b.getD j 0 := by
    rcases hp with h | h | h
    · exact absurd h h1
    · exact absurd h h2
    · exact h
  rw [C_ne a b i j (by omega) (by omega) h3] at h
  rcases Nat.le_total (C a b (i + 1) j) (C a b i (j + 1)) with h4 | h4
  · left; exact ⟨by omega, by omega⟩
  · right; exact ⟨by omega, by omega⟩
theorem try1_le (k x i : Int) : try1 k x i ≤ x := by unfold try1; split <;> omega
theorem try1_le' (k x i : Int) (h1 : 0 ≤ i) (h2 : 0 ≤ i - k) : try1 k x i ≤ i := by unfold try1; rw [if_pos ⟨h1, h2⟩]; omega
/-- Each place that lies on a way that costs no more is told. -/
theorem PL_cpl (a b : List Int) (hn : (a.length : Int) < never) : ∀ d i j, i ≤ a.length → j ≤ b.length → C a b i j = d → (i : Int) - j + d ≤ C a b 0 0 → (j : Int) - i + d ≤ C a b 0 0 →
    ∃ t, t ≤ d ∧ diag a b d t = (i : Int) - j ∧ (PL a b d).getD t never ≤ i := by
  intro d
  induction d with
  | zero =>
    intro i j hi hj hc _ _
    obtain ⟨s, h1, h2, h3, h4, h5⟩ := part_at a b _ i j rfl hi hj
    have hl := C_len a b (i + s) (j + s) h1 h2
    rw [h4, hc] at hl
    have hs : i + s = a.length ∧ j + s = b.length := by
      by_cases e1 : i + s = a.length
      · omega
      · exfalso
        have hne : a.getD (i + s) 0 ≠ b.getD (j + s) 0 := by
          rcases h5 with h | h | h
          · omega
          · omega
          · exact h
        have := C_ne a b (i + s) (j + s) (by omega) (by omega) hne
        omega
    refine ⟨0, by omega, by unfold diag; omega, ?_⟩
    show ((slide a b ((a.length : Int) - b.length) a.length : Nat) : Int) ≤ i
    rw [show (a.length : Int) - b.length = (i : Int) - j by omega]
    have := slide_far a b i j s h3 a.length (by omega)
    omega
  | succ d ih =>
    intro i j hi hj hc hD1 hD2
    obtain ⟨s, h1, h2, h3, h4, h5⟩ := part_at a b _ i j rfl hi hj
    rw [hc] at h4
    have hl := C_len a b i j hi hj
    -- the entry's number
    have hpar : ∃ t : Nat, t ≤ d + 1 ∧ diag a b (d + 1) t = (i : Int) - j := by
      refine ⟨(((i : Int) - j - ((a.length : Int) - b.length - (d + 1))) / 2).toNat, ?_, ?_⟩
      · omega
      · unfold diag; omega
    obtain ⟨t, ht, hk⟩ := hpar
    refine ⟨t, ht, hk, ?_⟩
    rw [PL_get a b d t ht]
    have hbest : best (diag a b (d + 1) t) (d + 1) (PL a b d) t ≤ (i : Int) + s := by
      rw [hk]
      rcases step_at a b (i + s) (j + s) d h1 h2 h4 h5 with ⟨g1, g2⟩ | ⟨g1, g2⟩
      · obtain ⟨t', ht', hk', hp⟩ := ih (i + s + 1) (j + s) (by omega) h2 g2 (by omega) (by omega)
        have htt : t' = t := by unfold diag at hk hk'; omega
        subst htt
        have hne : (PL a b d).getD t' never ≠ never := by unfold never at *; omega
        obtain ⟨q1, q2, q3, q4, q5⟩ := PL_snd a b hn d t' (by omega) hne
        rw [hk'] at q3 q4 q5
        have hpos : 0 ≤ (PL a b d).getD t' never - 1 := by
          rcases (show 0 < (PL a b d).getD t' never ∨ (PL a b d).getD t' never ≤ 0 by omega) with h | h
          · omega
          · exfalso
            have h0 : (PL a b d).getD t' never = 0 := by omega
            rw [h0] at q3 q4 q5
            have := C_side a b ((0 : Int) - (((i + s + 1 : Nat) : Int) - ((j + s : Nat) : Int))).toNat (by omega)
            simp only [Int.toNat_zero] at q5
            omega
        unfold best
        simp only
        have hle := try1_le' ((i : Int) - j) never ((PL a b d).getD t' never - 1) hpos (by omega)
        rw [if_pos (show t' < d + 1 ∧ (PL a b d).getD t' never ≠ never from ⟨by omega, hne⟩)]
        split
        · refine Int.le_trans (try1_le _ _ _) ?_; omega
        · omega
      · obtain ⟨t', ht', hk', hp⟩ := ih (i + s) (j + s + 1) h1 (by omega) g2 (by omega) (by omega)
        have htt : t = t' + 1 := by unfold diag at hk hk'; omega
        subst htt
        have hne : (PL a b d).getD t' never ≠ never := by unfold never at *; omega
        obtain ⟨q1, q2, q3, q4, q5⟩ := PL_snd a b hn d t' (by omega) hne
        rw [hk'] at q3 q4 q5
        have hpos : 0 ≤ (PL a b d).getD t' never - ((i : Int) - j) := by
          rcases (show -1 < (PL a b d).getD t' never - ((i : Int) - j) ∨ (PL a b d).getD t' never - ((i : Int) - j) ≤ -1 by omega) with h | h
          · omega
          · exfalso
            have h0 : (PL a b d).getD t' never = (i : Int) - j - 1 := by omega
            have e2 : ((PL a b d).getD t' never - (((i + s : Nat) : Int) - ((j + s + 1 : Nat) : Int))).toNat = 0 := by omega
            rw [e2] at q5
            have := C_side' a b ((PL a b d).getD t' never).toNat (by omega)
            omega
        unfold best
        simp only
        have hle : ∀ x, try1 ((i : Int) - j) x ((PL a b d).getD t' never) ≤ (PL a b d).getD t' never := fun x => try1_le' ((i : Int) - j) x ((PL a b d).getD t' never) q1 hpos
        rw [if_pos (show 0 < t' + 1 ∧ (PL a b d).getD (t' + 1 - 1) never ≠ never from ⟨by omega, by simpa using hne⟩)]
        rw [show t' + 1 - 1 = t' from rfl]
        refine Int.le_trans (hle _) ?_
        omega
    unfold entry
    simp only
    have hne : best (diag a b (d + 1) t) (d + 1) (PL a b d) t ≠ never := by unfold never at *; omega
    rw [if_pos hne, hk]
    have := slide_far a b i j s h3 (best (diag a b (d + 1) t) (d + 1) (PL a b d) t).toNat (by omega)
    rw [hk] at this
    omega

/-- What 'least' tells of a list. -/
def leastL (a b : List Int) (d : Nat) (l : List Int) (k : Int) : Int :=
  let t := k - diag a b d 0
  if t < 0 ∨ t % 2 ≠ 0 ∨ (l.length : Int) ≤ t / 2 then never else l.getD (t / 2).toNat never
theorem leastL_at (a b : List Int) (d t : Nat) (l : List Int) (ht : t < l.length) : leastL a b d l (diag a b d t) = l.getD t never := by
  unfold leastL
  have e : diag a b d t - diag a b d 0 = 2 * (t : Int) := by unfold diag; omega
  simp only [e]
  rw [if_neg (by omega), show (2 * (t : Int)) / 2 = (t : Int) by omega, Int.toNat_natCast]
theorem leastL_cases (a b : List Int) (d : Nat) (l : List Int) (k : Int) : leastL a b d l k = never ∨ ∃ t, t < l.length ∧ k = diag a b d t ∧ leastL a b d l k = l.getD t never := by
  unfold leastL
  simp only
  split
  · exact .inl rfl
  · rename_i h
    refine .inr ⟨((k - diag a b d 0) / 2).toNat, by omega, ?_, rfl⟩
    unfold diag at *; omega
/-- The least i of a diagonal: just where the rest costs d at most, of places on the way. -/
theorem least_iff (a b : List Int) (hn : (a.length : Int) < never) (d i j : Nat) (hi : i ≤ a.length) (hj : j ≤ b.length)
    (h : C a b i j = d → (i : Int) - j + d ≤ C a b 0 0 ∧ (j : Int) - i + d ≤ C a b 0 0) (h' : C a b i j = d ∨ d < C a b i j) :
    leastL a b d (PL a b d) ((i : Int) - j) ≤ i ↔ C a b i j = d := by
  constructor
  · intro hle
    rcases h' with h' | h'
    · exact h'
    exfalso
    rcases leastL_cases a b d (PL a b d) ((i : Int) - j) with e | ⟨t, ht, hk, e⟩
    · rw [e] at hle; unfold never at *; omega
    · rw [e] at hle
      rw [PL_len] at ht
      have hne : (PL a b d).getD t never ≠ never := by unfold never at *; omega
      obtain ⟨q1, q2, q3, q4, q5⟩ := PL_snd a b hn d t (by omega) hne
      rw [← hk] at q3 q4 q5
      have := C_Ds a b ((PL a b d).getD t never).toNat ((PL a b d).getD t never - ((i : Int) - j)).toNat (i - ((PL a b d).getD t never).toNat) (by omega) (by omega)
      rw [show ((PL a b d).getD t never).toNat + (i - ((PL a b d).getD t never).toNat) = i by omega, show ((PL a b d).getD t never - ((i : Int) - j)).toNat + (i - ((PL a b d).getD t never).toNat) = j by omega] at this
      omega
  · intro hc
    obtain ⟨t, ht, hk, hp⟩ := PL_cpl a b hn d i j hi hj hc (h hc).1 (h hc).2
    rw [← hk, leastL_at a b d t _ (by rw [PL_len]; omega)]
    exact hp
/-- The first d whose list tells 0 on the diagonal 0 is what all costs. -/
theorem cost_iff (a b : List Int) (hn : (a.length : Int) < never) (d : Nat) (hd : d ≤ C a b 0 0) : leastL a b d (PL a b d) 0 = 0 ↔ d = C a b 0 0 := by
  have h := least_iff a b hn d 0 0 (by omega) (by omega) (by omega) (by omega)
  have h0 : 0 ≤ leastL a b d (PL a b d) 0 := by
    rcases leastL_cases a b d (PL a b d) 0 with e | ⟨t, ht, hk, e⟩
    · rw [e]; unfold never; omega
    · rw [e]
      rw [PL_len] at ht
      by_cases hne : (PL a b d).getD t never = never
      · rw [hne]; unfold never; omega
      · exact (PL_snd a b hn d t (by omega) hne).1
  simp only [Int.ofNat_zero, Int.sub_self] at h
  constructor
  · intro e; exact (h.1 (by omega)).symm
  · intro e; have := h.2 e.symm; omega
end Go.Proofs.Ytipoifokcnbfnaa
