/- The stable sort by merging in place: plain. -/
import Derived.Sort.LotA
namespace Go.Proofs.Ytkapidcgonjbaaa
open Go.Sort hiding Below
set_option linter.unusedVariables false
set_option linter.unusedSectionVars false
section
variable {α : Type} [Inhabited α] {lt : α → α → Bool}

/-- Two ranges are exchanged. -/
def IsSw (d : Array α) (a b n : Nat) (d' : Array α) : Prop :=
  d'.size = d.size ∧ ∀ k, d'[k]! = if a ≤ k ∧ k < a + n then d[k + (b - a)]! else if b ≤ k ∧ k < b + n then d[k - (b - a)]! else d[k]!
/-- Two ranges that meet are exchanged. -/
def IsRot (d : Array α) (a m b : Nat) (d' : Array α) : Prop :=
  d'.size = d.size ∧ ∀ k, d'[k]! = if a ≤ k ∧ k < a + (b - m) then d[k + (m - a)]! else if a + (b - m) ≤ k ∧ k < b then d[k - (b - m)]! else d[k]!
theorem isSw_zero (d : Array α) (a b : Nat) : IsSw d a b 0 d := ⟨rfl, fun k => by rw [if_neg (by omega), if_neg (by omega)]⟩
theorem isSw_succ {d d' : Array α} {a b n : Nat} (h : IsSw d a b n d') (hab : a + n < b) (hb : b + n < d.size) : IsSw d a b (n + 1) (swp d' (a + n) (b + n)) := by
  refine ⟨by rw [swp_size]; exact h.1, fun k => ?_⟩
  have hs := h.1
  rw [swp_get d' (by omega) (by omega), h.2, h.2, h.2]
  by_cases h1 : k = b + n
  · subst h1
    rw [if_pos rfl, if_neg (by omega), if_neg (by omega), if_neg (by omega), if_pos (by omega)]
    congr 1; omega
  · rw [if_neg h1]
    by_cases h2 : k = a + n
    · subst h2
      rw [if_pos rfl, if_neg (by omega), if_neg (by omega), if_pos (by omega)]
      congr 1; omega
    · rw [if_neg h2]
      by_cases h3 : a ≤ k ∧ k < a + n
      · rw [if_pos h3, if_pos (by omega)]
      · rw [if_neg h3, if_neg (c := a ≤ k ∧ k < a + (n + 1)) (by omega)]
        by_cases h4 : b ≤ k ∧ k < b + n
        · rw [if_pos h4, if_pos (by omega)]
        · rw [if_neg h4, if_neg (by omega)]
theorem isRot_triv {d : Array α} {a m b : Nat} (h1 : a ≤ m) (h2 : m ≤ b) (h : a = m ∨ m = b) : IsRot d a m b d := by
  refine ⟨rfl, fun k => ?_⟩
  rcases h with rfl | rfl
  · split
    · rw [Nat.sub_self, Nat.add_zero]
    · split
      · omega
      · rfl
  · split
    · omega
    · rw [Nat.sub_self, Nat.sub_zero]; split <;> rfl
theorem isRot_sw1 {d d' f : Array α} {m i j : Nat} (h : IsSw d (m - i) m j d') (hji : j < i) (him : i ≤ m) (hr : IsRot d' (m - (i - j)) m (m + j) f) : IsRot d (m - i) m (m + j) f := by
  refine ⟨hr.1.trans h.1, fun k => ?_⟩
  have e1 : m - (m - i) = i := by omega
  have e2 : m + j - m = j := by omega
  have e3 : m - (m - (i - j)) = i - j := by omega
  rw [hr.2, h.2, h.2, h.2, e1, e2, e3]
  by_cases c1 : k < m - i
  · rw [if_neg (by omega), if_neg (by omega), if_neg (by omega), if_neg (by omega), if_neg (by omega), if_neg (by omega)]
  by_cases c2 : k < m - i + j
  · rw [if_neg (c := m - (i - j) ≤ k ∧ _) (by omega), if_neg (by omega), if_pos (by omega), if_pos (by omega)]
  by_cases c3 : k < m - (i - j) + j
  · rw [if_pos (c := m - (i - j) ≤ k ∧ _) (by omega), if_neg (by omega), if_pos (by omega), if_neg (by omega), if_pos (by omega)]
    congr 1; omega
  by_cases c4 : k < m + j
  · rw [if_neg (c := m - (i - j) ≤ k ∧ _) (by omega), if_pos (by omega), if_neg (by omega), if_neg (by omega), if_neg (by omega), if_pos (by omega)]
  · rw [if_neg (by omega), if_neg (by omega), if_neg (by omega), if_neg (by omega), if_neg (by omega), if_neg (by omega)]
theorem isRot_sw2 {d d' f : Array α} {m i j : Nat} (h : IsSw d (m - i) (m + j - i) i d') (hij : i < j) (him : i ≤ m) (hr : IsRot d' (m - i) m (m + (j - i)) f) : IsRot d (m - i) m (m + j) f := by
  refine ⟨hr.1.trans h.1, fun k => ?_⟩
  have e1 : m - (m - i) = i := by omega
  have e2 : m + j - m = j := by omega
  have e3 : m + (j - i) - m = j - i := by omega
  have e4 : m + j - i - (m - i) = j := by omega
  rw [hr.2, h.2, h.2, h.2, e1, e2, e3, e4]
  by_cases c1 : k < m - i
  · rw [if_neg (by omega), if_neg (by omega), if_neg (by omega), if_neg (by omega), if_neg (by omega), if_neg (by omega)]
  by_cases c2 : k < m - i + (j - i)
  · rw [if_pos (c := m - i ≤ k ∧ k < m - i + (j - i)) (by omega), if_neg (by omega), if_neg (by omega), if_pos (by omega)]
  by_cases c3 : k < m + (j - i)
  · rw [if_neg (c := m - i ≤ k ∧ k < m - i + (j - i)) (by omega), if_pos (by omega), if_pos (by omega), if_pos (by omega)]
    congr 1; omega
  by_cases c4 : k < m + j
  · rw [if_neg (c := m - i ≤ k ∧ k < m - i + (j - i)) (by omega), if_neg (by omega), if_neg (by omega), if_pos (by omega), if_neg (by omega), if_pos (by omega)]
  · rw [if_neg (by omega), if_neg (by omega), if_neg (by omega), if_neg (by omega), if_neg (by omega), if_neg (by omega)]
theorem isRot_sw0 {d f : Array α} {m i : Nat} (h : IsSw d (m - i) m i f) (him : i ≤ m) : IsRot d (m - i) m (m + i) f := by
  refine ⟨h.1, fun k => ?_⟩
  have e1 : m - (m - i) = i := by omega
  have e2 : m + i - m = i := by omega
  rw [h.2, e1, e2]
  by_cases c1 : m - i ≤ k ∧ k < m - i + i
  · rw [if_pos c1, if_pos c1]
  · rw [if_neg c1, if_neg c1]
    by_cases c2 : m ≤ k ∧ k < m + i
    · rw [if_pos c2, if_pos (by omega)]
    · rw [if_neg c2, if_neg (by omega)]
theorem isRot_up {d d' : Array α} {a t : Nat} (h : IsRot d a (a + 1) (a + 1 + t) d') (hs : a + 1 + t < d.size) : IsRot d a (a + 1) (a + 1 + (t + 1)) (swp d' (a + t) (a + t + 1)) := by
  have h0 := h.1
  refine ⟨by rw [swp_size]; exact h0, fun k => ?_⟩
  have e1 : a + 1 + t - (a + 1) = t := by omega
  have e2 : a + 1 + (t + 1) - (a + 1) = t + 1 := by omega
  have e3 : a + 1 - a = 1 := by omega
  rw [swp_get d' (by omega) (by omega), h.2, h.2, h.2, e1, e2, e3]
  by_cases c1 : k = a + t + 1
  · subst c1
    rw [if_pos rfl, if_neg (by omega), if_pos (by omega), if_neg (by omega), if_pos (by omega)]
    congr 1; omega
  · rw [if_neg c1]
    by_cases c2 : k = a + t
    · subst c2
      rw [if_pos rfl, if_neg (by omega), if_neg (by omega), if_pos (by omega)]
    · rw [if_neg c2]
      by_cases c3 : a ≤ k ∧ k < a + t
      · rw [if_pos c3, if_pos (by omega)]
      · rw [if_neg c3, if_neg (by omega), if_neg (by omega), if_neg (by omega)]
theorem isRot_down {d d' : Array α} {k0 m : Nat} (h : IsRot d (k0 + 1) m (m + 1) d') (hk : k0 + 1 ≤ m) (hs : m < d.size) : IsRot d k0 m (m + 1) (swp d' (k0 + 1) k0) := by
  have h0 := h.1
  refine ⟨by rw [swp_size]; exact h0, fun k => ?_⟩
  have e1 : m + 1 - m = 1 := by omega
  rw [swp_get d' (by omega) (by omega), h.2, h.2, h.2, e1]
  by_cases c1 : k = k0
  · subst c1
    rw [if_pos rfl, if_pos (by omega), if_pos (by omega)]
    congr 1; omega
  · rw [if_neg c1]
    by_cases c2 : k = k0 + 1
    · subst c2
      rw [if_pos rfl, if_neg (by omega), if_neg (by omega), if_neg (by omega), if_pos (by omega)]
      congr 1
    · rw [if_neg c2, if_neg (by omega), if_neg (c := k0 ≤ k ∧ k < k0 + 1) (by omega)]
      by_cases c3 : k0 + 1 + 1 ≤ k ∧ k < m + 1
      · rw [if_pos c3, if_pos (by omega)]
      · rw [if_neg c3, if_neg (by omega)]
theorem isRot_perm {d d' : Array α} {a m b : Nat} (h : IsRot d a m b d') (h1 : a ≤ m) (h2 : m ≤ b) (hb : b ≤ d.size) : PermIn a b d d' := by
  refine ⟨h.1, fun i hi => ?_, ?_⟩
  · rw [h.2, if_neg (by omega), if_neg (by omega)]
  · rw [extract_toList d' a b (by rw [h.1]; exact hb), extract_toList d a b hb]
    have s1 : List.range' a (b - a) = List.range' a (b - m) ++ List.range' (a + (b - m)) (m - a) := by
      have := List.range'_append_1 (s := a) (m := b - m) (n := m - a)
      rw [show b - m + (m - a) = b - a by omega] at this
      exact this.symm
    have s2 : List.range' a (b - a) = List.range' a (m - a) ++ List.range' m (b - m) := by
      have := List.range'_append_1 (s := a) (m := m - a) (n := b - m)
      rw [show m - a + (b - m) = b - a by omega, show a + (m - a) = m by omega] at this
      exact this.symm
    rw [show (List.range' a (b - a)).map (fun i => d'[i]!) = (List.range' m (b - m)).map (fun i => d[i]!) ++ (List.range' a (m - a)).map (fun i => d[i]!) from ?_]
    · rw [s2, List.map_append]; exact List.perm_append_comm
    · rw [s1, List.map_append]
      congr 1
      · apply List.ext_getElem
        · simp
        · intro k h3 h4
          simp only [List.length_map, List.length_range'] at h3
          simp only [List.getElem_map, List.getElem_range', Nat.one_mul]
          rw [h.2, if_pos (by omega)]
          congr 1; omega
      · apply List.ext_getElem
        · simp
        · intro k h3 h4
          simp only [List.length_map, List.length_range'] at h3
          simp only [List.getElem_map, List.getElem_range', Nat.one_mul]
          rw [h.2, if_neg (by omega), if_pos (by omega)]
          congr 1; omega

theorem swo_split (hS : SWO lt) {x z : α} (y : α) (h : lt x z = true) : lt x y = true ∨ lt y z = true := by
  cases h1 : lt x y with
  | true => exact .inl rfl
  | false =>
    cases h2 : lt y z with
    | true => exact .inr rfl
    | false => rw [hS.ntrans x y z h1 h2] at h; cases h
theorem srt (hS : SWO lt) {d : Array α} {a b : Nat} (h : SortedIn lt a b d) {p q : Nat} (h1 : a ≤ p) (h2 : p ≤ q) (h3 : q < b) : lt d[q]! d[p]! = false := by
  rcases Nat.lt_or_eq_of_le h2 with h4 | rfl
  · exact h p q h1 h4 h3
  · exact hS.irrefl _
/-- One goes in among others behind it. -/
theorem merge_one (hS : SWO lt) {d d' : Array α} {a b i : Nat} (hs : SortedIn lt (a + 1) b d) (hi : a + 1 ≤ i) (hib : i ≤ b) (h1 : i = a + 1 ∨ lt d[i - 1]! d[a]! = true) (h2 : i = b ∨ lt d[i]! d[a]! = false)
    (hr : IsRot d a (a + 1) i d') : SortedIn lt a b d' := by
  intro p q hp hpq hq
  rw [hr.2 q, hr.2 p]
  have e1 : a + 1 - a = 1 := by omega
  rw [e1]
  by_cases p1 : p < a + (i - (a + 1))
  · rw [if_pos (c := a ≤ p ∧ _) ⟨hp, p1⟩]
    have g1 : lt d[i - 1]! d[a]! = true := h1.resolve_left (by omega)
    by_cases q1 : q < a + (i - (a + 1))
    · rw [if_pos (by omega)]; exact srt hS hs (by omega) (by omega) (by omega)
    · rw [if_neg (by omega)]
      by_cases q2 : q < i
      · rw [if_pos (by omega), show q - (i - (a + 1)) = a by omega]
        have g2 := srt hS hs (p := p + 1) (q := i - 1) (by omega) (by omega) (by omega)
        cases g3 : lt d[a]! d[p + 1]! with
        | false => rfl
        | true => rw [hS.trans _ _ _ g1 g3] at g2; cases g2
      · rw [if_neg (by omega)]; exact srt hS hs (by omega) (by omega) (by omega)
  · rw [if_neg (c := a ≤ p ∧ _) (by omega), if_neg (c := a ≤ q ∧ _) (by omega)]
    by_cases p2 : p < i
    · rw [if_pos (c := _ ∧ p < i) (by omega), if_neg (by omega), show p - (i - (a + 1)) = a by omega]
      have g1 : lt d[i]! d[a]! = false := h2.resolve_left (by omega)
      exact hS.ntrans _ _ _ (srt hS hs (p := i) (q := q) (by omega) (by omega) (by omega)) g1
    · rw [if_neg (by omega), if_neg (by omega)]; exact srt hS hs (by omega) (by omega) (by omega)
/-- One goes in among others ahead of it. -/
theorem merge_last (hS : SWO lt) {d d' : Array α} {a m i : Nat} (hs : SortedIn lt a m d) (hi : a ≤ i) (him : i ≤ m) (h1 : i = a ∨ lt d[m]! d[i - 1]! = false) (h2 : i = m ∨ lt d[m]! d[i]! = true)
    (hr : IsRot d i m (m + 1) d') : SortedIn lt a (m + 1) d' := by
  intro p q hp hpq hq
  rw [hr.2 q, hr.2 p]
  have e1 : m + 1 - m = 1 := by omega
  rw [e1]
  by_cases p1 : p < i
  · rw [if_neg (c := i ≤ p ∧ _) (by omega), if_neg (c := i + 1 ≤ p ∧ _) (by omega)]
    by_cases q1 : q < i
    · rw [if_neg (by omega), if_neg (by omega)]; exact srt hS hs (by omega) (by omega) (by omega)
    · by_cases q2 : q = i
      · subst q2
        rw [if_pos (by omega), show q + (m - q) = m by omega]
        have g1 : lt d[m]! d[q - 1]! = false := h1.resolve_left (by omega)
        exact hS.ntrans _ _ _ g1 (srt hS hs (by omega) (by omega) (by omega))
      · rw [if_neg (by omega), if_pos (by omega)]; exact srt hS hs (by omega) (by omega) (by omega)
  · by_cases p2 : p = i
    · subst p2
      rw [if_neg (by omega), if_pos (by omega), if_pos (by omega), show p + (m - p) = m by omega]
      have g1 : lt d[m]! d[p]! = true := h2.resolve_left (by omega)
      cases g3 : lt d[q - 1]! d[m]! with
      | false => rfl
      | true =>
        have g4 := hS.trans _ _ _ g3 g1
        rw [srt hS hs (p := p) (q := q - 1) (by omega) (by omega) (by omega)] at g4; cases g4
    · rw [if_neg (by omega), if_pos (by omega), if_neg (by omega), if_pos (by omega)]; exact srt hS hs (by omega) (by omega) (by omega)
/-- All of the one range stands ahead of all of the other one. -/
def Sep (lt : α → α → Bool) (a m b : Nat) (d : Array α) : Prop := ∀ p q, a ≤ p → p < m → m ≤ q → q < b → lt d[q]! d[p]! = false
/-- Two halves, cut alike and turned. -/
theorem merge_cut (hS : SWO lt) {d d' : Array α} {a m b s e : Nat} (hL : SortedIn lt a m d) (hR : SortedIn lt m b d) (has : a ≤ s) (hsm : s ≤ m) (hme : m ≤ e) (heb : e ≤ b)
    (h1 : s = a ∨ e = b ∨ lt d[e]! d[s - 1]! = false) (h2 : s = m ∨ e = m ∨ lt d[e - 1]! d[s]! = true) (hr : IsRot d s m e d') :
    SortedIn lt a s d' ∧ SortedIn lt s (s + (e - m)) d' ∧ SortedIn lt (s + (e - m)) e d' ∧ SortedIn lt e b d' ∧ Sep lt a (s + (e - m)) b d' := by
  have k1 : ∀ k, k < s → d'[k]! = d[k]! := fun k hk => by rw [hr.2, if_neg (by omega), if_neg (by omega)]
  have k2 : ∀ k, s ≤ k → k < s + (e - m) → d'[k]! = d[k + (m - s)]! := fun k h h' => by rw [hr.2, if_pos ⟨h, h'⟩]
  have k3 : ∀ k, s + (e - m) ≤ k → k < e → d'[k]! = d[k - (e - m)]! := fun k h h' => by rw [hr.2, if_neg (by omega), if_pos ⟨h, h'⟩]
  have k4 : ∀ k, e ≤ k → d'[k]! = d[k]! := fun k hk => by rw [hr.2, if_neg (by omega), if_neg (by omega)]
  refine ⟨?_, ?_, ?_, ?_, ?_⟩
  · intro p q hp hpq hq; rw [k1 p (by omega), k1 q hq]; exact hL p q hp hpq (by omega)
  · intro p q hp hpq hq; rw [k2 p hp (by omega), k2 q (by omega) hq]; exact hR _ _ (by omega) (by omega) (by omega)
  · intro p q hp hpq hq; rw [k3 p hp (by omega), k3 q (by omega) hq]; exact hL _ _ (by omega) (by omega) (by omega)
  · intro p q hp hpq hq; rw [k4 p hp, k4 q (by omega)]; exact hR _ _ (by omega) hpq hq
  · intro p q hp hpm hmq hq
    by_cases p1 : p < s
    · rw [k1 p p1]
      by_cases q1 : q < e
      · rw [k3 q hmq q1]; exact srt hS hL (by omega) (by omega) (by omega)
      · rw [k4 q (by omega)]
        have g1 : lt d[e]! d[s - 1]! = false := (h1.resolve_left (by omega)).resolve_left (by omega)
        exact hS.ntrans _ _ _ (hS.ntrans _ _ _ (srt hS hR (p := e) (q := q) (by omega) (by omega) (by omega)) g1) (srt hS hL (by omega) (by omega) (by omega))
    · rw [k2 p (by omega) hpm]
      by_cases q1 : q < e
      · rw [k3 q hmq q1]
        have g1 : lt d[e - 1]! d[s]! = true := (h2.resolve_left (by omega)).resolve_left (by omega)
        rcases swo_split hS d[p + (m - s)]! g1 with g2 | g2
        · rw [srt hS hR (p := p + (m - s)) (q := e - 1) (by omega) (by omega) (by omega)] at g2; cases g2
        · rcases swo_split hS d[q - (e - m)]! g2 with g3 | g3
          · exact hS.asymmA g3
          · rw [srt hS hL (p := s) (q := q - (e - m)) (by omega) (by omega) (by omega)] at g3; cases g3
      · rw [k4 q (by omega)]; exact srt hS hR (by omega) (by omega) (by omega)
theorem sep_perm {d d1 : Array α} {a m b : Nat} (hm : a ≤ m) (hb : m ≤ b) (hd : b ≤ d.size) (h : Sep lt a m b d) (hp : PermIn a m d d1) : Sep lt a m b d1 := by
  intro p q h1 h2 h3 h4
  rw [hp.2.1 q (.inr h3)]
  exact permIn_all d d1 a m (fun x => lt d[q]! x = false) (by omega) hp (fun i h5 h6 => h i q h5 h6 h3 h4) p h1 h2
theorem sep_perm' {d d1 : Array α} {a m b : Nat} (hm : a ≤ m) (hb : m ≤ b) (hd : b ≤ d.size) (h : Sep lt a m b d) (hp : PermIn m b d d1) : Sep lt a m b d1 := by
  intro p q h1 h2 h3 h4
  rw [hp.2.1 p (.inl h2)]
  exact permIn_all d d1 m b (fun x => lt x d[p]! = false) hd hp (fun i h5 h6 => h p i h1 h2 h5 h6) q h3 h4
theorem sep_join {d : Array α} {a m b : Nat} (h : Sep lt a m b d) (h1 : SortedIn lt a m d) (h2 : SortedIn lt m b d) : SortedIn lt a b d := by
  intro p q hp hpq hq
  by_cases c1 : q < m
  · exact h1 p q hp hpq c1
  · by_cases c2 : p < m
    · exact h p q hp c2 (by omega) hq
    · exact h2 p q (by omega) hpq hq
theorem sorted_keep {d d1 : Array α} {a b : Nat} (h : SortedIn lt a b d) (he : ∀ k, a ≤ k → k < b → d1[k]! = d[k]!) : SortedIn lt a b d1 := by
  intro p q hp hpq hq
  rw [he p hp (by omega), he q (by omega) hq]
  exact h p q hp hpq hq

/-! ### Blocks -/
variable {pl : α → Nat}
/-- Blocks of s, from lo to hi: each in order, and of its own places. -/
def Blk (lt : α → α → Bool) (pl : α → Nat) (n : Nat) (d : Array α) (s lo hi : Nat) : Prop :=
  ∀ p, s ∣ p → lo ≤ p → p < hi → SortedIn lt p (min (p + s) n) d ∧ ∀ k, p ≤ k → k < min (p + s) n → p ≤ pl d[k]! ∧ pl d[k]! < min (p + s) n
theorem dvd_next {s p a : Nat} (hp : s ∣ p) (ha : s ∣ a) (h : p < a) : p + s ≤ a := by
  obtain ⟨u, rfl⟩ := hp
  obtain ⟨v, rfl⟩ := ha
  have : u < v := Nat.lt_of_mul_lt_mul_left h
  have := Nat.mul_le_mul_left s (show u + 1 ≤ v from this)
  rwa [Nat.mul_add, Nat.mul_one] at this
theorem pl_perm {d d' : Array α} {a b x y : Nat} (hb : b ≤ d.size) (hp : PermIn a b d d') (h : ∀ k, a ≤ k → k < b → x ≤ pl d[k]! ∧ pl d[k]! < y) : ∀ k, a ≤ k → k < b → x ≤ pl d'[k]! ∧ pl d'[k]! < y :=
  permIn_all d d' a b (fun z => x ≤ pl z ∧ pl z < y) hb hp h
theorem blk_keep {n : Nat} {d d' : Array α} {s lo hi : Nat} (h : Blk lt pl n d s lo hi) (he : ∀ p, s ∣ p → lo ≤ p → p < hi → ∀ k, p ≤ k → k < min (p + s) n → d'[k]! = d[k]!) : Blk lt pl n d' s lo hi := by
  intro p hp h1 h2
  obtain ⟨h3, h4⟩ := h p hp h1 h2
  refine ⟨sorted_keep h3 (he p hp h1 h2), fun k h5 h6 => ?_⟩
  rw [he p hp h1 h2 k h5 h6]; exact h4 k h5 h6
/-- What a merge is handed. -/
theorem blk_pre {lc : α → α → Bool} {n : Nat} {d : Array α} {s a m b : Nat} (hlc : ∀ x y, pl y < pl x → lc x y = lt x y) (hs : 0 < s) (ha : s ∣ a) (hm : m = a + s) (hmn : m < n) (hb : b = min (m + s) n) (h : Blk lt pl n d s a n) :
    SortedIn lt a m d ∧ SortedIn lt m b d ∧ (∀ k, a ≤ k → k < b → a ≤ pl d[k]! ∧ pl d[k]! < b) ∧ ∀ p q, m ≤ p → p < b → a ≤ q → q < m → lc d[p]! d[q]! = lt d[p]! d[q]! := by
  obtain ⟨h1, h2⟩ := h a ha (Nat.le_refl _) (by omega)
  obtain ⟨h3, h4⟩ := h m (by rw [hm]; exact (Nat.dvd_add_right ha).2 (Nat.dvd_refl s)) (by omega) hmn
  rw [show min (a + s) n = m by omega] at h1 h2
  rw [← hb] at h3 h4
  refine ⟨h1, h3, fun k h5 h6 => ?_, fun p q h5 h6 h7 h8 => hlc _ _ ?_⟩
  · by_cases hk : k < m
    · have := h2 k h5 hk; omega
    · have := h4 k (by omega) h6; omega
  · have := h2 q h7 h8
    have := h4 p h5 h6
    omega
/-- Behind a merge. -/
theorem blk_merge {n : Nat} {d d' : Array α} {s a b : Nat} (hs : 0 < s) (ha : 2 * s ∣ a) (hb : b = min (a + 2 * s) n) (han : a < n) (hn : n ≤ d.size) (h1 : Blk lt pl n d (2 * s) 0 a) (h2 : Blk lt pl n d s a n) (hp : PermIn a b d d') (ho : SortedIn lt a b d')
    (hpl : ∀ k, a ≤ k → k < b → a ≤ pl d[k]! ∧ pl d[k]! < b) : Blk lt pl n d' (2 * s) 0 b ∧ (b = a + 2 * s → Blk lt pl n d' s b n) := by
  refine ⟨fun p hp1 h3 h4 => ?_, fun hbe => blk_keep (lo := b) (fun p hp1 h3 h4 => h2 p hp1 (by omega) h4) (fun p _ h3 _ k h5 _ => hp.2.1 k (.inr (by omega)))⟩
  rcases Nat.lt_trichotomy p a with hlt | heq | hgt
  · have h5 := dvd_next hp1 ha hlt
    have := blk_keep (d' := d') h1 (fun p' hp' _ h7 k _ h9 => hp.2.1 k (.inl (by have := dvd_next hp' ha h7; omega)))
    exact this p hp1 h3 hlt
  · subst heq
    rw [← hb]
    exact ⟨ho, pl_perm (by omega) hp hpl⟩
  · have := dvd_next ha hp1 hgt
    omega
/-- The last block is alone. -/
theorem blk_alone {n : Nat} {d : Array α} {s a : Nat} (hs : 0 < s) (ha : 2 * s ∣ a) (han : n ≤ a + s) (h1 : Blk lt pl n d (2 * s) 0 a) (h2 : Blk lt pl n d s a n) : Blk lt pl n d (2 * s) 0 n := by
  intro p hp1 h3 h4
  rcases Nat.lt_trichotomy p a with hlt | heq | hgt
  · exact h1 p hp1 h3 hlt
  · subst heq
    have := h2 p (Nat.dvd_trans ⟨2, by omega⟩ ha) (Nat.le_refl _) h4
    rw [show min (p + s) n = min (p + 2 * s) n by omega] at this
    exact this
  · have := dvd_next ha hp1 hgt
    omega
theorem blk_all {n : Nat} {d : Array α} {s : Nat} (h : Blk lt pl n d s 0 n) (hs : n ≤ s) : SortedIn lt 0 n d := by
  by_cases hn : 0 < n
  · have := (h 0 (Nat.dvd_zero s) (Nat.le_refl _) hn).1
    rwa [show min (0 + s) n = n by omega] at this
  · intro p q _ h1 h2; omega

/-! ### The blocks of twenty -/
theorem insInner_same {lc : α → α → Bool} {a : Nat} : ∀ (j : Nat) (d : Array α), j < d.size → (∀ q, a ≤ q → q < j → lc d[j]! d[q]! = lt d[j]! d[q]!) → insInner lc a j d = insInner lt a j d
  | 0, d, _, _ => by unfold insInner; rfl
  | j + 1, d, hj, h => by
    unfold insInner
    by_cases ha : j + 1 > a
    · rw [h j (by omega) (by omega)]
      split
      · refine insInner_same j _ (by rw [swp_size]; omega) fun q h1 h2 => ?_
        rw [swp_get d hj (by omega), if_pos rfl, swp_get d hj (by omega), if_neg (by omega), if_neg (by omega)]
        exact h q h1 (by omega)
      · rfl
    · have : decide (j + 1 > a) = false := decide_eq_false ha
      rw [this]; rfl
theorem insInner_perm {a : Nat} : ∀ (j : Nat) (d : Array α) (b : Nat), j < b → b ≤ d.size → PermIn a b d (insInner lt a j d)
  | 0, d, b, _, _ => by unfold insInner; exact permIn_refl _ _ _
  | j + 1, d, b, hj, hb => by
    unfold insInner
    split
    · next hc =>
      simp only [Bool.and_eq_true, decide_eq_true_eq] at hc
      exact permIn_trans _ _ _ _ _ (swp_permIn d a b (j + 1) j (by omega) hj (by omega) (by omega) hb) (insInner_perm j _ b (by omega) (by rw [swp_size]; exact hb))
    · exact permIn_refl _ _ _
theorem insOuter_same {lc : α → α → Bool} (hlc : ∀ x y, pl y < pl x → lc x y = lt x y) {a b : Nat} : ∀ (n i : Nat) (d : Array α), b - i = n → a < i → b ≤ d.size → (∀ q, a ≤ q → q < i → pl d[q]! < i) → (∀ q, i ≤ q → q < b → pl d[q]! = q) →
    insOuter lc a b i d = insOuter lt a b i d
  | 0, i, d, hn, _, _, _, _ => by rw [insOuter, if_neg (by omega), insOuter, if_neg (by omega)]
  | n + 1, i, d, hn, hai, hb, h1, h2 => by
    have hi : i < b := by omega
    rw [insOuter, insOuter.eq_def (lt := lt), if_pos hi, if_pos hi]
    have e := h2 i (Nat.le_refl _) hi
    rw [insInner_same (lc := lc) (lt := lt) i d (by omega) (fun q h3 h4 => hlc _ _ (by rw [e]; exact h1 q h3 h4))]
    have hp := insInner_perm (lt := lt) (a := a) i d (i + 1) (by omega) (by omega)
    refine insOuter_same hlc n (i + 1) _ (by omega) (by omega) (by rw [hp.1]; exact hb) ?_ ?_
    · refine permIn_all d _ a (i + 1) (fun x => pl x < i + 1) (by omega) hp fun q h3 h4 => ?_
      by_cases hq : q < i
      · have := h1 q h3 hq; omega
      · rw [show q = i by omega, e]; omega
    · intro q h3 h4
      rw [hp.2.1 q (.inr h3)]; exact h2 q (by omega) h4
theorem ins_same {lc : α → α → Bool} (hlc : ∀ x y, pl y < pl x → lc x y = lt x y) {a b : Nat} {d : Array α} (hb : b ≤ d.size) (h : ∀ q, a ≤ q → q < b → pl d[q]! = q) : insertionSort lc d a b = insertionSort lt d a b := by
  unfold insertionSort
  by_cases hab : a < b
  · exact insOuter_same hlc _ _ d rfl (by omega) hb (fun q h1 h2 => by rw [h q h1 (by omega)]; omega) (fun q h1 h2 => h q (by omega) h2)
  · rw [insOuter, insOuter.eq_def (lt := lt), if_neg (by omega), if_neg (by omega)]
/-- Behind an insertion sort of one block. -/
theorem blk_ins (hS : SWO lt) {n : Nat} {d : Array α} {s a b : Nat} (hs : 0 < s) (ha : s ∣ a) (hb : b = min (a + s) n) (hn : n ≤ d.size) (han : a ≤ n) (h1 : Blk lt pl n d s 0 a) (h2 : ∀ q, a ≤ q → q < n → pl d[q]! = q) :
    Blk lt pl n (insertionSort lt d a b) s 0 b ∧ (∀ q, b ≤ q → q < n → pl (insertionSort lt d a b)[q]! = q) ∧ PermIn a b d (insertionSort lt d a b) := by
  obtain ⟨h3, h4⟩ := insertionSort_holds (lt := lt) hS d a b (by omega) (by omega)
  refine ⟨fun p hp1 h5 h6 => ?_, fun q h5 h6 => by rw [h3.2.1 q (.inr h5)]; exact h2 q (by omega) h6, h3⟩
  rcases Nat.lt_trichotomy p a with hlt | heq | hgt
  · have := blk_keep (d' := insertionSort lt d a b) h1 (fun p' hp' _ h7 k _ h9 => h3.2.1 k (.inl (by have := dvd_next hp' ha h7; omega)))
    exact this p hp1 h5 hlt
  · subst heq
    rw [← hb]
    exact ⟨h4, pl_perm (x := p) (y := b) (by omega) h3 (fun k h7 h8 => by rw [h2 k h7 (by omega)]; exact ⟨h7, h8⟩)⟩
  · have := dvd_next ha hp1 hgt
    omega
end
end Go.Proofs.Ytkapidcgonjbaaa
