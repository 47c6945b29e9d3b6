/- Some of the elements, elements listed otherwise, an element with the last key, and places in the one order: plain Lean. -/
import Derived.Test.YtchbpfkjhilgiaaPa
namespace Go.Proofs.Ytchbpfkjhilgiaa
set_option linter.unusedVariables false
namespace Forest
variable {F G : Forest}

/-- Some elements of F, each with its parent, are those of G. -/
structure Part (F G : Forest) (f : Nat → Option Nat) : Prop where
  lt : ∀ i, i < F.n → ∀ j, f i = some j → j < G.n
  onto : ∀ j, j < G.n → ∃ i, i < F.n ∧ f i = some j
  inj : ∀ i i' j, i < F.n → i' < F.n → f i = some j → f i' = some j → i = i'
  root : ∀ i j, i < F.n → f i = some j → F.par i = none → G.par j = none
  par : ∀ i j, i < F.n → f i = some j → ∀ p, F.par i = some p → ∃ q, f p = some q ∧ G.par j = some q
  kc : ∀ i i' j j', i < F.n → i' < F.n → f i = some j → f i' = some j' → G.kc j j' = F.kc i i'

theorem Part.ok {f : Nat → Option Nat} (m : Part F G f) (h : F.Ok) (ha : ∀ i j, G.kc j i = - G.kc i j) (ht : ∀ i j k, G.kc i j < 0 → G.kc j k < 0 → G.kc i k < 0) : G.Ok where
  par := by
    intro j hj q hq
    obtain ⟨i, hi, hf⟩ := m.onto j hj
    cases hp : F.par i with
    | none => rw [m.root i j hi hf hp] at hq; cases hq
    | some p =>
      obtain ⟨q', h1, h2⟩ := m.par i j hi hf p hp
      rw [h2] at hq
      cases hq
      obtain ⟨h3, h4⟩ := h.par i hi p hp
      exact ⟨m.lt p h3 _ h1, by rw [m.kc p i _ j h3 hi h1 hf]; exact h4⟩
  anti := ha
  trans := ht
  eq := by
    intro j j' hj hj' hc
    obtain ⟨i, hi, hf⟩ := m.onto j hj
    obtain ⟨i', hi', hf'⟩ := m.onto j' hj'
    rw [m.kc i i' j j' hi hi' hf hf'] at hc
    have := h.eq i i' hi hi' hc
    subst this
    rw [hf] at hf'; cases hf'; rfl
theorem Part.way {f : Nat → Option Nat} (m : Part F G f) (h : F.Ok) (hG : G.Ok) : ∀ k i j, F.cnt i ≤ k → i < F.n → f i = some j → G.way j = (F.way i).filterMap f ∧ ∀ x ∈ F.way i, (f x).isSome
  | k, i, j, hk, hi, hf => by
    have hj := m.lt i hi j hf
    rw [way_eq h hi, way_eq hG hj]
    cases hp : F.par i with
    | none =>
      rw [m.root i j hi hf hp]
      simp only [wayO, List.nil_append]
      refine ⟨by rw [List.filterMap_cons_some hf]; rfl, fun x hx => ?_⟩
      rw [List.mem_singleton] at hx; subst hx; rw [hf]; rfl
    | some p =>
      obtain ⟨q, h1, h2⟩ := m.par i j hi hf p hp
      have h3 := cnt_par h hi hp
      rw [h2]
      simp only [wayO]
      cases k with
      | zero => omega
      | succ k =>
        obtain ⟨h4, h5⟩ := m.way h hG k p q (by omega) (h.par i hi p hp).1 h1
        refine ⟨by rw [List.filterMap_append, h4, List.filterMap_cons_some hf]; rfl, fun x hx => ?_⟩
        rcases List.mem_append.1 hx with hx | hx
        · exact h5 x hx
        · rw [List.mem_singleton] at hx; subst hx; rw [hf]; rfl
theorem Part.wcmp {f : Nat → Option Nat} (m : Part F G f) : ∀ u v : List Nat, (∀ x ∈ u, x < F.n ∧ (f x).isSome) → (∀ x ∈ v, x < F.n ∧ (f x).isSome) → G.wcmp (u.filterMap f) (v.filterMap f) = F.wcmp u v
  | [], [], _, _ => rfl
  | [], y :: v, _, hv => by
    obtain ⟨y', hy⟩ := Option.isSome_iff_exists.1 (hv y (List.mem_cons_self ..)).2
    rw [List.filterMap_cons_some hy]; rfl
  | x :: u, [], hu, _ => by
    obtain ⟨y', hy⟩ := Option.isSome_iff_exists.1 (hu x (List.mem_cons_self ..)).2
    rw [List.filterMap_cons_some hy]; rfl
  | x :: u, y :: v, hu, hv => by
    obtain ⟨hxn, hx⟩ := hu x (List.mem_cons_self ..)
    obtain ⟨hyn, hy⟩ := hv y (List.mem_cons_self ..)
    obtain ⟨x', hx⟩ := Option.isSome_iff_exists.1 hx
    obtain ⟨y', hy⟩ := Option.isSome_iff_exists.1 hy
    rw [List.filterMap_cons_some hx, List.filterMap_cons_some hy]
    unfold Forest.wcmp
    by_cases he : x = y
    · subst he
      rw [hx] at hy; cases hy
      rw [if_pos rfl, if_pos rfl]
      exact m.wcmp u v (fun z hz => hu z (List.mem_cons_of_mem _ hz)) (fun z hz => hv z (List.mem_cons_of_mem _ hz))
    · rw [if_neg he, if_neg (fun h => he (m.inj x y x' hxn hyn hx (by rw [h]; exact hy)))]
      exact m.kc y x y' x' hyn hxn hy hx
theorem Part.ec {f : Nat → Option Nat} (m : Part F G f) (h : F.Ok) (hG : G.Ok) {i i' j j' : Nat} (hi : i < F.n) (hi' : i' < F.n) (hf : f i = some j) (hf' : f i' = some j') : G.ec j j' = F.ec i i' := by
  obtain ⟨h1, h2⟩ := m.way h hG _ i j (Nat.le_refl _) hi hf
  obtain ⟨h3, h4⟩ := m.way h hG _ i' j' (Nat.le_refl _) hi' hf'
  unfold Forest.ec
  rw [h1, h3]
  exact m.wcmp _ _ (fun x hx => ⟨way_lt h hi hx, h2 x hx⟩) (fun x hx => ⟨way_lt h hi' hx, h4 x hx⟩)
/-- The order of some is that of all, without the others. -/
theorem Part.ord {f : Nat → Option Nat} (m : Part F G f) (h : F.Ok) (hG : G.Ok) : G.ord = F.ord.filterMap f := by
  have hmem : ∀ x ∈ F.ord, x < F.n := fun x hx => ord_mem.1 hx
  refine (ord_unique hG ?_ (fun x hx => ?_) ?_ ?_).symm
  · have hn : (F.ord.filterMap f).Nodup := by
      show List.Pairwise _ _
      rw [List.pairwise_filterMap]
      refine List.Pairwise.imp_of_mem (fun {a b} ha hb hab c hc c' hc' he => ?_) (show F.ord.Pairwise (· ≠ ·) from ord_nodup)
      subst he
      exact hab (m.inj a b c (hmem a ha) (hmem b hb) hc hc')
    rw [List.perm_ext_iff_of_nodup hn (ord_nodup (F := G))]
    intro j
    rw [ord_mem, List.mem_filterMap]
    refine ⟨fun ⟨i, hi, hf⟩ => m.lt i (hmem i hi) j hf, fun hj => ?_⟩
    obtain ⟨i, hi, hf⟩ := m.onto j hj
    exact ⟨i, ord_mem.2 hi, hf⟩
  · exact ord_mem.1 hx
  · rw [List.pairwise_filterMap]
    refine List.Pairwise.imp_of_mem (fun {a b} ha hb hab c hc c' hc' => ?_) (ord_sorted h)
    rw [m.ec h hG (hmem a ha) (hmem b hb) hc hc']
    exact hab
  · exact ord_sorted hG

/-! ### The last key -/
theorem last_le (h : F.Ok) {N : Nat} : ∀ (w u : List Nat), (∀ x ∈ u, x ≠ N → F.kc x N < 0) → F.wcmp u (w ++ [N]) < 0 → F.wcmp u w ≤ 0
  | [], [], _, _ => by simp [Forest.wcmp]
  | [], x :: u, hu, hc => by
    rw [List.nil_append] at hc
    unfold Forest.wcmp at hc
    by_cases he : x = N
    · rw [if_pos he] at hc
      cases u <;> simp [Forest.wcmp] at hc
    · rw [if_neg he] at hc
      have h1 := hu x (List.mem_cons_self ..) he
      have h2 := h.anti x N
      omega
  | y :: w, [], _, _ => by simp [Forest.wcmp]
  | y :: w, x :: u, hu, hc => by
    rw [List.cons_append] at hc
    unfold Forest.wcmp at hc ⊢
    by_cases he : x = y
    · rw [if_pos he] at hc ⊢
      exact last_le h w u (fun z hz => hu z (List.mem_cons_of_mem _ hz)) hc
    · rw [if_neg he] at hc ⊢; omega
/-- What has the last key stands right behind its parent, or first. -/
theorem last_behind (h : F.Ok) {N : Nat} (hN : N < F.n) (hk : ∀ j, j < F.n → j ≠ N → F.kc j N < 0) {A B : List Nat} (ho : F.ord = A ++ N :: B) :
    match F.par N with | none => A = [] | some p => ∃ A', A = A' ++ [p] := by
  have hs := ord_strict h
  rw [ho] at hs
  obtain ⟨hsA, hsB, hAB⟩ := List.pairwise_append.1 hs
  have hA : ∀ a ∈ A, a < F.n ∧ F.ec a N < 0 := fun a ha => ⟨ord_mem.1 (by rw [ho]; simp [ha]), hAB a ha N (List.mem_cons_self ..)⟩
  cases hp : F.par N with
  | none =>
    simp only
    cases A with
    | nil => rfl
    | cons a A =>
      obtain ⟨h1, h2⟩ := hA a (List.mem_cons_self ..)
      have h3 := last_le h (N := N) [] (F.way a) (fun x hx hne => hk x (way_lt h h1 hx) hne) (by
        have : F.way N = [] ++ [N] := by rw [way_eq h hN, hp]; rfl
        rw [← this]; exact h2)
      rw [way_eq h h1] at h3
      cases hw : F.wayO (F.par a) ++ [a] with
      | nil => simp at hw
      | cons y u => rw [hw] at h3; simp [Forest.wcmp] at h3
  | some p =>
    simp only
    obtain ⟨hp1, hp2⟩ := h.par N hN p hp
    have hw : F.way N = F.way p ++ [N] := by rw [way_eq h hN, hp]; rfl
    have hpN : F.ec p N < 0 := by
      unfold Forest.ec
      rw [hw]
      have := wcmp_front (F := F) (F.way p) [] [N]
      rw [List.append_nil] at this
      rw [this]; simp [Forest.wcmp]
    have hpo : p ∈ A ++ N :: B := by rw [← ho]; exact ord_mem.2 hp1
    have hpA : p ∈ A := by
      rcases List.mem_append.1 hpo with hh | hh
      · exact hh
      · rcases List.mem_cons.1 hh with rfl | hh
        · rw [ec_self] at hpN; omega
        · have h1 := (List.pairwise_cons.1 hsB).1 p hh
          have h2 := ec_anti h p N
          omega
    obtain ⟨A1, A2, rfl⟩ := List.append_of_mem hpA
    cases A2 with
    | nil => exact ⟨A1, rfl⟩
    | cons j A2 =>
      have h1 := hA j (by simp)
      have h2 : F.ec p j < 0 := (List.pairwise_cons.1 (List.pairwise_append.1 hsA).2.1).1 j (List.mem_cons_self ..)
      have h3 : F.ec j p ≤ 0 := last_le h (N := N) (F.way p) (F.way j) (fun x hx hne => hk x (way_lt h h1.1 hx) hne) (by rw [← hw]; exact h1.2)
      have h4 := ec_anti h j p
      omega

/-! ### Places -/
theorem ord_places (h : F.Ok) {x y a b : Nat} (hx : F.ord[x]? = some a) (hy : F.ord[y]? = some b) : (x < y → F.ec a b < 0) ∧ (y < x → 0 < F.ec a b) ∧ (x = y → F.ec a b = 0) := by
  obtain ⟨hx1, hx2⟩ := List.getElem?_eq_some_iff.1 hx
  obtain ⟨hy1, hy2⟩ := List.getElem?_eq_some_iff.1 hy
  have hs := List.pairwise_iff_getElem.1 (ord_strict h)
  refine ⟨fun hlt => ?_, fun hlt => ?_, fun he => ?_⟩
  · rw [← hx2, ← hy2]; exact hs x y hx1 hy1 hlt
  · have h1 := hs y x hy1 hx1 hlt
    rw [hx2, hy2] at h1
    have := ec_anti h a b
    omega
  · subst he
    rw [hx] at hy; cases hy; exact ec_self a
theorem wcmp_one (hk : ∀ i j, F.kc i j = -1 ∨ F.kc i j = 0 ∨ F.kc i j = 1) : ∀ u v : List Nat, F.wcmp u v = -1 ∨ F.wcmp u v = 0 ∨ F.wcmp u v = 1
  | [], [] => .inr (.inl rfl)
  | [], _ :: _ => .inl rfl
  | _ :: _, [] => .inr (.inr rfl)
  | x :: u, y :: v => by
    unfold Forest.wcmp
    split
    · exact wcmp_one hk u v
    · exact hk y x
end Forest
end Go.Proofs.Ytchbpfkjhilgiaa
