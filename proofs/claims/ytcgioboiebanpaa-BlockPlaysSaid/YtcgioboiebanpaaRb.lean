/- The one order of a tree's elements, in plain Lean: by ways from the beginning, by a walk in depth, and without any of them. -/
import Derived.ProofKit
namespace Go.Proofs.Ytcgioboiebanpaa
set_option linter.unusedVariables false

/-- Elements: how many, each one's parent, how their keys compare. -/
structure Forest where
  n : Nat
  par : Nat → Option Nat
  kc : Nat → Nat → Int

/-- Elements that may be. -/
structure Forest.Ok (F : Forest) : Prop where
  par : ∀ i, i < F.n → ∀ p, F.par i = some p → p < F.n ∧ F.kc p i < 0
  anti : ∀ i j, F.kc j i = - F.kc i j
  trans : ∀ i j k, F.kc i j < 0 → F.kc j k < 0 → F.kc i k < 0
  eq : ∀ i j, i < F.n → j < F.n → F.kc i j = 0 → i = j

namespace Forest
variable (F : Forest)

/-- How many keys are smaller. -/
def cnt (i : Nat) : Nat := ((List.range F.n).filter fun j => decide (F.kc j i < 0)).length
/-- How many keys are greater. -/
def top (i : Nat) : Nat := ((List.range F.n).filter fun j => decide (F.kc i j < 0)).length
def wayF : Nat → Nat → List Nat
  | 0, i => [i]
  | f + 1, i => match F.par i with | none => [i] | some p => wayF f p ++ [i]
/-- The way from the beginning to an element. -/
def way (i : Nat) : List Nat := F.wayF F.n i
def wayO : Option Nat → List Nat | none => [] | some p => F.way p
/-- How two ways compare. -/
def wcmp : List Nat → List Nat → Int
  | [], [] => 0
  | [], _ :: _ => -1
  | _ :: _, [] => 1
  | x :: u, y :: v => if x = y then wcmp u v else F.kc y x
def ec (i j : Nat) : Int := F.wcmp (F.way i) (F.way j)
/-- The one order. -/
def ord : List Nat := (List.range F.n).mergeSort fun i j => decide (F.ec i j ≤ 0)
/-- An element's children, the last key first. -/
def kids (p : Option Nat) : List Nat := ((List.range F.n).filter fun i => F.par i == p).mergeSort fun i j => decide (F.kc j i ≤ 0)
def dfs : Nat → Option Nat → List Nat
  | 0, _ => []
  | f + 1, p => (F.kids p).flatMap fun i => i :: dfs f (some i)
def D (p : Option Nat) : List Nat := F.dfs (F.n + 1) p

variable {F}
section
variable (h : F.Ok)
include h
theorem kc_self (i : Nat) : F.kc i i = 0 := by have := h.anti i i; omega
theorem cnt_lt {i : Nat} (hi : i < F.n) : F.cnt i < F.n := by
  have h1 : F.cnt i ≤ (List.range F.n).length := List.length_filter_le _ _
  rw [List.length_range] at h1
  refine Nat.lt_of_le_of_ne h1 (fun he => ?_)
  have h2 : ((List.range F.n).filter fun j => decide (F.kc j i < 0)).length = (List.range F.n).length := by rw [List.length_range]; exact he
  have h3 := List.length_filter_eq_length_iff.1 h2 i (List.mem_range.2 hi)
  rw [kc_self h] at h3; simp at h3
theorem top_lt {i : Nat} (hi : i < F.n) : F.top i < F.n := by
  have h1 : F.top i ≤ (List.range F.n).length := List.length_filter_le _ _
  rw [List.length_range] at h1
  refine Nat.lt_of_le_of_ne h1 (fun he => ?_)
  have h2 : ((List.range F.n).filter fun j => decide (F.kc i j < 0)).length = (List.range F.n).length := by rw [List.length_range]; exact he
  have h3 := List.length_filter_eq_length_iff.1 h2 i (List.mem_range.2 hi)
  rw [kc_self h] at h3; simp at h3
omit h in
theorem filter_lt {α : Type} {p q : α → Bool} : ∀ {l : List α} {x : α}, x ∈ l → (∀ y, p y = true → q y = true) → p x = false → q x = true → (l.filter p).length < (l.filter q).length
  | y :: l, x, hx, hpq, h1, h2 => by
    have hle : ∀ l : List α, (l.filter p).length ≤ (l.filter q).length := fun l => by
      induction l with
      | nil => simp
      | cons z l ih =>
        rw [List.filter_cons, List.filter_cons]
        by_cases hz : p z = true
        · rw [if_pos hz, if_pos (hpq z hz)]; simpa using ih
        · rw [if_neg hz]; split
          · simp; omega
          · exact ih
    rw [List.filter_cons, List.filter_cons]
    rcases List.mem_cons.1 hx with rfl | hx
    · rw [h1, h2]; have := hle l; simp; omega
    · have ih := filter_lt hx hpq h1 h2
      by_cases hz : p y = true
      · rw [if_pos hz, if_pos (hpq y hz)]; simpa using ih
      · rw [if_neg hz]; split
        · simp; omega
        · exact ih
theorem cnt_par {i p : Nat} (hi : i < F.n) (hp : F.par i = some p) : F.cnt p < F.cnt i := by
  obtain ⟨h1, h2⟩ := h.par i hi p hp
  refine filter_lt (x := p) (List.mem_range.2 h1) (fun y hy => ?_) ?_ ?_
  · exact decide_eq_true (h.trans y p i (of_decide_eq_true hy) h2)
  · rw [kc_self h]; simp
  · exact decide_eq_true h2
theorem top_par {i p : Nat} (hi : i < F.n) (hp : F.par i = some p) : F.top i < F.top p := by
  obtain ⟨h1, h2⟩ := h.par i hi p hp
  refine filter_lt (x := i) (List.mem_range.2 hi) (fun y hy => ?_) ?_ ?_
  · exact decide_eq_true (h.trans p i y h2 (of_decide_eq_true hy))
  · rw [kc_self h]; simp
  · exact decide_eq_true h2

/-! ### Ways -/
theorem wayF_more : ∀ f i, i < F.n → F.cnt i ≤ f → F.wayF (f + 1) i = F.wayF f i
  | 0, i, hi, hc => by
    unfold wayF
    split
    · rfl
    · next p hp => have := cnt_par h hi hp; omega
  | f + 1, i, hi, hc => by
    conv => lhs; unfold wayF
    conv => rhs; unfold wayF
    split
    · rfl
    · next p hp =>
      have h1 := cnt_par h hi hp
      rw [wayF_more f p (h.par i hi p hp).1 (by omega)]
theorem way_eq {i : Nat} (hi : i < F.n) : F.way i = F.wayO (F.par i) ++ [i] := by
  unfold way
  obtain ⟨m, hm⟩ : ∃ m, F.n = m + 1 := ⟨F.n - 1, by omega⟩
  rw [hm]
  conv => lhs; unfold wayF
  cases hp : F.par i with
  | none => rfl
  | some p =>
    have h1 := cnt_par h hi hp
    have h2 := cnt_lt h hi
    simp only [wayO, way]
    rw [hm, wayF_more h m p (h.par i hi p hp).1 (by omega)]
theorem way_mem : ∀ k i, F.cnt i ≤ k → i < F.n → ∀ x ∈ F.way i, x < F.n
  | k, i, hk, hi, x, hx => by
    rw [way_eq h hi, List.mem_append] at hx
    rcases hx with hx | hx
    · cases hp : F.par i with
      | none => rw [hp] at hx; cases hx
      | some p =>
        rw [hp] at hx
        have h1 := cnt_par h hi hp
        cases k with
        | zero => omega
        | succ k => exact way_mem k p (by omega) (h.par i hi p hp).1 x hx
    · rw [List.mem_singleton] at hx; subst hx; exact hi
theorem way_lt {i x : Nat} (hi : i < F.n) (hx : x ∈ F.way i) : x < F.n := way_mem h _ i (Nat.le_refl _) hi x hx
theorem way_inj {i j : Nat} (hi : i < F.n) (hj : j < F.n) (he : F.way i = F.way j) : i = j := by
  rw [way_eq h hi, way_eq h hj] at he
  have := List.append_inj' he rfl
  simpa using this.2

omit h in
theorem wcmp_self : ∀ u : List Nat, F.wcmp u u = 0
  | [] => rfl
  | x :: u => by unfold wcmp; rw [if_pos rfl]; exact wcmp_self u
theorem wcmp_anti : ∀ u v : List Nat, F.wcmp v u = - F.wcmp u v
  | [], [] => rfl
  | [], _ :: _ => rfl
  | _ :: _, [] => rfl
  | x :: u, y :: v => by
    unfold wcmp
    by_cases he : x = y
    · rw [if_pos he, if_pos he.symm]; exact wcmp_anti u v
    · rw [if_neg he, if_neg (fun h => he h.symm)]; exact h.anti _ _
theorem wcmp_eq : ∀ u v : List Nat, (∀ x ∈ u, x < F.n) → (∀ x ∈ v, x < F.n) → F.wcmp u v = 0 → u = v
  | [], [], _, _, _ => rfl
  | [], _ :: _, _, _, h => by cases h
  | _ :: _, [], _, _, h => by cases h
  | x :: u, y :: v, hu, hv, hc => by
    unfold wcmp at hc
    by_cases he : x = y
    · rw [if_pos he] at hc
      rw [he, wcmp_eq u v (fun z hz => hu z (List.mem_cons_of_mem _ hz)) (fun z hz => hv z (List.mem_cons_of_mem _ hz)) hc]
    · rw [if_neg he] at hc
      exact absurd (h.eq y x (hv y (List.mem_cons_self ..)) (hu x (List.mem_cons_self ..)) hc).symm he
theorem wcmp_trans : ∀ u v t : List Nat, F.wcmp u v < 0 → F.wcmp v t < 0 → F.wcmp u t < 0
  | [], [], _, h1, _ => by simp [wcmp] at h1
  | [], _ :: _, [], _, h2 => by simp [wcmp] at h2
  | [], _ :: _, _ :: _, _, _ => by simp [wcmp]
  | _ :: _, [], _, h1, _ => by simp [wcmp] at h1
  | _ :: _, _ :: _, [], _, h2 => by simp [wcmp] at h2
  | x :: u, y :: v, z :: t, h1, h2 => by
    unfold wcmp at h1 h2 ⊢
    by_cases e1 : x = y
    · rw [if_pos e1] at h1
      by_cases e2 : y = z
      · rw [if_pos e2] at h2
        rw [if_pos (e1.trans e2)]; exact wcmp_trans u v t h1 h2
      · rw [if_neg e2] at h2
        rw [if_neg (fun h => e2 (e1 ▸ h)), e1]; exact h2
    · rw [if_neg e1] at h1
      by_cases e2 : y = z
      · rw [if_neg (fun h => e1 (by rw [h, e2])), ← e2]; exact h1
      · rw [if_neg e2] at h2
        have h3 := h.trans _ _ _ h2 h1
        by_cases e3 : x = z
        · rw [e3, kc_self h] at h3; omega
        · rw [if_neg e3]; exact h3
omit h in
theorem wcmp_front : ∀ (p u v : List Nat), F.wcmp (p ++ u) (p ++ v) = F.wcmp u v
  | [], u, v => rfl
  | x :: p, u, v => by
    rw [List.cons_append, List.cons_append]
    conv => lhs; unfold wcmp
    rw [if_pos rfl]; exact wcmp_front p u v

theorem ec_anti (i j : Nat) : F.ec j i = - F.ec i j := wcmp_anti h _ _
theorem ec_eq {i j : Nat} (hi : i < F.n) (hj : j < F.n) (hc : F.ec i j = 0) : i = j :=
  way_inj h hi hj (wcmp_eq h _ _ (fun _ => way_lt h hi) (fun _ => way_lt h hj) hc)
omit h in
theorem ec_self (i : Nat) : F.ec i i = 0 := wcmp_self _
theorem ec_trans {i j k : Nat} (h1 : F.ec i j < 0) (h2 : F.ec j k < 0) : F.ec i k < 0 := wcmp_trans h _ _ _ h1 h2
theorem ec_le {i j k : Nat} (hi : i < F.n) (hj : j < F.n) (hk : k < F.n) (h1 : F.ec i j ≤ 0) (h2 : F.ec j k ≤ 0) : F.ec i k ≤ 0 := by
  by_cases e1 : F.ec i j = 0
  · rw [ec_eq h hi hj e1]; exact h2
  · by_cases e2 : F.ec j k = 0
    · rw [← ec_eq h hj hk e2]; exact h1
    · exact Int.le_of_lt (ec_trans h (j := j) (by omega) (by omega))

/-- A list in the one order, of all, is the one order. -/
theorem ord_unique {L M : List Nat} (hp : L.Perm M) (hM : ∀ x ∈ M, x < F.n) (hs : L.Pairwise fun i j => F.ec i j ≤ 0) (hs' : M.Pairwise fun i j => F.ec i j ≤ 0) : L = M := by
  refine hp.eq_of_pairwise (le := fun i j => F.ec i j ≤ 0) (fun a b ha hb h1 h2 => ?_) hs hs'
  rw [ec_anti h a b] at h2
  exact ec_eq h (hM a (hp.subset ha)) (hM b hb) (by omega)
end
/-- A list sorted by a relation that is one on its members. -/
theorem sorted_of {α : Type} {l : List α} {le : α → α → Prop} [∀ a b, Decidable (le a b)] (tr : ∀ a b c, a ∈ l → b ∈ l → c ∈ l → le a b → le b c → le a c) (tot : ∀ a b, a ∈ l → b ∈ l → le a b ∨ le b a) :
    (l.mergeSort fun a b => decide (le a b)).Pairwise le := by
  have h1 : ((l.attach).mergeSort fun a b => decide (le a.1 b.1)).Pairwise fun a b => decide (le a.1 b.1) = true := by
    refine List.pairwise_mergeSort (fun a b c h1 h2 => ?_) (fun a b => ?_) _
    · exact decide_eq_true (tr _ _ _ a.2 b.2 c.2 (of_decide_eq_true h1) (of_decide_eq_true h2))
    · rcases tot a.1 b.1 a.2 b.2 with h | h
      · simp [h]
      · simp [h]
  have h2 := List.map_mergeSort (f := Subtype.val) (r := fun a b : {x // x ∈ l} => decide (le a.1 b.1)) (s := fun a b => decide (le a b)) (l := l.attach) (by intros; rfl)
  rw [List.attach_map_subtype_val] at h2
  rw [← h2, List.pairwise_map]
  exact h1.imp fun h => of_decide_eq_true h
section
variable (h : F.Ok)
include h
theorem ord_sorted : F.ord.Pairwise fun i j => F.ec i j ≤ 0 := by
  unfold ord
  refine sorted_of (fun a b c ha hb hc h1 h2 => ec_le h (List.mem_range.1 ha) (List.mem_range.1 hb) (List.mem_range.1 hc) h1 h2) (fun a b _ _ => ?_)
  have := ec_anti h a b
  show F.ec a b ≤ 0 ∨ F.ec b a ≤ 0
  omega
omit h in
theorem ord_perm : F.ord.Perm (List.range F.n) := List.mergeSort_perm _ _
omit h in
theorem ord_mem {i : Nat} : i ∈ F.ord ↔ i < F.n := by rw [ord_perm.mem_iff, List.mem_range]
omit h in
theorem ord_nodup : F.ord.Nodup := ord_perm.symm.nodup List.nodup_range
omit h in
theorem ord_len : F.ord.length = F.n := by rw [ord_perm.length_eq, List.length_range]
theorem ord_strict : F.ord.Pairwise fun i j => F.ec i j < 0 := by
  have h1 := ord_sorted h
  have h2 : F.ord.Pairwise fun i j => i ≠ j := ord_nodup
  have h3 : ∀ i ∈ F.ord, i < F.n := fun i hi => ord_mem.1 hi
  have h4 := h1.and h2
  refine List.Pairwise.imp_of_mem (fun {a b} ha hb hab => ?_) h4
  by_cases hc : F.ec a b = 0
  · exact absurd (ec_eq h (h3 a ha) (h3 b hb) hc) hab.2
  · have := hab.1; omega

/-! ### In depth -/
omit h in
theorem kids_mem {p : Option Nat} {i : Nat} : i ∈ F.kids p ↔ i < F.n ∧ F.par i = p := by
  unfold kids
  rw [List.mem_mergeSort, List.mem_filter, List.mem_range, beq_iff_eq]
theorem kids_sorted (p : Option Nat) : (F.kids p).Pairwise fun i j => F.kc j i < 0 := by
  have h1 : (F.kids p).Pairwise fun i j => F.kc j i ≤ 0 := by
    unfold kids
    refine sorted_of (fun a b c ha hb hc h1 h2 => ?_) (fun a b _ _ => ?_)
    · have ha' := List.mem_range.1 (List.mem_filter.1 ha).1
      have hb' := List.mem_range.1 (List.mem_filter.1 hb).1
      have hc' := List.mem_range.1 (List.mem_filter.1 hc).1
      by_cases e1 : F.kc b a = 0
      · rw [← h.eq _ _ hb' ha' e1]; exact h2
      · by_cases e2 : F.kc c b = 0
        · rw [h.eq _ _ hc' hb' e2]; exact h1
        · exact Int.le_of_lt (h.trans _ _ _ (by omega) (show F.kc b a < 0 by omega))
    · have := h.anti a b
      show F.kc b a ≤ 0 ∨ F.kc a b ≤ 0
      omega
  have h2 : (F.kids p).Pairwise fun i j => i ≠ j := by
    have : (F.kids p).Nodup := (List.mergeSort_perm _ _).symm.nodup (List.nodup_range.filter _)
    exact this
  refine List.Pairwise.imp_of_mem (fun {a b} ha hb hab => ?_) (h1.and h2)
  by_cases hc : F.kc b a = 0
  · exact absurd (h.eq _ _ (kids_mem.1 hb).1 (kids_mem.1 ha).1 hc).symm hab.2
  · have := hab.1; omega
theorem dfs_more : ∀ f i, i < F.n → F.top i < f → F.dfs (f + 1) (some i) = F.dfs f (some i)
  | 0, i, hi, hc => by omega
  | f + 1, i, hi, hc => by
    conv => lhs; unfold dfs
    conv => rhs; unfold dfs
    rw [List.flatMap_def, List.flatMap_def]
    congr 1
    refine List.map_congr_left (fun c hcm => ?_)
    obtain ⟨h1, h2⟩ := kids_mem.1 hcm
    have := top_par h h1 h2
    rw [dfs_more f c h1 (by omega)]
theorem D_eq (p : Option Nat) : F.D p = (F.kids p).flatMap fun i => i :: F.D (some i) := by
  unfold D
  conv => lhs; unfold dfs
  rw [List.flatMap_def, List.flatMap_def]
  congr 1
  refine List.map_congr_left (fun c hcm => ?_)
  obtain ⟨h1, h2⟩ := kids_mem.1 hcm
  rw [dfs_more h F.n c h1 (top_lt h h1)]
theorem dfs_way : ∀ f p x, x ∈ F.dfs f p → x < F.n ∧ ∃ c u, c ∈ F.kids p ∧ F.way x = F.wayO p ++ c :: u
  | f + 1, p, x, hx => by
    unfold dfs at hx
    obtain ⟨c, hc, hx⟩ := List.mem_flatMap.1 hx
    obtain ⟨h1, h2⟩ := kids_mem.1 hc
    rcases List.mem_cons.1 hx with rfl | hx
    · exact ⟨h1, x, [], hc, by rw [way_eq h h1, h2]⟩
    · obtain ⟨h3, c', u, _, h4⟩ := dfs_way f (some c) x hx
      refine ⟨h3, c, c' :: u, hc, ?_⟩
      rw [h4]
      show F.way c ++ (c' :: u) = F.wayO p ++ c :: c' :: u
      rw [way_eq h h1, h2]; simp
theorem dfs_sub {f : Nat} {c x : Nat} (hc : c < F.n) (hx : x ∈ c :: F.dfs f (some c)) : ∃ u, F.way x = F.wayO (F.par c) ++ c :: u := by
  rcases List.mem_cons.1 hx with rfl | hx
  · exact ⟨[], way_eq h hc⟩
  · obtain ⟨_, c', u, _, h4⟩ := dfs_way h f (some c) x hx
    exact ⟨c' :: u, by rw [h4]; show F.way c ++ (c' :: u) = _; rw [way_eq h hc]; simp⟩
theorem dfs_sorted : ∀ f p, (F.dfs f p).Pairwise fun i j => F.ec i j < 0
  | 0, p => List.Pairwise.nil
  | f + 1, p => by
    unfold dfs
    rw [List.pairwise_flatMap]
    refine ⟨fun c hc => ?_, ?_⟩
    · rw [List.pairwise_cons]
      refine ⟨fun x hx => ?_, dfs_sorted f (some c)⟩
      obtain ⟨_, c', u, _, h4⟩ := dfs_way h f (some c) x hx
      unfold ec
      rw [h4]
      show F.wcmp (F.way c) (F.way c ++ (c' :: u)) < 0
      have := wcmp_front (F := F) (F.way c) [] (c' :: u)
      rw [List.append_nil] at this
      rw [this]; simp [wcmp]
    · refine List.Pairwise.imp_of_mem (fun {a b} ha hb hab x hx y hy => ?_) (kids_sorted h p)
      obtain ⟨h1, h2⟩ := kids_mem.1 ha
      obtain ⟨h3, h4⟩ := kids_mem.1 hb
      obtain ⟨u, hu⟩ := dfs_sub h h1 hx
      obtain ⟨v, hv⟩ := dfs_sub h h3 hy
      unfold ec
      rw [hu, hv, h2, h4, wcmp_front]
      unfold wcmp
      rw [if_neg (fun he => by rw [he, kc_self h] at hab; omega)]
      exact hab
omit h in
theorem D_step {p : Option Nat} : ∀ f y, y ∈ F.dfs f p → ∀ x, x ∈ F.kids (some y) → x ∈ F.dfs (f + 1) p
  | f + 1, y, hy, x, hx => by
    unfold dfs at hy
    obtain ⟨c, hc, hy⟩ := List.mem_flatMap.1 hy
    unfold dfs
    refine List.mem_flatMap.2 ⟨c, hc, List.mem_cons_of_mem _ ?_⟩
    rcases List.mem_cons.1 hy with rfl | hy
    · unfold dfs; exact List.mem_flatMap.2 ⟨x, hx, List.mem_cons_self ..⟩
    · exact D_step f y hy x hx
theorem D_more (p : Option Nat) (hp : p = none) : F.dfs (F.n + 2) p = F.dfs (F.n + 1) p := by
  conv => lhs; unfold dfs
  conv => rhs; unfold dfs
  rw [List.flatMap_def, List.flatMap_def]
  congr 1
  refine List.map_congr_left (fun c hcm => ?_)
  obtain ⟨h1, h2⟩ := kids_mem.1 hcm
  rw [dfs_more h F.n c h1 (top_lt h h1)]
theorem D_all : ∀ k x, F.cnt x ≤ k → x < F.n → x ∈ F.D none
  | k, x, hk, hx => by
    cases hp : F.par x with
    | none => rw [D_eq h]; exact List.mem_flatMap.2 ⟨x, kids_mem.2 ⟨hx, hp⟩, List.mem_cons_self ..⟩
    | some p =>
      have h1 := cnt_par h hx hp
      cases k with
      | zero => omega
      | succ k =>
        have h2 := D_all k p (by omega) (h.par x hx p hp).1
        have h3 := D_step (F.n + 1) p h2 x (kids_mem.2 ⟨hx, hp⟩)
        rw [D_more h none rfl] at h3
        exact h3
theorem D_ord : F.D none = F.ord := by
  have h1 : (F.D none).Pairwise fun i j => F.ec i j < 0 := dfs_sorted h _ _
  have h2 : (F.D none).Nodup := h1.imp fun hab he => by rw [he, ec_self] at hab; omega
  refine ord_unique h ?_ (fun x hx => ord_mem.1 hx) (h1.imp fun h => Int.le_of_lt h) (ord_sorted h)
  rw [List.perm_ext_iff_of_nodup h2 ord_nodup]
  intro x
  rw [ord_mem]
  exact ⟨fun hx => (dfs_way h _ _ x hx).1, fun hx => D_all h _ x (Nat.le_refl _) hx⟩

/-! ### Without a walk in depth: from where one stands to the next one -/
inductive Chain (F : Forest) (out : List Nat) : Option Nat → List Nat → Prop
  | root (A B : List Nat) : F.kids none = A ++ B → (∀ a ∈ A, a ∈ out) → Chain F out none (B.flatMap fun i => i :: F.D (some i))
  | node (y : Nat) (A B rest : List Nat) : y < F.n → F.kids (some y) = A ++ B → (∀ a ∈ A, a ∈ out) → Chain F out (F.par y) rest → Chain F out (some y) ((B.flatMap fun i => i :: F.D (some i)) ++ rest)
omit h in
theorem Chain.more {out out' : List Nat} (ho : ∀ x ∈ out, x ∈ out') {at' : Option Nat} {rest : List Nat} (hc : F.Chain out at' rest) : F.Chain out' at' rest := by
  induction hc with
  | root A B h1 h2 => exact .root A B h1 fun a ha => ho a (h2 a ha)
  | node y A B rest h0 h1 h2 h3 ih => exact .node y A B rest h0 h1 (fun a ha => ho a (h2 a ha)) ih
theorem Chain.start : F.Chain [] none F.ord := by
  have := Chain.root (F := F) (out := []) [] (F.kids none) rfl (fun a ha => by cases ha)
  rw [← D_eq h, D_ord h] at this
  exact this
/-- How far an element is from the beginning. -/
def depth (F : Forest) : Option Nat → Nat | none => 0 | some y => F.cnt y + 1
/-- From where one stands: the next one, or back. -/
theorem Chain.step {out rest : List Nat} {at' : Option Nat} (hc : F.Chain out at' rest) (ho : out ++ rest = F.ord) (hr : rest ≠ []) :
    (∃ i rest', rest = i :: rest' ∧ i < F.n ∧ F.par i = at' ∧ i ∉ out ∧ (∀ j, j < F.n → F.par j = at' → j ∉ out → j = i ∨ F.kc j i < 0) ∧ F.Chain (out ++ [i]) (some i) rest') ∨
    (∃ y, at' = some y ∧ y < F.n ∧ (∀ j, j < F.n → F.par j = at' → j ∈ out) ∧ F.Chain out (F.par y) rest) := by
  have hnd : (out ++ rest).Nodup := by rw [ho]; exact ord_nodup
  have key : ∀ (A B rest0 : List Nat), F.kids at' = A ++ B → (∀ a ∈ A, a ∈ out) → rest = (B.flatMap fun i => i :: F.D (some i)) ++ rest0 → ∀ i B', B = i :: B' → (∀ A' , F.kids at' = A' ++ B' → (∀ a ∈ A', a ∈ out ++ [i]) → F.Chain (out ++ [i]) at' ((B'.flatMap fun i => i :: F.D (some i)) ++ rest0)) →
      ∃ i rest', rest = i :: rest' ∧ i < F.n ∧ F.par i = at' ∧ i ∉ out ∧ (∀ j, j < F.n → F.par j = at' → j ∉ out → j = i ∨ F.kc j i < 0) ∧ F.Chain (out ++ [i]) (some i) rest' := by
    intro A B rest0 h1 h2 h3 i B' h4 h5
    subst h4
    have hi : i ∈ F.kids at' := by rw [h1]; simp
    obtain ⟨h6, h7⟩ := kids_mem.1 hi
    rw [List.flatMap_cons, List.cons_append, List.cons_append, List.append_assoc] at h3
    refine ⟨i, F.D (some i) ++ ((B'.flatMap fun i => i :: F.D (some i)) ++ rest0), h3, h6, h7, ?_, ?_, ?_⟩
    · intro hio
      have := (List.nodup_append.1 hnd).2.2 i hio i (by rw [h3]; simp)
      exact this rfl
    · intro j hj hpj hjo
      have hjk : j ∈ F.kids at' := kids_mem.2 ⟨hj, hpj⟩
      have hs := kids_sorted h at'
      rw [h1] at hjk hs
      rcases List.mem_append.1 hjk with hjA | hjB
      · exact absurd (h2 j hjA) hjo
      · rcases List.mem_cons.1 hjB with rfl | hjB
        · exact .inl rfl
        · exact .inr ((List.pairwise_cons.1 (List.pairwise_append.1 hs).2.1).1 j hjB)
    · have h8 := h5 (A ++ [i]) (by rw [h1]; simp) (fun a ha => by
        rcases List.mem_append.1 ha with ha | ha
        · exact List.mem_append_left _ (h2 a ha)
        · exact List.mem_append_right _ ha)
      have h9 := Chain.node (F := F) (out := out ++ [i]) i [] (F.kids (some i)) _ h6 rfl (fun a ha => by cases ha) (by rw [h7]; exact h8)
      rw [← D_eq h] at h9
      exact h9
  cases hc with
  | root A B h1 h2 =>
    rcases B with _ | ⟨i, B'⟩
    · exact absurd rfl hr
    · exact .inl (key A (i :: B') [] h1 h2 (by simp) i B' rfl (fun A' h3 h4 => by rw [List.append_nil]; exact .root A' B' h3 h4))
  | node y A B rest0 h0 h1 h2 h3 =>
    rcases B with _ | ⟨i, B'⟩
    · refine .inr ⟨y, rfl, h0, fun j hj hpj => ?_, by simpa using h3⟩
      have hjk : j ∈ F.kids (some y) := kids_mem.2 ⟨hj, hpj⟩
      rw [h1, List.append_nil] at hjk
      exact h2 j hjk
    · exact .inl (key A (i :: B') rest0 h1 h2 rfl i B' rfl (fun A' h4 h5 => .node y A' B' rest0 h0 h4 h5 (h3.more fun x hx => List.mem_append_left _ hx)))
end
end Forest
end Go.Proofs.Ytcgioboiebanpaa

namespace Go.Proofs.Ytcgioboiebanpaa
set_option linter.unusedVariables false
namespace Forest
/-- One element more. -/
structure Grow (F F' : Forest) (p : Option Nat) : Prop where
  ok : F.Ok
  ok' : F'.Ok
  n : F'.n = F.n + 1
  par : ∀ i, i < F.n → F'.par i = F.par i
  kc : ∀ i j, i < F.n → j < F.n → F'.kc i j = F.kc i j
  new : F'.par F.n = p
variable {F F' : Forest} {p : Option Nat}
theorem Grow.way_ (g : Grow F F' p) : ∀ k i, F.cnt i ≤ k → i < F.n → F'.way i = F.way i
  | k, i, hk, hi => by
    rw [way_eq g.ok' (by rw [g.n]; omega), way_eq g.ok hi, g.par i hi]
    cases hp : F.par i with
    | none => rfl
    | some q =>
      have h1 := cnt_par g.ok hi hp
      cases k with
      | zero => omega
      | succ k => rw [show F'.wayO (some q) = F'.way q from rfl, show F.wayO (some q) = F.way q from rfl, Grow.way_ g k q (by omega) (g.ok.par i hi q hp).1]
theorem Grow.way (g : Grow F F' p) {i : Nat} (hi : i < F.n) : F'.way i = F.way i := g.way_ _ i (Nat.le_refl _) hi
theorem Grow.wcmp (g : Grow F F' p) : ∀ u v : List Nat, (∀ x ∈ u, x < F.n) → (∀ x ∈ v, x < F.n) → F'.wcmp u v = F.wcmp u v
  | [], [], _, _ => rfl
  | [], _ :: _, _, _ => rfl
  | _ :: _, [], _, _ => rfl
  | x :: u, y :: v, hu, hv => by
    unfold Forest.wcmp
    rw [Grow.wcmp g u v (fun z hz => hu z (List.mem_cons_of_mem _ hz)) (fun z hz => hv z (List.mem_cons_of_mem _ hz)), g.kc y x (hv y (List.mem_cons_self ..)) (hu x (List.mem_cons_self ..))]
theorem Grow.ec (g : Grow F F' p) {i j : Nat} (hi : i < F.n) (hj : j < F.n) : F'.ec i j = F.ec i j := by
  unfold Forest.ec
  rw [g.way hi, g.way hj]
  exact g.wcmp _ _ (fun _ => way_lt g.ok hi) (fun _ => way_lt g.ok hj)
/-- The beginning of a way. -/
theorem way_part (h : F.Ok) : ∀ (k i : Nat), F.cnt i ≤ k → i < F.n → ∀ (w : List Nat) (z : Nat) (u : List Nat), F.way i = w ++ z :: u → F.way z = w ++ [z] ∧ F.kc z i ≤ 0 ∧ z < F.n
  | k, i, hk, hi, w, z, u, he => by
    have hz : z < F.n := way_lt h hi (by rw [he]; simp)
    rcases List.eq_nil_or_concat u with rfl | ⟨u', y, hu⟩
    · have e2 := way_eq h hi
      rw [he] at e2
      have := List.append_inj' e2 rfl
      obtain ⟨_, h2⟩ := this
      simp only [List.cons.injEq, and_true] at h2
      subst h2
      exact ⟨he, by rw [kc_self h]; omega, hz⟩
    · rw [List.concat_eq_append] at hu
      subst hu
      have e2 := way_eq h hi
      rw [he, show w ++ z :: (u' ++ [y]) = (w ++ z :: u') ++ [y] by simp] at e2
      obtain ⟨h1, _⟩ := List.append_inj' e2 rfl
      cases hp : F.par i with
      | none => rw [hp] at h1; simp [wayO] at h1
      | some q =>
        rw [hp] at h1
        have h3 := cnt_par h hi hp
        obtain ⟨h4, h5⟩ := h.par i hi q hp
        cases k with
        | zero => omega
        | succ k =>
          obtain ⟨h6, h7, _⟩ := way_part h k q (by omega) h4 w z u' h1.symm
          refine ⟨h6, ?_, hz⟩
          by_cases hc : F.kc z q = 0
          · have := h.eq _ _ hz h4 hc
            subst this
            omega
          · exact Int.le_of_lt (h.trans _ _ _ (by omega) h5)
/-- One way ahead of another: it begins it, or they part. -/
theorem wcmp_split : ∀ P v : List Nat, F.wcmp P v < 0 → (∃ c u, v = P ++ c :: u) ∨ (∃ w y z u1 u2, P = w ++ y :: u1 ∧ v = w ++ z :: u2 ∧ y ≠ z ∧ F.kc z y < 0)
  | [], [], h => by simp [wcmp] at h
  | [], c :: u, _ => .inl ⟨c, u, rfl⟩
  | _ :: _, [], h => by simp [wcmp] at h
  | x :: P, y :: v, h => by
    unfold wcmp at h
    by_cases he : x = y
    · subst he
      rw [if_pos rfl] at h
      rcases wcmp_split P v h with ⟨c, u, rfl⟩ | ⟨w, y, z, u1, u2, rfl, rfl, h1, h2⟩
      · exact .inl ⟨c, u, rfl⟩
      · exact .inr ⟨x :: w, y, z, u1, u2, rfl, rfl, h1, h2⟩
    · rw [if_neg he] at h
      exact .inr ⟨[], x, y, P, v, rfl, rfl, he, h⟩
theorem wcmp_more : ∀ (u v : List Nat) (x : Nat), F.wcmp u v < 0 ∨ u = v → F.wcmp u (v ++ [x]) < 0
  | [], [], x, _ => by simp [wcmp]
  | [], _ :: _, x, _ => by simp [wcmp]
  | _ :: _, [], x, h => by
    rcases h with h | h
    · simp [wcmp] at h
    · cases h
  | y :: u, z :: v, x, h => by
    rw [List.cons_append]
    unfold wcmp
    by_cases he : y = z
    · rw [if_pos he]
      refine wcmp_more u v x ?_
      rcases h with h | h
      · unfold wcmp at h; rw [if_pos he] at h; exact .inl h
      · injection h with _ h; exact .inr h
    · rw [if_neg he]
      rcases h with h | h
      · unfold wcmp at h; rw [if_neg he] at h; exact h
      · injection h with h _; exact absurd h he
/-- Where the new one stands: behind its parent (or at the beginning), past all with greater keys. -/
theorem Grow.ord (g : Grow F F' p) {A B : List Nat} (hA : (p = none ∧ A = []) ∨ ∃ q A0, p = some q ∧ A = A0 ++ [q]) (hL : F.ord = A ++ B) :
    F'.ord = A ++ (B.takeWhile (fun j => decide (0 < F'.kc j F.n)) ++ F.n :: B.dropWhile (fun j => decide (0 < F'.kc j F.n))) := by
  have hok := g.ok
  have hok' := g.ok'
  have hn : F.n < F'.n := by rw [g.n]; omega
  have hlt : ∀ {j}, j < F.n → j < F'.n := fun hj => by rw [g.n]; omega
  have hmem : ∀ {j}, j ∈ A ++ B ↔ j < F.n := fun {j} => by rw [← hL]; exact ord_mem
  have hAl : ∀ {j}, j ∈ A → j < F.n := fun hj => hmem.1 (List.mem_append_left _ hj)
  have hBl : ∀ {j}, j ∈ B → j < F.n := fun hj => hmem.1 (List.mem_append_right _ hj)
  have hstr : (A ++ B).Pairwise fun i j => F'.ec i j < 0 := by
    have := ord_strict hok
    rw [hL] at this
    exact this.imp_of_mem fun {a b} ha hb hab => by rw [g.ec (hmem.1 ha) (hmem.1 hb)]; exact hab
  obtain ⟨hsA, hsB, hsAB⟩ := List.pairwise_append.1 hstr
  obtain ⟨P, hP⟩ : ∃ P, P = F'.wayO p := ⟨_, rfl⟩
  have hwn : F'.way F.n = P ++ [F.n] := by rw [way_eq hok' hn, g.new, hP]
  have hPl : ∀ y ∈ P, y < F.n ∧ F'.kc y F.n < 0 := by
    intro y hy
    rcases hA with ⟨rfl, rfl⟩ | ⟨q, A0, rfl, rfl⟩
    · rw [hP] at hy; cases hy
    · have hq : q < F.n := hAl (by simp)
      have hy' : y ∈ F'.way q := by rw [hP] at hy; exact hy
      obtain ⟨w, u, hw⟩ := List.append_of_mem hy'
      obtain ⟨h1, h2, h3⟩ := way_part hok' _ q (Nat.le_refl _) (hlt hq) w y u hw
      have h4 : F'.kc q F.n < 0 := (hok'.par F.n hn q g.new).2
      have h5 : y < F.n := by rw [g.way hq] at hy'; exact way_lt hok hq hy'
      refine ⟨h5, ?_⟩
      by_cases hc : F'.kc y q = 0
      · have := hok'.eq _ _ (hlt h5) (hlt hq) hc
        subst this; exact h4
      · exact hok'.trans _ _ _ (by omega) h4
  -- ahead of the parent, or it
  have hAn : ∀ j ∈ A, F'.ec j F.n < 0 := by
    intro j hj
    rcases hA with ⟨rfl, rfl⟩ | ⟨q, A0, rfl, rfl⟩
    · cases hj
    · unfold Forest.ec
      rw [hwn, hP]
      refine wcmp_more _ _ _ ?_
      rcases List.mem_append.1 hj with hj | hj
      · exact .inl ((List.pairwise_append.1 hsA).2.2 j hj q (by simp))
      · rw [List.mem_singleton] at hj
        subst hj
        exact .inr rfl
  -- behind the parent
  have hPB : ∀ j ∈ B, F'.wcmp P (F'.way j) < 0 := by
    intro j hj
    rcases hA with ⟨rfl, rfl⟩ | ⟨q, A0, rfl, rfl⟩
    · rw [hP, way_eq hok' (hlt (hBl hj))]
      cases hh : F'.wayO (F'.par j) ++ [j] with
      | nil => simp at hh
      | cons a l => simp [Forest.wcmp, wayO]
    · rw [hP]
      exact hsAB q (by simp) j hj
  have hinB : ∀ z, z < F.n → F'.wcmp P (F'.way z) < 0 → z ∈ B := by
    intro z hz hw
    rcases List.mem_append.1 (hmem.2 hz) with h1 | h1
    · exfalso
      rcases hA with ⟨rfl, rfl⟩ | ⟨q, A0, rfl, rfl⟩
      · cases h1
      · have h2 : F'.ec q z < 0 := by rw [hP] at hw; exact hw
        rcases List.mem_append.1 h1 with h3 | h3
        · have h4 : F'.ec z q < 0 := (List.pairwise_append.1 hsA).2.2 z h3 q (by simp)
          have h5 := ec_anti hok' z q
          omega
        · rw [List.mem_singleton] at h3
          subst h3
          rw [ec_self] at h2
          omega
    · exact h1
  have hcase : ∀ j ∈ B, (∃ c u, F'.way j = P ++ c :: u ∧ c < F.n ∧ c ≠ F.n ∧ F'.ec F.n j = F'.kc c F.n ∧ F'.way c = P ++ [c] ∧ F'.kc c j ≤ 0) ∨
      (F'.ec F.n j < 0 ∧ ∃ z w u2, F'.way j = w ++ z :: u2 ∧ F'.way z = w ++ [z] ∧ z < F.n ∧ F'.wcmp P (F'.way z) < 0 ∧ F'.kc z F.n < 0) := by
    intro j hj
    have hjl := hBl hj
    rcases wcmp_split P _ (hPB j hj) with ⟨c, u, hc⟩ | ⟨w, y, z, u1, u2, h1, h2, h3, h4⟩
    · obtain ⟨h5, h6, _⟩ := way_part hok' _ j (Nat.le_refl _) (hlt hjl) P c u hc
      have h7 : c < F.n := by
        have : c ∈ F'.way j := by rw [hc]; simp
        rw [g.way hjl] at this
        exact way_lt hok hjl this
      refine .inl ⟨c, u, hc, h7, by omega, ?_, h5, h6⟩
      unfold Forest.ec
      rw [hwn, hc, wcmp_front]
      unfold Forest.wcmp
      rw [if_neg (by omega)]
    · obtain ⟨h5, h6, _⟩ := way_part hok' _ j (Nat.le_refl _) (hlt hjl) w z u2 h2
      have h7 : z < F.n := by
        have : z ∈ F'.way j := by rw [h2]; simp
        rw [g.way hjl] at this
        exact way_lt hok hjl this
      have h8 := (hPl y (by rw [h1]; simp))
      refine .inr ⟨?_, z, w, u2, h2, h5, h7, ?_, hok'.trans _ _ _ h4 h8.2⟩
      · unfold Forest.ec
        rw [hwn, h2, h1, List.append_assoc, wcmp_front, List.cons_append]
        unfold Forest.wcmp
        rw [if_neg h3]
        exact h4
      · rw [h5, h1, wcmp_front]
        unfold Forest.wcmp
        rw [if_neg h3]
        exact h4
  have hpre : ∀ {z j w u}, F'.way j = w ++ z :: u → F'.way z = w ++ [z] → F'.ec z j ≤ 0 := by
    intro z j w u h1 h2
    unfold Forest.ec
    rw [h1, h2, wcmp_front]
    cases u with
    | nil => rw [wcmp_self]; omega
    | cons a u => simp [Forest.wcmp]
  obtain ⟨B1, hB1⟩ : ∃ B1, B1 = B.takeWhile (fun j => decide (0 < F'.kc j F.n)) := ⟨_, rfl⟩
  obtain ⟨B2, hB2⟩ : ∃ B2, B2 = B.dropWhile (fun j => decide (0 < F'.kc j F.n)) := ⟨_, rfl⟩
  have hBB : B1 ++ B2 = B := by rw [hB1, hB2]; exact List.takeWhile_append_dropWhile
  rw [← hB1, ← hB2]
  have hpos : ∀ j ∈ B1, 0 < F'.kc j F.n := by
    intro j hj
    rw [hB1] at hj
    have h1 := List.all_takeWhile (p := fun j => decide (0 < F'.kc j F.n)) (l := B)
    rw [List.all_eq_true] at h1
    exact of_decide_eq_true (h1 j hj)
  rw [← hBB] at hsB hsAB hcase hinB hBl
  obtain ⟨hs1, hs2, hs12⟩ := List.pairwise_append.1 hsB
  have hne : ∀ {i}, i < F.n → F'.ec F.n i ≠ 0 := fun {i} hi hc => by
    have := ec_eq hok' hn (hlt hi) hc
    omega
  -- those with greater keys stand ahead
  have h1n : ∀ j ∈ B1, F'.ec j F.n < 0 := by
    intro j hj
    have hjB : j ∈ B1 ++ B2 := List.mem_append_left _ hj
    have hin : ∀ z, z < F.n → F'.wcmp P (F'.way z) < 0 → F'.ec z j ≤ 0 → 0 < F'.kc z F.n := by
      intro z hz hw he
      rcases List.mem_append.1 (hinB z hz hw) with h | h
      · exact hpos z h
      · have h2 := hs12 j hj z h
        have h3 := ec_anti hok' z j
        omega
    have han := ec_anti hok' j F.n
    have hjl := hBl hjB
    have hnz := hne hjl
    rcases hcase j hjB with ⟨c, u, h1, h2, h3, h4, h5, h6⟩ | ⟨h1, z, w, u2, h2, h3, h4, h5, h6⟩
    · have h7 := hin c h2 (by rw [h5]; have := wcmp_front (F := F') P [] [c]; rw [List.append_nil] at this; rw [this]; simp [Forest.wcmp]) (hpre h1 h5)
      omega
    · have h7 := hin z h4 h5 (hpre h2 h3)
      omega
  have h2n : ∀ j ∈ B2, F'.ec F.n j < 0 := by
    cases hd : B2 with
    | nil => intro j hj; cases hj
    | cons j0 R =>
      rw [hd] at hs2 hcase hBl
      have hj0 : ¬ 0 < F'.kc j0 F.n := by
        have : ∃ j0 R, B.dropWhile (fun j => decide (0 < F'.kc j F.n)) = j0 :: R := ⟨j0, R, by rw [← hB2, hd]⟩
        have h1 := List.head?_dropWhile_not (p := fun j => decide (0 < F'.kc j F.n)) B
        rw [← hB2, hd] at h1
        simpa using h1
      have hj0l : j0 < F.n := hBl (by simp)
      have h0 : F'.ec F.n j0 < 0 := by
        rcases hcase j0 (by simp) with ⟨c, u, h1, h2, h3, h4, h5, h6⟩ | ⟨h1, _⟩
        · have hnz := hne hj0l
          have h7 := hok'.anti c F.n
          have h8 := hok'.anti j0 F.n
          by_cases hcn : 0 < F'.kc c F.n
          · exfalso
            have h9 : F'.kc F.n j0 < 0 := by
              by_cases hc : F'.kc c j0 = 0
              · have := hok'.eq _ _ (hlt h2) (hlt hj0l) hc
                subst this; omega
              · exact hok'.trans _ _ _ (by omega) (show F'.kc c j0 < 0 by omega)
            omega
          · omega
        · exact h1
      intro j hj
      rcases List.mem_cons.1 hj with rfl | hj
      · exact h0
      · exact ec_trans hok' h0 ((List.pairwise_cons.1 hs2).1 j hj)
  symm
  refine ord_unique hok' ?_ (fun x hx => ord_mem.1 hx) ?_ (ord_sorted hok')
  · have h1 : (A ++ (B1 ++ F.n :: B2)).Perm (F.n :: (A ++ (B1 ++ B2))) := by
      have : A ++ (B1 ++ F.n :: B2) = (A ++ B1) ++ F.n :: B2 := by simp
      rw [this, ← List.append_assoc]
      exact List.perm_middle
    rw [hBB, ← hL] at h1
    refine h1.trans ?_
    refine ((ord_perm (F := F)).cons F.n).trans ?_
    refine List.Perm.trans ?_ (ord_perm (F := F')).symm
    rw [g.n, List.range_succ]
    exact (List.perm_append_comm (l₁ := List.range F.n) (l₂ := [F.n])).symm
  · refine List.Pairwise.imp (fun h => Int.le_of_lt h) ?_
    rw [List.pairwise_append]
    refine ⟨hsA, ?_, ?_⟩
    · rw [List.pairwise_append]
      refine ⟨hs1, List.pairwise_cons.2 ⟨h2n, hs2⟩, ?_⟩
      intro a ha b hb
      rcases List.mem_cons.1 hb with rfl | hb
      · exact h1n a ha
      · exact hs12 a ha b hb
    · intro a ha b hb
      rcases List.mem_append.1 hb with hb | hb
      · exact hsAB a ha b (List.mem_append_left _ hb)
      · rcases List.mem_cons.1 hb with rfl | hb
        · exact hAn a ha
        · exact hsAB a ha b (List.mem_append_right _ hb)
end Forest
end Go.Proofs.Ytcgioboiebanpaa
