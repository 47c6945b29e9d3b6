/- Match's sort of pairs. -/
import Derived.Test.YtkapidcgonjbaaaPa
import Derived.Shelf.SlSortCmp.NoneTotal
namespace Go.Proofs.Ytkapidcgonjbaaa
open Go.RowKit
open Go.Sort hiding Below
set_option linter.unusedVariables false

theorem cmpInt_lt (a b : Int) : cmpInt a b < 0 ↔ a < b := by
  unfold cmpInt; split
  · simp; assumption
  · split <;> omega
theorem cmpInt_eq (a b : Int) : cmpInt a b = 0 ↔ a = b := by
  unfold cmpInt; split
  · simp; omega
  · split <;> omega
theorem pCmp_lt (p q : Pr) : pCmp p q < 0 ↔ rk q.2.2 < rk p.2.2 ∨ (rk q.2.2 = rk p.2.2 ∧ (p.1 < q.1 ∨ (p.1 = q.1 ∧ p.2.1 < q.2.1))) := by
  unfold pCmp or3 fOrd
  have h1 := cmpInt_lt (rk q.2.2) (rk p.2.2)
  have h2 := cmpInt_eq (rk q.2.2) (rk p.2.2)
  have h3 := cmpInt_lt p.1 q.1
  have h4 := cmpInt_eq p.1 q.1
  have h5 := cmpInt_lt p.2.1 q.2.1
  generalize cmpInt (rk q.2.2) (rk p.2.2) = A at *
  generalize cmpInt p.1 q.1 = B at *
  generalize cmpInt p.2.1 q.2.1 = C at *
  by_cases hA : A = 0
  · by_cases hB : B = 0
    · simp [hA, hB] at *; omega
    · simp [hA, hB] at *; omega
  · simp [hA] at *; omega
/-- A number that is no NaN is known by its rank. -/
theorem rk_inj (x y : Nat) (hx : x < 18446744073709551616) (hy : y < 18446744073709551616) (nx : isN x = false) (ny : isN y = false) (h : rk x = rk y) : x = y := by
  have b1 := bits_eq x hx
  have b2 := bits_eq y hy
  have r1 := rung_lt x
  have r2 := rung_lt y
  have e1 : rk x = if sgn x then -(rung x : Int) - 1 else rung x := by unfold rk; rw [if_neg (by rw [nx]; decide)]
  have e2 : rk y = if sgn y then -(rung y : Int) - 1 else rung y := by unfold rk; rw [if_neg (by rw [ny]; decide)]
  rw [e1, e2] at h
  by_cases s1 : sgn x = true
  · by_cases s2 : sgn y = true
    · rw [if_pos s1] at h b1; rw [if_pos s2] at h b2; omega
    · rw [if_pos s1] at h b1; rw [if_neg s2] at h b2; omega
  · by_cases s2 : sgn y = true
    · rw [if_neg s1] at h b1; rw [if_pos s2] at h b2; omega
    · rw [if_neg s1] at h b1; rw [if_neg s2] at h b2; omega

/-- The pairs that the sort is handed. -/
abbrev NumP := { p : Pr // p.2.2 < 18446744073709551616 ∧ isN p.2.2 = false }
instance : Inhabited NumP := ⟨⟨(0, 0, 0), by decide, by decide⟩⟩
def nCmp (x y : NumP) : Int := pCmp x.1 y.1
def nEnc (x : NumP) : List Value := (prB x.1).toList
theorem nSWO : SWO (ltOf nCmp) where
  irrefl x := decide_eq_false (fun h => by have := (pCmp_lt x.1 x.1).1 h; omega)
  trans x y z h1 h2 := by
    simp only [ltOf, nCmp, decide_eq_true_eq, pCmp_lt] at *; omega
  ntrans x y z h1 h2 := by
    simp only [ltOf, nCmp, decide_eq_false_iff_not, pCmp_lt] at *; omega
theorem nTot (x y : NumP) (h1 : ltOf nCmp x y = false) (h2 : ltOf nCmp y x = false) : x = y := by
  simp only [ltOf, nCmp, decide_eq_false_iff_not, pCmp_lt] at h1 h2
  obtain ⟨⟨a, b, c⟩, hc, hn⟩ := x
  obtain ⟨⟨a', b', c'⟩, hc', hn'⟩ := y
  simp only at *
  have e1 : rk c = rk c' := by omega
  have e2 := rk_inj c c' hc hc' hn hn' e1
  have e3 : a = a' := by omega
  have e4 : b = b' := by omega
  subst e2 e3 e4
  rfl

/-- Sorted by the closure's order. -/
def ltP (p q : Pr) : Bool := decide (pCmp p q < 0)
def sortPs (PS : List Pr) : List Pr := PS.mergeSort fun x y => !ltP y x

theorem cells_flatK {α β : Type} [Inhabited α] (R : Rec β) (enc : α → List Value) (f : α → β) (d : Array α) (he : ∀ x, enc x = R.enc (f x)) (hok : ∀ x ∈ d, R.ok (f x)) : R.cells (d.toList.map f) = (flatK enc R.sz d).toList.map id := by
  have hok' : ∀ y ∈ d.toList.map f, R.ok y := by
    intro y hy
    obtain ⟨x, hx, rfl⟩ := List.mem_map.1 hy
    exact hok x (by simpa using hx)
  rw [List.map_id]
  have hlen : (R.cells (d.toList.map f)).length = d.size * R.sz := by rw [R.cells_length _ hok']; simp
  apply List.ext_getElem?
  intro t
  by_cases ht : t < d.size * R.sz
  · have hp := R.pos
    have hdiv : t / R.sz < d.size := (Nat.div_lt_iff_lt_mul hp).2 ht
    have hmod : t % R.sz < R.sz := Nat.mod_lt _ hp
    have hx : (d.toList.map f)[t / R.sz]? = some (f d[t / R.sz]) := by simp [hdiv]
    have hc := R.cells_at (d.toList.map f) (t / R.sz) _ hok' hx
    have h1 : (R.cells (d.toList.map f))[t]? = (R.enc (f d[t / R.sz]))[t % R.sz]? := by
      rw [← hc, List.getElem?_take, if_pos hmod, List.getElem?_drop]
      congr 1
      rw [Nat.mul_comm]; exact (Nat.div_add_mod t R.sz).symm
    have hl := R.len _ (hok _ (Array.getElem_mem hdiv))
    rw [h1, Array.getElem?_toList (xs := flatK enc R.sz d), Array.getElem?_eq_getElem (xs := flatK enc R.sz d) (by rw [size_flatK]; exact ht), ← getElem!_pos (flatK enc R.sz d) t (by rw [size_flatK]; exact ht), get_flatK enc R.sz d t ht, getElem!_pos d _ hdiv, he, getElem!_pos _ _ (by rw [hl]; exact hmod), List.getElem?_eq_getElem (by rw [hl]; exact hmod)]
  · rw [List.getElem?_eq_none (by rw [hlen]; omega), Array.getElem?_toList (xs := flatK enc R.sz d), Array.getElem?_eq_none (by rw [size_flatK]; omega)]

theorem enters40 : ∀ args w, (callFunc 40 args).run Try.prog w = .ok (.enter 40 args) w := enters_of Try.func40 (by kernel_rfl) rfl
theorem agg55 (w : World) : (isAgg 55).run Try.prog w = .ok true w := Try.isAgg55 w
theorem size55 (w : World) : (Go.sizeOf 55).run Try.prog w = .ok 3 w := Try.sizeOf55 w

theorem sortP_any (base : Nat) (PS : List Pr) (v : Value) (w : World) (h : pairR.row 55 base PS v w) (hn : ∀ p ∈ PS, isN p.2.2 = false) (hlen : PS.length ≤ 1000) (hbase : base ≤ w.heap.size) :
    Calls Try.prog 39 #[v, .func (.func 40) #[] #[]] w fun e w' => e = .returned (.tuple #[]) ∧ pairR.row 55 base (sortPs PS) v w' ∧ Below base w w' := by
  by_cases h0 : PS = []
  · subst h0
    have hs : sortPs [] = [] := by simp [sortPs]
    rw [hs]
    obtain ⟨p, cap, rfl⟩ : ∃ p cap, v = .slice p 0 cap := by
      obtain ⟨_, _, ⟨rfl, _⟩ | ⟨g, cap, cur, rfl, _⟩⟩ := h
      · exact ⟨_, _, rfl⟩
      · exact ⟨_, _, rfl⟩
    exact (AnyF.slices_SortFunc_none Try.sortP p cap (.func (.func 40) #[] #[]) w).mono fun e w' ⟨he, hw⟩ => ⟨he, by rw [hw]; exact h, by rw [hw]; exact Below.refl _ _⟩
  · obtain ⟨g, cap, rfl, hcap, hcm, hg, hlt⟩ := h.some h0
    let L : List NumP := PS.pmap (fun p hp => ⟨p, hp⟩) (fun p hp => ⟨h.1 p hp, hn p hp⟩)
    have hLv : L.map (·.1) = PS := by simp [L, List.map_pmap]
    have hLl : L.length = PS.length := by simp [L]
    have hH : HoldsK nEnc 3 w g 0 L.toArray := row.holds id (flatK nEnc 3 L.toArray) h (by
      have := cells_flatK pairR nEnc (·.1) L.toArray (fun _ => rfl) (fun x _ => x.2.1)
      rw [List.toList_toArray, hLv] at this
      exact this)
    have hc : CmpLays Try.prog 40 #[] nEnc 3 nCmp g 0 L.toArray.size w := by
      intro m os dk _ x y
      exact pcmp_any x.1 y.1 x.2.1 y.2.1 _
    have hs := AnyQ.slices_SortFunc_total Try.sortP 3 agg55 size55 nEnc (fun _ => rfl) (fun x v hv => pairR.one x.1 x.2.1 v hv) nCmp nSWO 40 #[] g 0 cap L.toArray w enters40 hc hH hlt (by simp [hLl]; omega) nTot
    rw [show L.toArray.size = PS.length from by simp [hLl]] at hs
    refine hs.mono fun e w' ⟨he, n, os, hw⟩ => ⟨he, ?_, ?_⟩
    · rw [hw]
      have hm : sortPs PS = ((L.toArray.toList.mergeSort fun x y => !(ltOf nCmp) y x).toArray.toList.map (·.1)) := by
        have h1 := List.map_mergeSort (r := fun x y => !(ltOf nCmp) y x) (s := fun x y => !ltP y x) (f := fun x : NumP => x.1) (l := L) (fun a _ b _ => rfl)
        rw [hLv] at h1
        exact h1.symm
      refine row.sorted id (flatK nEnc 3 _) n os h ?_ ?_ ?_
      · rw [hm]
        exact cells_flatK pairR nEnc (·.1) _ (fun _ => rfl) (fun x _ => x.2.1)
      · intro p hp
        exact h.1 p ((List.mergeSort_perm _ _).mem_iff.1 hp)
      · exact List.length_mergeSort _
    · rw [hw]
      exact below_sortWorld id w g 0 n _ os base hg hbase
end Go.Proofs.Ytkapidcgonjbaaa
