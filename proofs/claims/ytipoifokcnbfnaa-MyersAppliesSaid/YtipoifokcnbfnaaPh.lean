/- No edits that give a text cost less than the least, in plain Lean. -/
import Derived.Test.YtipoifokcnbfnaaPg
namespace Go.Proofs.Ytipoifokcnbfnaa
set_option linter.unusedVariables false

theorem cst_drops : ∀ (d : Nat) (x y : List Int), cst x y ≤ d + cst (x.drop d) y
  | 0, x, y => by simp
  | d + 1, [], y => by simp
  | d + 1, u :: x, y => by
    have h1 := (cst_A u x y).1
    have h2 := cst_drops d x y
    rw [List.drop_succ_cons]; omega
theorem cst_adds : ∀ (r x y : List Int), cst x (r ++ y) ≤ r.length + cst x y
  | [], x, y => by simp
  | v :: r, x, y => by
    have h1 := (cst_B v x (r ++ y)).1
    have h2 := cst_adds r x y
    rw [List.cons_append, List.length_cons]; omega
theorem good_app {a b : List Int} (ha : Good a) (hb : Good b) : Good (a ++ b) := by
  intro r hr; rcases List.mem_append.1 hr with h | h
  · exact ha r h
  · exact hb r h
theorem runesL_encs {ys : List Int} (h : Good ys) : chkE (encs ys) = 0 ∧ runesL (encs ys) = ys := by
  unfold chkE runesL
  rw [isText_encs h, (parsed_encs h).parse_eq]
  exact ⟨rfl, rfl⟩
theorem chk_encs {l : List UInt8} (h : chkE l = 0) : ∃ rs, Good rs ∧ l = encs rs ∧ cntN l = rs.length := by
  have ht := isText_of h
  refine ⟨(parse l).1, (parse_parsed l).good, isText_iff.1 ht, ?_⟩
  unfold cntN; rw [ht]; rfl
theorem least_law {x : List Int} (hx : Good x) : ∀ (E : List Ed) (i : Nat) (out : List UInt8) (i' : Nat) (out' : List UInt8), E.foldl (apStep x) (some (i, out)) = some (i', out') → i ≤ x.length → (∀ e ∈ E, chkE e.2.2 = 0) →
    ∃ ys, Good ys ∧ out' = out ++ encs ys ∧ (i' = x.length → (cst (x.drop i) ys : Int) ≤ costE E) ∧ (∀ e ∈ E, 0 ≤ e.2.1 ∧ e.2.1 ≤ x.length)
  | [], i, out, i', out', h, hi, hE => by
    simp only [List.foldl_nil, Option.some.injEq, Prod.mk.injEq] at h
    obtain ⟨rfl, rfl⟩ := h
    refine ⟨[], fun _ h => (by cases h), by simp [encs], fun he => ?_, fun _ h => (by cases h)⟩
    rw [he, List.drop_length, cst_nil]; simp [costE]
  | e :: E, i, out, i', out', h, hi, hE => by
    rw [List.foldl_cons] at h
    by_cases hb : e.1 < 0 ∨ e.2.1 < 0 ∨ e.1 > (x.length : Int) - i ∨ e.2.1 > (x.length : Int) - i - e.1
    · have h0 : apStep x (some (i, out)) e = none := by
        simp only [apStep]; rw [if_pos hb]
      rw [h0, apStep_none] at h; cases h
    obtain ⟨k, hk⟩ := Int.eq_ofNat_of_zero_le (show 0 ≤ e.1 by omega)
    obtain ⟨d, hd⟩ := Int.eq_ofNat_of_zero_le (show 0 ≤ e.2.1 by omega)
    have hs : apStep x (some (i, out)) e = some (i + k + d, out ++ (encs ((x.drop i).take k) ++ e.2.2)) := by
      simp only [apStep]; rw [if_neg hb, hk, hd]; simp
    rw [hs] at h
    obtain ⟨ys, hg, ho, hc, hl⟩ := least_law hx E _ _ i' out' h (by omega) (fun z hz => hE z (List.mem_cons_of_mem _ hz))
    obtain ⟨rs, hgr, hre, hcn⟩ := chk_encs (hE e (List.mem_cons_self ..))
    refine ⟨(x.drop i).take k ++ (rs ++ ys), good_app (fun r hr => hx r (List.mem_of_mem_drop (List.mem_of_mem_take hr))) (good_app hgr hg), ?_, fun he => ?_, ?_⟩
    · rw [ho, hre, encs_app, encs_app]; simp
    · have h1 := hc he
      have h2 : cst (x.drop i) ((x.drop i).take k ++ (rs ++ ys)) = cst ((x.drop i).drop k) (rs ++ ys) := by
        have := cst_front ((x.drop i).take k) ((x.drop i).drop k) (rs ++ ys)
        rwa [List.take_append_drop] at this
      have h3 := cst_adds rs ((x.drop i).drop k) ys
      have h4 := cst_drops d ((x.drop i).drop k) ys
      rw [List.drop_drop, List.drop_drop] at h4
      rw [List.drop_drop] at h2 h3
      rw [costE_cons, val, hcn, h2]
      omega
    · intro z hz
      rcases List.mem_cons.1 hz with rfl | hz
      · omega
      · exact hl z hz
theorem apply_least {s : List UInt8} {E : List Ed} (h : (applyL s E).2 = 0) : chkE s = 0 ∧ chkE (applyL s E).1 = 0 ∧ ((cst (runesL s) (runesL (applyL s E).1) : Nat) : Int) ≤ costE E ∧ ∀ e ∈ E, 0 ≤ e.2.1 ∧ e.2.1 ≤ (runesL s).length := by
  unfold applyL at *
  by_cases h0 : chkE s ≠ 0 ∨ E.any (fun e => chkE e.2.2 != 0)
  · rw [if_pos h0] at h; cases h
  rw [if_neg h0] at h ⊢
  have h1 : chkE s = 0 := by
    by_cases hh : chkE s = 0
    · exact hh
    · exact absurd (.inl hh) h0
  have h2 : ∀ e ∈ E, chkE e.2.2 = 0 := by
    intro e he
    by_cases hh : chkE e.2.2 = 0
    · exact hh
    · exact absurd (.inr (List.any_eq_true.2 ⟨e, he, by simp [hh]⟩)) h0
  cases hf : E.foldl (apStep (runesL s)) (some (0, [])) with
  | none => rw [hf] at h; cases h
  | some p =>
    obtain ⟨i, out⟩ := p
    rw [hf] at h
    simp only at h ⊢
    by_cases hi : i = (runesL s).length
    · rw [if_pos hi]
      obtain ⟨ys, hg, ho, hc, hl⟩ := least_law (runesL_good s) E 0 [] i out hf (by omega) h2
      rw [List.nil_append] at ho
      have := hc hi
      rw [List.drop_zero] at this
      simp only [ho]
      obtain ⟨h5, h6⟩ := runesL_encs hg
      rw [h6]
      exact ⟨h1, h5, this, hl⟩
    · rw [if_neg hi] at h; cases h
end Go.Proofs.Ytipoifokcnbfnaa
