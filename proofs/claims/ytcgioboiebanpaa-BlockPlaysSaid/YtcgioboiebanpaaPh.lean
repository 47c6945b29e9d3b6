/- Plain: At and Find, on elements. -/
import Derived.Test.YtcgioboiebanpaaPg
namespace Go.Proofs.Ytcgioboiebanpaa
open Go.RowKit
set_option linter.unusedVariables false

theorem livesM_at : ∀ (rs : List MR) (n m : Nat), (∀ r ∈ rs, idxOk r) → m < liveM rs → n + liveM rs ≤ 100000 →
    ∃ p e, (livesM n rs).find? (fun p => atH p ((n + m : Nat) : Int)) = some p ∧ (liveF rs)[m]? = some e ∧ (p.2.1.1, p.2.1.2.1, wrap64 (p.2.1.2.2 + wrap64 (((n + m : Nat) : Int) - p.1))) = e.1
  | [], n, m, h, hm, hb => by simp [liveM] at hm
  | r :: rs, n, m, h, hm, hb => by
    have hr := h r (by simp)
    have hrs : ∀ x ∈ rs, idxOk x := fun x hx => h x (by simp [hx])
    rw [liveM_cons] at hm hb
    rw [livesM, liveF_cons]
    by_cases hd : r.2.2 = true
    · rw [if_pos hd] at hm hb ⊢
      rw [if_pos hd, List.nil_append]
      exact livesM_at rs n m hrs (by omega) (by omega)
    · rw [if_neg hd] at hm hb ⊢
      rw [if_neg hd, List.find?_cons]
      have hw : wrap64 (((n + m : Nat) : Int) - (n : Nat)) = m := by rw [wrap64_id (by omega) (by omega)]; omega
      have ha : atH (n, r) ((n + m : Nat) : Int) = decide ((m : Int) < r.2.1.length) := by
        unfold atH
        simp only
        rw [hw, decide_eq_true (by omega : (n : Int) ≤ ((n + m : Nat) : Int)), Bool.true_and]
      rw [ha]
      by_cases hlt : m < r.2.1.length
      · rw [decide_eq_true (by omega)]
        have hl : m < (elemsR r).length := by rw [elemsR_len]; exact hlt
        refine ⟨(n, r), (elemsR r)[m], rfl, by rw [List.getElem?_append_left hl, List.getElem?_eq_getElem hl], ?_⟩
        have h1 := (elemsAt_get _ _ _ _ _ _ _ (List.getElem?_eq_getElem hl)).1
        rw [show (elemsR r)[m].1 = (r.1.1, r.1.2.1, r.1.2.2 + (m : Nat)) from h1]
        simp only [hw]
        obtain ⟨q0, q1, q2⟩ := hr
        rw [wrap64_id (by omega) (by omega)]
      · rw [decide_eq_false (by omega)]
        have := livesM_at rs (n + r.2.1.length) (m - r.2.1.length) hrs (by omega) (by omega)
        rw [show n + r.2.1.length + (m - r.2.1.length) = n + m by omega] at this
        obtain ⟨p, e, h1, h2, h3⟩ := this
        refine ⟨p, e, h1, ?_, h3⟩
        rw [List.getElem?_append_right (by rw [elemsR_len]; omega), elemsR_len]
        exact h2
theorem atM_live {rs : List MR} (h : ∀ r ∈ rs, idxOk r) {m : Nat} (hm : m < liveM rs) (hb : liveM rs ≤ 100000) : ∃ e, (liveF rs)[m]? = some e ∧ atM rs m = (e.1, 0) := by
  obtain ⟨p, e, h1, h2, h3⟩ := livesM_at rs 0 m h hm (by omega)
  rw [Nat.zero_add] at h1 h3
  refine ⟨e, h2, ?_⟩
  unfold atM
  rw [h1]
  simp only
  rw [h3]
theorem livesM_end : ∀ (rs : List MR) (n : Nat), (∀ r ∈ rs, idxOk r) → n + liveM rs ≤ 100000 → (livesM n rs).find? (fun p => atH p ((n + liveM rs : Nat) : Int)) = none
  | [], n, h, hb => rfl
  | r :: rs, n, h, hb => by
    have hrs : ∀ x ∈ rs, idxOk x := fun x hx => h x (by simp [hx])
    rw [liveM_cons] at hb ⊢
    rw [livesM]
    by_cases hd : r.2.2 = true
    · rw [if_pos hd] at hb ⊢
      rw [if_pos hd, Nat.zero_add]
      exact livesM_end rs n hrs (by omega)
    · rw [if_neg hd] at hb ⊢
      rw [if_neg hd, List.find?_cons]
      have hw : wrap64 (((n + (r.2.1.length + liveM rs) : Nat) : Int) - (n : Nat)) = ((r.2.1.length + liveM rs : Nat) : Int) := by rw [wrap64_id (by omega) (by omega)]; omega
      have ha : atH (n, r) ((n + (r.2.1.length + liveM rs) : Nat) : Int) = false := by
        unfold atH
        simp only
        rw [hw, decide_eq_false (by omega : ¬ ((r.2.1.length + liveM rs : Nat) : Int) < r.2.1.length), Bool.and_false]
      rw [ha]
      have := livesM_end rs (n + r.2.1.length) hrs (by omega)
      rw [show n + r.2.1.length + liveM rs = n + (r.2.1.length + liveM rs) by omega] at this
      exact this
theorem atM_end {rs : List MR} (h : ∀ r ∈ rs, idxOk r) (hb : liveM rs ≤ 100000) : atM rs (liveM rs) = ((0, List.replicate 32 0, 0), 4) := by
  have := livesM_end rs 0 h (by omega)
  rw [Nat.zero_add] at this
  unfold atM
  rw [this]
end Go.Proofs.Ytcgioboiebanpaa
