/- Plain: a live element is found at its place. -/
import Derived.Test.YtcgioboiebanpaaPh
namespace Go.Proofs.Ytcgioboiebanpaa
open Go.RowKit
set_option linter.unusedVariables false

theorem key_rng {rs : List MR} (h : ∀ r ∈ rs, idxOk r) {e : E1} (he : e ∈ flat rs) : -9223372036854775808 ≤ e.1.2.2 ∧ e.1.2.2 ≤ 9223372036854775807 := by
  obtain ⟨r, hr, he'⟩ := List.mem_flatMap.1 he
  obtain ⟨j, hj, h1, _⟩ := mem_elemsAt he'
  obtain ⟨q0, q1, q2⟩ := h r hr
  rw [h1]
  simp only
  omega
theorem live_mem {rs : List MR} {e : E1} (h : e ∈ liveF rs) : e ∈ flat rs := (List.mem_filter.1 h).1
theorem findM_cons (r : MR) (rs : List MR) (k : KV) : findM (r :: rs) k = if heldM r k = true then some 0 else (findM rs k).map (· + 1) := by
  unfold findM
  rw [List.findIdx?_cons]
theorem find_live : ∀ (rs : List MR) (m : Nat) (e : E1), (∀ r ∈ rs, idxOk r) → ND rs → (liveF rs)[m]? = some e →
    ∃ i r, findM rs e.1 = some i ∧ rs[i]? = some r ∧ r.2.2 = false ∧ (liveM (rs.take i) : Int) + offM r e.1 = m
  | [], m, e, h, hn, hm => by simp [liveF, flat] at hm
  | r :: rs, m, e, h, hn, hm => by
    have hr := h r (by simp)
    have hrs : ∀ x ∈ rs, idxOk x := fun x hx => h x (by simp [hx])
    have hmem := live_mem (List.mem_of_getElem? hm)
    have hk := key_rng h hmem
    have hn' := hn
    unfold ND at hn'
    rw [flat_cons, List.map_append, List.nodup_append] at hn'
    have later : ∀ m', (liveF rs)[m']? = some e → ((if r.2.2 = true then 0 else r.2.1.length) + m' = m) → ∃ i r', findM (r :: rs) e.1 = some i ∧ (r :: rs)[i]? = some r' ∧ r'.2.2 = false ∧ (liveM ((r :: rs).take i) : Int) + offM r' e.1 = m := by
      intro m' hm' he
      obtain ⟨i, r', g1, g2, g3, g4⟩ := find_live rs m' e hrs hn'.2.1 hm'
      refine ⟨i + 1, r', ?_, by simpa using g2, g3, ?_⟩
      · rw [findM_cons, if_neg, g1]
        · rfl
        · intro hh
          obtain ⟨x, hx, hxk⟩ := (held_mem hr hk).1 hh
          exact hn'.2.2 x.1 (List.mem_map.2 ⟨x, hx, rfl⟩) e.1 (List.mem_map.2 ⟨e, live_mem (List.mem_of_getElem? hm'), rfl⟩) hxk
      · rw [List.take_succ_cons, liveM_cons]
        omega
    rw [liveF_cons] at hm
    by_cases hd : r.2.2 = true
    · rw [if_pos hd, List.nil_append] at hm
      exact later m hm (by rw [if_pos hd]; omega)
    · rw [if_neg hd] at hm
      by_cases hlt : m < (elemsR r).length
      · rw [List.getElem?_append_left hlt] at hm
        have h1 := (elemsAt_get _ _ _ _ _ _ _ hm).1
        have hh : heldM r e.1 = true := (held_mem hr hk).2 ⟨e, List.mem_of_getElem? hm, rfl⟩
        refine ⟨0, r, by rw [findM_cons, if_pos hh], rfl, by simpa using hd, ?_⟩
        rw [offM_eq hr hk hh, h1]
        simp [liveM]
        omega
      · rw [List.getElem?_append_right (by omega)] at hm
        refine later _ hm ?_
        rw [if_neg hd]
        rw [elemsR_len] at hlt ⊢
        omega
theorem FindM_live {rs : List MR} {m : Nat} {e : E1} (h : ∀ r ∈ rs, idxOk r) (hn : ND rs) (hm : (liveF rs)[m]? = some e) : FindM rs e.1 = ((m : Int), true, 0) := by
  obtain ⟨i, r, g1, g2, g3, g4⟩ := find_live rs m e h hn hm
  unfold FindM
  rw [g1]
  simp only
  rw [List.getD_eq_getElem?_getD, g2, Option.getD_some, if_neg (by rw [g3]; simp), g4]
end Go.Proofs.Ytcgioboiebanpaa
