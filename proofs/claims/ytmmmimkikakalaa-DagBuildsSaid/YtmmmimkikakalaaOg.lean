/- Pasts and logs, plain: what the laws DagPast and DagLogs say of them. -/
import Derived.Test.YtmmmimkikakalaaOc
namespace Go.Proofs.Ytmmmimkikakalaa
open Go.RowKit Go.Maps
set_option linter.unusedVariables false

/-- A node and its first parents' pasts, together. -/
noncomputable def allN (G : List GN) (x : List UInt8) : Nat → List (List UInt8)
  | 0 => [x]
  | k + 1 => setL (allN G x k ++ pastE G ((parsOf G x).getD k []))
theorem allN_strict (G : List GN) (x : List UInt8) : ∀ k, Strict (allN G x k)
  | 0 => by simp [allN, Strict]
  | k + 1 => setL_strict _
theorem pastE_node {G : List GN} {x : List UInt8} (h : isNode G x = true) : pastE G x = pastL G x := by unfold pastE; rw [if_pos h]
theorem codeE_node {G : List GN} {x : List UInt8} (h : isNode G x = true) : codeE G x = 0 := by unfold codeE; rw [if_pos h]
theorem logE_node {G : List GN} {x : List UInt8} (h : isNode G x = true) : logE G x = logL G x := by unfold logE; rw [if_pos h]
theorem allN_mem {G : List GN} (hG : Wf G) {x y : List UInt8} : ∀ k, k ≤ (parsOf G x).length → (y ∈ allN G x k ↔ y = x ∨ ∃ p ∈ (parsOf G x).take k, Anc G p y)
  | 0, _ => by simp [allN]
  | k + 1, hk => by
    have hp : (parsOf G x).getD k [] ∈ parsOf G x := getD_mem (by omega)
    have hn := (par_up hG hp).2.1
    unfold allN
    rw [setL_mem, List.mem_append, allN_mem hG k (by omega), take_snoc [] _ _ (by omega), pastE_node hn, pastL_mem hG hn]
    constructor
    · rintro ((h | ⟨p, h1, h2⟩) | h)
      · exact .inl h
      · exact .inr ⟨p, List.mem_append.2 (.inl h1), h2⟩
      · exact .inr ⟨_, List.mem_append.2 (.inr (List.mem_singleton.2 rfl)), h⟩
    · rintro (h | ⟨p, h1, h2⟩)
      · exact .inl (.inl h)
      · rcases List.mem_append.1 h1 with h1 | h1
        · exact .inl (.inr ⟨p, h1, h2⟩)
        · rw [List.mem_singleton.1 h1] at h2; exact .inr h2
theorem allN_past {G : List GN} (hG : Wf G) {x : List UInt8} (hx : isNode G x = true) : allN G x (parsOf G x).length = pastL G x := by
  refine strict_ext _ _ (allN_strict G x _) (pastL_strict G x) fun y => ?_
  rw [allN_mem hG _ (Nat.le_refl _), pastL_mem hG hx, List.take_length]
  constructor
  · rintro (rfl | ⟨p, hp, h⟩)
    · exact .refl _
    · exact .step hp h
  · intro h
    cases h with
    | refl => exact .inl rfl
    | step hp h' => exact .inr ⟨_, hp, h'⟩
theorem allN_32 {G : List GN} (hG : Wf G) {x : List UInt8} (hx : isNode G x = true) : ∀ k, k ≤ (parsOf G x).length → ∀ y ∈ allN G x k, y.length = 32 := fun k hk y hy => by
  rcases (allN_mem hG k hk).1 hy with rfl | ⟨p, hp, h⟩
  · exact isNode_len hG hx
  · exact isNode_len hG (h.node hG (par_up hG (List.mem_of_mem_take hp)).2.1)
theorem allN_len {G : List GN} (hG : Wf G) {x : List UInt8} (hx : isNode G x = true) (k : Nat) (hk : k ≤ (parsOf G x).length) : (allN G x k).length ≤ G.length :=
  nodes_len (strict_nodup (allN_strict G x k)) fun y hy => by
    rcases (allN_mem hG k hk).1 hy with rfl | ⟨p, hp, h⟩
    · exact hx
    · exact h.node hG (par_up hG (List.mem_of_mem_take hp)).2.1
theorem past_self {G : List GN} (hG : Wf G) {x : List UInt8} (hx : isNode G x = true) : x ∈ pastL G x := (pastL_mem hG hx).2 (.refl x)
theorem isR_past {G : List GN} {x y : List UInt8} (hx : isNode G x = true) (hy : y ∈ pastL G x) : isR G y x = true := by
  unfold isR; rw [hx, Bool.true_and]; exact decide_eq_true hy
/-- What a node and one of its past share: that one. -/
theorem bases_past {G : List GN} (hG : Wf G) {x y : List UInt8} (hx : isNode G x = true) (hy : y ∈ pastL G x) : basesE G x y = [y] ∧ code2E G x y = 0 := by
  have hny := pastL_node y hy
  have h2 : (isNode G x && isNode G y) = true := by rw [hx, hny]; rfl
  have hxy := (pastL_mem hG hx).1 hy
  refine ⟨?_, by unfold code2E; rw [if_pos h2]⟩
  unfold basesE
  rw [if_pos h2]
  have hc : ∀ z, z ∈ commonL G x y ↔ Anc G y z := fun z => by
    rw [commonL_mem, pastL_mem hG hx, pastL_mem hG hny]
    exact ⟨fun h => h.2, fun h => ⟨hxy.trans h, h⟩⟩
  unfold basesL
  refine strict_ext _ _ (setL_strict _) (by simp [Strict]) fun z => ?_
  rw [setL_mem, List.mem_filter, List.all_eq_true, List.mem_singleton, hc]
  constructor
  · rintro ⟨h1, h3⟩
    have := h3 y ((hc y).2 (.refl y))
    rcases Bool.or_eq_true _ _ ▸ this with h | h
    · exact (of_decide_eq_true h).symm
    · unfold isR at h
      rw [hny, Bool.true_and, decide_eq_true ((pastL_mem hG hny).2 h1)] at h
      cases h
  · rintro rfl
    refine ⟨.refl z, fun k hk => ?_⟩
    have hyk := (hc k).1 hk
    by_cases hkz : k = z
    · rw [decide_eq_true hkz, Bool.true_or]
    · rw [decide_eq_false hkz, Bool.false_or]
      unfold isR
      rw [hyk.node hG hny, Bool.true_and, decide_eq_false]
      · rfl
      · intro h
        exact hkz (hyk.anti hG ((pastL_mem hG (hyk.node hG hny)).1 h)).symm
/-- A step of a log. -/
theorem log_next {G : List GN} (hG : Wf G) {x : List UInt8} {n : Nat} (hn : n < (pastL G x).length) : IsBest G (pastL G x) (logN G (pastL G x) n) (nextL G (pastL G x) (logN G (pastL G x) n)) := by
  obtain ⟨z, hz, hc⟩ := cand_ex hG (some_left (O := logN G (pastL G x) n) (strict_nodup (pastL_strict G x)) (by rw [logN_len]; omega))
  have : ∀ i, i ≤ (pastL G x).length → ∃ m, BestTo G (pastL G x) (logN G (pastL G x) n) i m := by
    intro i
    induction i with
    | zero => intro _; exact ⟨none, fun j hj => by omega⟩
    | succ i ih2 =>
      intro hi
      obtain ⟨m, hm⟩ := ih2 (by omega)
      by_cases hcc : candB G (pastL G x) (logN G (pastL G x) n) ((pastL G x).getD i []) = true
      · cases m with
        | none => exact ⟨_, hm.first (by omega) hcc⟩
        | some k =>
          by_cases hs : stampOf G ((pastL G x).getD k []) < stampOf G ((pastL G x).getD i [])
          · exact ⟨_, hm.more (by omega) hcc hs⟩
          · exact ⟨_, hm.less hs⟩
      · exact ⟨_, hm.skip (by simpa using hcc)⟩
  obtain ⟨m, hm⟩ := this _ (Nat.le_refl _)
  obtain ⟨k, _, _, hk⟩ := hm.all (pastL_strict G x) ⟨z, hz, hc⟩
  rw [← hk.next]; exact hk
theorem logN_is {G : List GN} (hG : Wf G) {x : List UInt8} : ∀ n, n ≤ (pastL G x).length → LogIs G (pastL G x) n
  | 0, _ => LogIs.zero _ _
  | n + 1, hn => ((logN_is hG n (by omega)).step (log_next hG (by omega))).2
theorem logL_len (G : List GN) (x : List UInt8) : (logL G x).length = (pastL G x).length := by unfold logL; rw [logN_len]
theorem logL_nodup {G : List GN} (hG : Wf G) (x : List UInt8) : (logL G x).Nodup := (logN_is hG _ (Nat.le_refl _)).nd
theorem logL_set {G : List GN} (hG : Wf G) (x : List UInt8) : setL (logL G x) = pastL G x := by
  refine strict_ext _ _ (setL_strict _) (pastL_strict G x) fun y => ?_
  rw [setL_mem]
  refine ⟨fun h => logL_mem hG y h, fun h => Classical.byContradiction fun hy => ?_⟩
  have h1 := nodup_len (logL G x ++ [y]) (pastL G x) (nodup_snoc (logL_nodup hG x) hy) (fun z hz => by
    rcases List.mem_append.1 hz with h' | h'
    · exact logL_mem hG z h'
    · rw [List.mem_singleton.1 h']; exact h)
  rw [List.length_append, logL_len] at h1
  simp at h1
  omega
theorem logN_pre {G : List GN} {P : List (List UInt8)} : ∀ n k, k ≤ n → (logN G P n).take k = logN G P k
  | 0, k, h => by obtain rfl : k = 0 := by omega
                  rfl
  | n + 1, k, h => by
    by_cases hk : k = n + 1
    · subst hk; rw [List.take_of_length_le (by rw [logN_len]; omega)]
    · rw [logN, List.take_append_of_le_length (by rw [logN_len]; omega), logN_pre n k (by omega)]
theorem logL_at {G : List GN} {x : List UInt8} {m : Nat} (hm : m < (logL G x).length) : (logL G x).getD m [] = nextL G (pastL G x) (logN G (pastL G x) m) ∧ (logL G x).take m = logN G (pastL G x) m := by
  have hm' : m < (pastL G x).length := by rw [logL_len] at hm; exact hm
  have h2 : (logL G x).take m = logN G (pastL G x) m := logN_pre _ _ (by omega)
  have h1 : (logL G x).take (m + 1) = logN G (pastL G x) (m + 1) := logN_pre _ _ (by omega)
  refine ⟨?_, h2⟩
  have h3 := take_snoc [] (logL G x) m hm
  rw [h1, h2, logN] at h3
  exact (List.singleton_inj.1 (List.append_cancel_left h3)).symm
/-- The node itself is told first. -/
theorem logL_first {G : List GN} (hG : Wf G) {x : List UInt8} (hx : isNode G x = true) : 0 < (logL G x).length ∧ (logL G x).getD 0 [] = x := by
  have hpos : 0 < (pastL G x).length := List.length_pos_of_mem (past_self hG hx)
  have hp2 : 0 < (logL G x).length := by rw [logL_len]; exact hpos
  refine ⟨hp2, ?_⟩
  rw [(logL_at hp2).1]
  have hb := log_next hG (x := x) hpos
  have hbm := (pastL_mem hG hx).1 hb.mem
  rcases hbm.last with h | ⟨m, h1, h2⟩
  · exact h
  · have h3 := (candB_iff.1 hb.cand).2 m ((pastL_mem hG hx).2 h1)
    rcases h3 with h3 | h3
    · simp [logN] at h3
    · exact absurd h2 h3
/-- None is told ahead of a child. -/
theorem logL_order {G : List GN} (hG : Wf G) {x : List UInt8} {k m : Nat} (hk : k < (logL G x).length) (hm : m < k) : ¬ (logL G x).getD m [] ∈ parsOf G ((logL G x).getD k []) := by
  have hm' : m < (logL G x).length := by omega
  rw [(logL_at hm').1]
  have hb := log_next hG (x := x) (n := m) (by rw [logL_len] at hm'; exact hm')
  have h3 := (candB_iff.1 hb.cand).2 ((logL G x).getD k []) (logL_mem hG _ (getD_mem hk))
  rcases h3 with h3 | h3
  · rw [← (logL_at hm').2] at h3
    obtain ⟨j, hj, he⟩ := List.getElem_of_mem h3
    rw [List.length_take] at hj
    rw [List.getElem_take] at he
    rw [getD_at hk] at he
    have := nodup_idx (logL_nodup hG x) (show j < (logL G x).length by omega) hk he
    omega
  · exact h3
end Go.Proofs.Ytmmmimkikakalaa
