/- Plain: text and pieces come of the elements alone. -/
import Derived.Test.YtcgioboiebanpaaPe
namespace Go.Proofs.Ytcgioboiebanpaa
open Go.RowKit
set_option linter.unusedVariables false

def one (e : E1) : MR := (e.1, [e.2.1], e.2.2)
def mayF (rs : List MR) : Prop := ∀ e ∈ flat rs, may e.2.1 = true
theorem runesL_may (l : List UInt8) : ∀ r ∈ runesL l, may r = true := by
  unfold runesL
  split
  · exact (parse_parsed l).good
  · simp
theorem textL_cons {u : Int} {us : List Int} (hu : may u = true) (h : ∀ x ∈ us, may x = true) : textL (u :: us) = textL [u] ++ textL us := by
  have h1 : allMay (u :: us) = true := by
    unfold allMay
    rw [List.all_eq_true]
    intro x hx
    rcases List.mem_cons.1 hx with rfl | hx
    · exact hu
    · exact h x hx
  have h2 : allMay us = true := by unfold allMay; rw [List.all_eq_true]; exact h
  have h3 : allMay [u] = true := by unfold allMay; simp [hu]
  unfold textL
  rw [if_pos h1, if_pos h2, if_pos h3]
  simp [encs]
/-- A step with a run is that with its elements. -/
theorem dead_run (t : Int) (c : List UInt8) : ∀ (us : List Int) (i : Int) (st : List PV × Bool), 0 < us.length → ((elemsAt t c true i us).map one).foldl pstep st = (st.1, true)
  | [u], i, st, _ => rfl
  | u :: v :: us, i, st, _ => by
    rw [elemsAt, List.map_cons, List.foldl_cons, dead_run t c (v :: us) (i + 1) _ (by simp)]
    rfl
theorem follow_next {O : List PV} {t : Int} {c : List UInt8} {i : Int} {u : Int} (hi : 0 ≤ i ∧ i < 2147483648) (h : followsB O (t, c, i) = true) : followsB (addLast O (one ((t, c, i), u, false))) (t, c, i + 1) = true := by
  unfold followsB at h
  cases hO : O.getLast? with
  | none => rw [hO] at h; cases h
  | some p =>
    rw [hO] at h
    unfold addLast
    rw [hO]
    unfold followsB
    rw [List.getLast?_append]
    simp only [List.getLast?_singleton, Option.some_or]
    simp only [keyEq, Bool.and_eq_true, beq_iff_eq, bump, one] at h ⊢
    obtain ⟨h1, h2, h3⟩ := h
    refine ⟨h1, h2, ?_⟩
    simp only [List.length_singleton]
    unfold wrap64 at h3 ⊢
    omega
theorem add_add {O : List PV} {t : Int} {c : List UInt8} {i : Int} {u : Int} {us : List Int} (hu : may u = true) (h : ∀ x ∈ us, may x = true) (hO : O ≠ []) :
    addLast (addLast O (one ((t, c, i), u, false))) ((t, c, i + 1), us, false) = addLast O ((t, c, i), u :: us, false) := by
  unfold addLast
  rw [List.getLast?_eq_some_getLast hO]
  simp only [List.getLast?_append, List.getLast?_singleton, Option.some_or, List.dropLast_concat]
  congr 1
  simp only [bump, one, List.length_cons, List.length_nil, textL_cons hu h, List.append_assoc, List.cons.injEq, and_true, Prod.mk.injEq, true_and]
  omega
theorem live_next (t : Int) (c : List UInt8) : ∀ (us : List Int) (i : Int) (O : List PV), 0 ≤ i → i + us.length ≤ 2147483648 → (∀ x ∈ us, may x = true) → 0 < us.length → followsB O (t, c, i) = true →
    ((elemsAt t c false i us).map one).foldl pstep (O, false) = (addLast O ((t, c, i), us, false), false)
  | [u], i, O, h0, h1, hm, _, hf => by
    have : pstep (O, false) (one ((t, c, i), u, false)) = (addLast O ((t, c, i), [u], false), false) := by
      unfold pstep
      rw [if_neg (by simp [one]), if_pos (by simpa [one] using hf)]
      rfl
    simpa [elemsAt] using this
  | u :: v :: us, i, O, h0, h1, hm, _, hf => by
    have hO : O ≠ [] := by rintro rfl; simp [followsB] at hf
    have h2 : pstep (O, false) (one ((t, c, i), u, false)) = (addLast O (one ((t, c, i), u, false)), false) := by
      unfold pstep
      rw [if_neg (by simp [one]), if_pos (by simpa [one] using hf)]
    simp only [List.length_cons] at h1
    rw [elemsAt, List.map_cons, List.foldl_cons, h2, live_next t c (v :: us) (i + 1) _ (by omega) (by simp only [List.length_cons]; omega) (fun x hx => hm x (by simp only [List.mem_cons] at hx ⊢; exact .inr hx)) (by simp) (follow_next ⟨h0, by omega⟩ hf)]
    rw [add_add (hm u (by simp)) (fun x hx => hm x (by simp only [List.mem_cons] at hx ⊢; exact .inr hx)) hO]
theorem push_add {O : List PV} {t : Int} {c : List UInt8} {i : Int} {u : Int} {us : List Int} (hu : may u = true) (h : ∀ x ∈ us, may x = true) :
    addLast (O ++ [((t, c, i), (1 : Int), textL [u])]) ((t, c, i + 1), us, false) = O ++ [((t, c, i), ((u :: us).length : Int), textL (u :: us))] := by
  unfold addLast
  simp only [List.getLast?_append, List.getLast?_singleton, Option.some_or, List.dropLast_concat]
  congr 1
  simp only [bump, List.length_cons, textL_cons hu h, List.cons.injEq, and_true, Prod.mk.injEq, true_and]
  omega
theorem push_follow {O : List PV} {t : Int} {c : List UInt8} {i : Int} {x : List UInt8} (hi : 0 ≤ i ∧ i < 2147483648) : followsB (O ++ [((t, c, i), (1 : Int), x)]) (t, c, i + 1) = true := by
  unfold followsB
  rw [List.getLast?_append]
  simp only [List.getLast?_singleton, Option.some_or, keyEq, Bool.and_eq_true, beq_iff_eq]
  refine ⟨trivial, trivial, ?_⟩
  exact wrap64_id (by omega) (by omega)
theorem step_run (r : MR) (h : idxOk r) (hm : ∀ x ∈ r.2.1, may x = true) (st : List PV × Bool) : ((elemsR r).map one).foldl pstep st = pstep st r := by
  obtain ⟨h0, h1, h2⟩ := h
  obtain ⟨⟨t, c, i⟩, us, d⟩ := r
  obtain ⟨O, gap⟩ := st
  have h0 : 0 ≤ i := h0
  have h1 : i + us.length ≤ 2147483648 := h1
  cases d with
  | true => rw [show elemsR ((t, c, i), us, true) = elemsAt t c true i us from rfl, dead_run t c us i _ h2]; rfl
  | false =>
    by_cases hf : (!gap && followsB O (t, c, i)) = true
    · have hg : gap = false := by cases gap; rfl; simp at hf
      subst hg
      have hf' : followsB O (t, c, i) = true := by simpa using hf
      rw [show elemsR ((t, c, i), us, false) = elemsAt t c false i us from rfl, live_next t c us i O h0 h1 hm h2 hf']
      unfold pstep
      rw [if_neg (by simp), if_pos (by simpa using hf')]
    · have hp : pstep (O, gap) ((t, c, i), us, false) = (O ++ [((t, c, i), (us.length : Int), textL us)], false) := by
        unfold pstep
        rw [if_neg (by simp), if_neg hf]
      rw [hp]
      cases us with
      | nil => simp at h2
      | cons u us =>
        have hu : pstep (O, gap) (one ((t, c, i), u, false)) = (O ++ [((t, c, i), (1 : Int), textL [u])], false) := by
          unfold pstep
          rw [if_neg (by simp [one]), if_neg (by simpa [one] using hf)]
          rfl
        rw [show elemsR ((t, c, i), u :: us, false) = ((t, c, i), u, false) :: elemsAt t c false (i + 1) us from rfl, List.map_cons, List.foldl_cons, hu]
        cases us with
        | nil => rfl
        | cons v us =>
          simp only [List.length_cons] at h1
          rw [live_next t c (v :: us) (i + 1) _ (by omega) (by simp only [List.length_cons]; omega) (fun x hx => hm x (by simp only [List.mem_cons] at hx ⊢; exact .inr hx)) (by simp) (push_follow ⟨h0, by omega⟩)]
          rw [push_add (hm u (by simp)) (fun x hx => hm x (by simp only [List.mem_cons] at hx ⊢; exact .inr hx))]
theorem elemsAt_mem {t : Int} {c : List UInt8} {d : Bool} {x : Int} : ∀ {us : List Int} {i : Int}, x ∈ us → ∃ e ∈ elemsAt t c d i us, e.2.1 = x
  | [], i, h => by simp at h
  | u :: us, i, h => by
    rcases List.mem_cons.1 h with rfl | h
    · exact ⟨((t, c, i), x, d), by simp [elemsAt], rfl⟩
    · obtain ⟨e, he, hx⟩ := elemsAt_mem (t := t) (c := c) (d := d) (i := i + 1) h
      exact ⟨e, by rw [elemsAt]; exact List.mem_cons_of_mem _ he, hx⟩
theorem mayF_run {rs : List MR} (h : mayF rs) : ∀ r ∈ rs, ∀ x ∈ r.2.1, may x = true := by
  intro r hr x hx
  obtain ⟨e, he, hex⟩ := elemsAt_mem (t := r.1.1) (c := r.1.2.1) (d := r.2.2) (i := r.1.2.2) hx
  rw [← hex]
  exact h e (List.mem_flatMap.2 ⟨r, hr, he⟩)
theorem fold_flat : ∀ (rs : List MR) (st : List PV × Bool), (∀ r ∈ rs, idxOk r) → (∀ r ∈ rs, ∀ x ∈ r.2.1, may x = true) → ((flat rs).map one).foldl pstep st = rs.foldl pstep st
  | [], st, h, hm => rfl
  | r :: rs, st, h, hm => by
    rw [flat_cons, List.map_append, List.foldl_append, step_run r (h r (by simp)) (hm r (by simp)), List.foldl_cons, fold_flat rs _ (fun x hx => h x (by simp [hx])) (fun x hx => hm x (by simp [hx]))]
theorem pieces_flat {rs : List MR} (h : ∀ r ∈ rs, idxOk r) (hm : mayF rs) : piecesM rs = piecesM ((flat rs).map one) := by
  unfold piecesM pgo
  rw [fold_flat rs _ h (mayF_run hm)]
theorem text_run (t : Int) (c : List UInt8) (d : Bool) : ∀ (us : List Int) (i : Int), (∀ x ∈ us, may x = true) → docText ((elemsAt t c d i us).map one) = if d = true then [] else textL us
  | [], i, h => by cases d <;> simp [elemsAt, docText, textL, allMay, encs]
  | u :: us, i, h => by
    have ih := text_run t c d us (i + 1) (fun x hx => h x (List.mem_cons_of_mem _ hx))
    have e : docText ((elemsAt t c d i (u :: us)).map one) = (if d = true then [] else textL [u]) ++ docText ((elemsAt t c d (i + 1) us).map one) := by simp [elemsAt, docText, one]
    rw [e, ih]
    cases d with
    | true => rfl
    | false =>
      simp only [Bool.false_eq_true, if_false]
      exact (textL_cons (u := u) (us := us) (h u (by simp)) (fun x hx => h x (List.mem_cons_of_mem _ hx))).symm
theorem docText_append (a b : List MR) : docText (a ++ b) = docText a ++ docText b := by simp [docText]
theorem text_flat : ∀ {rs : List MR}, (∀ r ∈ rs, ∀ x ∈ r.2.1, may x = true) → docText rs = docText ((flat rs).map one)
  | [], h => rfl
  | r :: rs, h => by
    rw [flat_cons, List.map_append, docText_append, ← text_flat (fun x hx => h x (by simp [hx]))]
    rw [show elemsR r = elemsAt r.1.1 r.1.2.1 r.2.2 r.1.2.2 r.2.1 from rfl, text_run _ _ _ _ _ (h r (by simp))]
    simp [docText]
/-- What documents with the same elements show. -/
theorem same_flat {rs qs : List MR} (h : ∀ r ∈ rs, idxOk r) (g : ∀ r ∈ qs, idxOk r) (hm : mayF rs) (he : flat rs = flat qs) : piecesM rs = piecesM qs ∧ docText rs = docText qs ∧ tot rs = tot qs := by
  have gm : mayF qs := by unfold mayF; rw [← he]; exact hm
  exact ⟨by rw [pieces_flat h hm, pieces_flat g gm, he], by rw [text_flat (mayF_run hm), text_flat (mayF_run gm), he], by rw [← flat_len, ← flat_len, he]⟩
theorem ins_may {rs : List MR} (h : ∀ r ∈ rs, idxOk r) {k a : KV} (ha : rng a.2.2) {first : Bool} {s : List UInt8} (hm : mayF rs) : mayF (insL rs k a first s) := by
  by_cases h0 : insE rs k a first s = 0
  · intro e he
    rw [flat_ins h ha h0] at he
    rcases (mem_insF (ins_facts h ha h0).at_).1 he with he | he
    · obtain ⟨j, hj, _, h2, _⟩ := mem_elemsAt he
      exact runesL_may s _ (List.mem_of_getElem? h2)
    · exact hm e he
  · unfold insL
    rw [if_neg h0]
    exact hm
theorem del_may {rs : List MR} (h : ∀ r ∈ rs, idxOk r) {k : KV} (hk : rng k.2.2) {n : Int} (hm : mayF rs) : mayF (delR rs k n) := by
  by_cases h0 : delE rs k n = 0
  · intro e he
    rw [(del_facts h hk.2 h0).2] at he
    obtain ⟨x, hx, rfl⟩ := List.mem_map.1 he
    have h1 := hm x hx
    unfold killK
    split
    · exact h1
    · exact h1
  · unfold delR delL
    rw [if_neg h0]
    exact hm
theorem act_may {rs : List MR} (h : ∀ r ∈ rs, idxOk r) {x : AV} (hx : actRng x) (hm : mayF rs) : mayF (actM rs x) := by
  unfold actM
  split
  · exact ins_may h hx.ai hm
  · split
    · exact del_may h hx.ki hm
    · exact hm
theorem acts_may : ∀ (l : List AV) (rs : List MR), (∀ r ∈ rs, idxOk r) → (∀ x ∈ l, actRng x) → mayF rs → mayF (actsM rs l)
  | [], rs, h, hl, hm => hm
  | x :: l, rs, h, hl, hm => acts_may l (actM rs x) (actM_facts h x).1 (fun y hy => hl y (by simp [hy])) (act_may h (hl x (by simp)) hm)
theorem do_may {rs : List MR} (h : ∀ r ∈ rs, idxOk r) {x : AV} (hx : actRng x) (hm : mayF rs) : mayF (doR rs x) := by
  unfold doR
  split
  · exact del_may h hx.ki hm
  · exact ins_may h hx.ai hm
/-- Two acts in either order. -/
theorem agree {rs : List MR} (h : ∀ r ∈ rs, idxOk r) (hm : mayF rs) {x y : AV} (hx : actRng x) (hy : actRng y) (e1 : doE rs x = 0) (e2 : doE (doR rs x) y = 0) (e3 : doE rs y = 0) (e4 : doE (doR rs y) x = 0) :
    piecesM (doR (doR rs x) y) = piecesM (doR (doR rs y) x) ∧ docText (doR (doR rs x) y) = docText (doR (doR rs y) x) ∧ tot (doR (doR rs x) y) = tot (doR (doR rs y) x) := by
  have g1 := (doR_facts h x).1
  have g2 := (doR_facts h y).1
  refine same_flat (doR_facts g1 y).1 (doR_facts g2 x).1 (do_may g1 hy (do_may h hx hm)) ?_
  unfold doE doR at *
  by_cases c1 : kd x = 2
  · by_cases c2 : kd y = 2
    · simp only [if_pos c1, if_pos c2] at e1 e2 e3 e4 ⊢
      exact del_del h hx.ki hy.ki e1 e2 e3 e4
    · simp only [if_pos c1, if_neg c2] at e1 e2 e3 e4 ⊢
      exact (ins_del h hy.ai hx.ki e3 e4 e1 e2).symm
  · by_cases c2 : kd y = 2
    · simp only [if_neg c1, if_pos c2] at e1 e2 e3 e4 ⊢
      exact ins_del h hx.ai hy.ki e1 e2 e3 e4
    · simp only [if_neg c1, if_neg c2] at e1 e2 e3 e4 ⊢
      exact ins_ins h hx.ai hy.ai e1 e2 e3 e4
end Go.Proofs.Ytcgioboiebanpaa
