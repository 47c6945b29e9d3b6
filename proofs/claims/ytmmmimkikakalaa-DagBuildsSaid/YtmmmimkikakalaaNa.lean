/- Graphs, plain: parents stand ahead; the past of a node. -/
import Derived.Test.YtmmmimkikakalaaMo
namespace Go.Proofs.Ytmmmimkikakalaa
open Go.RowKit Go.Maps
set_option linter.unusedVariables false

/-- A graph whose nodes stand behind their parents. -/
structure Wf (G : List GN) : Prop where
  len : ∀ g ∈ G, g.1.length = 32
  nodup : (G.map (·.1)).Nodup
  set : ∀ g ∈ G, isSetL g.2.1 = true
  two : ∀ g ∈ G, g.2.1.length ≤ 2
  up : ∀ A g B, G = A ++ g :: B → ∀ p ∈ g.2.1, p ∈ A.map (·.1)
theorem wf_nil : Wf [] := ⟨by simp, by simp, by simp, by simp, fun A g B h => by simp at h⟩
theorem wf_snoc {G : List GN} {x : List UInt8} {ps : List (List UInt8)} {st : Int} (h : Wf G) (hx : x.length = 32) (he : addE G x ps = 0) : Wf (G ++ [(x, ps, st)]) := by
  unfold addE at he
  split at he
  · exact absurd he (by decide)
  next h1 =>
  split at he
  · exact absurd he (by decide)
  next h2 =>
  split at he
  · next h3 =>
    have hn : ¬ x ∈ G.map (·.1) := fun hm => h2 (decide_eq_true hm)
    have hp : ∀ p ∈ ps, p ∈ G.map (·.1) := fun p hp => of_decide_eq_true (List.all_eq_true.1 h3 p hp)
    refine ⟨?_, ?_, ?_, ?_, ?_⟩
    · intro g hg
      rcases List.mem_append.1 hg with hg | hg
      · exact h.len g hg
      · rw [List.mem_singleton] at hg; subst hg; exact hx
    · rw [List.map_append, List.nodup_append]
      exact ⟨h.nodup, by simp, fun a ha b hb e => by simp at hb; subst hb; subst e; exact hn ha⟩
    · intro g hg
      rcases List.mem_append.1 hg with hg | hg
      · exact h.set g hg
      · rw [List.mem_singleton] at hg; subst hg
        exact Classical.byContradiction fun hc => h1 (.inr (.inr (by simpa using hc)))
    · intro g hg
      rcases List.mem_append.1 hg with hg | hg
      · exact h.two g hg
      · rw [List.mem_singleton] at hg; subst hg
        exact Nat.le_of_not_lt fun hc => h1 (.inr (.inl hc))
    · intro A g B hAB p hpg
      rcases List.eq_nil_or_concat B with rfl | ⟨B', b, rfl⟩
      · obtain ⟨rfl, hg⟩ := List.append_inj' hAB rfl
        simp at hg
        subst hg
        exact hp p hpg
      · rw [show A ++ g :: (B'.concat b) = (A ++ g :: B') ++ [b] by simp] at hAB
        obtain ⟨hG, _⟩ := List.append_inj' hAB rfl
        exact h.up A g B' hG p hpg
  · exact absurd he (by decide)
theorem wf_add {G : List GN} {x : List UInt8} {ps : List (List UInt8)} {st : Int} (h : Wf G) (hx : x.length = 32) : Wf (addG G x ps st) := by
  unfold addG
  split
  · next he => exact wf_snoc h hx he
  · exact h
theorem builtG_wf : ∀ (L : List GN), (∀ g ∈ L, g.1.length = 32) → Wf (builtG L) := by
  intro L
  have : ∀ (L : List GN) (G : List GN), Wf G → (∀ g ∈ L, g.1.length = 32) → Wf (L.foldl (fun G g => addG G g.1 g.2.1 g.2.2) G) := by
    intro L
    induction L with
    | nil => intro G h _; exact h
    | cons g L ih => intro G h hl; exact ih _ (wf_add h (hl g (by simp))) (fun y hy => hl y (by simp [hy]))
  exact this L [] wf_nil

theorem parsOf_no {G : List GN} {x : List UInt8} (h : isNode G x = false) : parsOf G x = [] := by
  unfold parsOf nodeOf
  have : G.find? (fun g => g.1 == x) = none := by
    rw [List.find?_eq_none]
    intro g hg he
    have := of_decide_eq_false h
    exact this (List.mem_map.2 ⟨g, hg, by simpa using he⟩)
  rw [this]; rfl
theorem isNode_mem {G : List GN} {x : List UInt8} : isNode G x = true ↔ x ∈ G.map (·.1) := by unfold isNode; simp
theorem isNode_len {G : List GN} (h : Wf G) {x : List UInt8} (hx : isNode G x = true) : x.length = 32 := by
  obtain ⟨h1, h2⟩ := nodeOf_mem hx
  rw [← h2]; exact h.len _ h1
/-- Where a node stands. -/
def rank (G : List GN) (x : List UInt8) : Nat := (G.map (·.1)).idxOf x
theorem par_up {G : List GN} (h : Wf G) {x p : List UInt8} (hp : p ∈ parsOf G x) : isNode G x = true ∧ isNode G p = true ∧ rank G p < rank G x := by
  cases hx : isNode G x with
  | false => rw [parsOf_no hx] at hp; cases hp
  | true =>
    obtain ⟨hm, he⟩ := nodeOf_mem hx
    obtain ⟨A, B, hAB⟩ := List.append_of_mem hm
    have hpA := h.up A _ B hAB p hp
    have hnx : ¬ x ∈ A.map (·.1) := by
      have hnd := h.nodup
      rw [hAB, List.map_append, List.nodup_append] at hnd
      intro hxa
      exact hnd.2.2 x hxa x (by rw [List.map_cons, he]; simp) rfl
    have hGm : G.map (·.1) = A.map (·.1) ++ x :: B.map (·.1) := by conv => lhs; rw [hAB]
                                                                   simp [he]
    refine ⟨rfl, isNode_mem.2 (by rw [hGm]; simp [hpA]), ?_⟩
    unfold rank
    rw [hGm, List.idxOf_append, if_pos hpA, List.idxOf_append, if_neg hnx]
    have := List.idxOf_lt_length_of_mem hpA
    simp only [List.idxOf_cons_self]
    simp only [List.length_map] at this ⊢
    omega
theorem pars_len {G : List GN} (h : Wf G) (x : List UInt8) : (parsOf G x).length ≤ 2 := by
  cases hx : isNode G x with
  | false => rw [parsOf_no hx]; simp
  | true => exact h.two _ (nodeOf_mem hx).1
theorem pars_set {G : List GN} (h : Wf G) (x : List UInt8) : isSetL (parsOf G x) = true := by
  cases hx : isNode G x with
  | false => rw [parsOf_no hx]; rfl
  | true => exact h.set _ (nodeOf_mem hx).1
theorem strict_nodup {l : List (List UInt8)} (h : Strict l) : l.Nodup := by
  refine List.Pairwise.imp ?_ h
  intro a b hab e
  subst e
  rw [cmpB_self] at hab
  omega
theorem pars_nodup {G : List GN} (h : Wf G) (x : List UInt8) : (parsOf G x).Nodup := strict_nodup ((strict_isSet _).1 (pars_set h x))

/-- y is in x's past. -/
inductive Anc (G : List GN) : List UInt8 → List UInt8 → Prop
  | refl (x : List UInt8) : Anc G x x
  | step {x y z : List UInt8} (h : y ∈ parsOf G x) (h' : Anc G y z) : Anc G x z
theorem Anc.trans {G : List GN} {x y z : List UInt8} (h : Anc G x y) (h' : Anc G y z) : Anc G x z := by
  induction h with
  | refl => exact h'
  | step hp _ ih => exact .step hp (ih h')
theorem Anc.par {G : List GN} {x y z : List UInt8} (h : Anc G x y) (h' : z ∈ parsOf G y) : Anc G x z := h.trans (.step h' (.refl z))
theorem Anc.lower {G : List GN} (hG : Wf G) {x y : List UInt8} (h : Anc G x y) : y = x ∨ rank G y < rank G x := by
  induction h with
  | refl => exact .inl rfl
  | step hp _ ih =>
    have := (par_up hG hp).2.2
    rcases ih with rfl | ih
    · exact .inr this
    · exact .inr (Nat.lt_trans ih this)
theorem Anc.node {G : List GN} (hG : Wf G) {x y : List UInt8} (h : Anc G x y) (hx : isNode G x = true) : isNode G y = true := by
  induction h with
  | refl => exact hx
  | step hp _ ih => exact ih (par_up hG hp).2.1
theorem Anc.anti {G : List GN} (hG : Wf G) {x y : List UInt8} (h : Anc G x y) (h' : Anc G y x) : x = y := by
  rcases h.lower hG with e | h1
  · exact e.symm
  · rcases h'.lower hG with e | h2
    · exact e
    · omega
/-- A last step: what is in the past, but for the node itself, is a parent of something there. -/
theorem Anc.last {G : List GN} {x y : List UInt8} (h : Anc G x y) : y = x ∨ ∃ m, Anc G x m ∧ y ∈ parsOf G m := by
  induction h with
  | refl => exact .inl rfl
  | step hp h' ih =>
    rcases ih with rfl | ⟨m, hm, hy⟩
    · exact .inr ⟨_, .refl _, hp⟩
    · exact .inr ⟨m, .step hp hm, hy⟩
theorem Anc.closed {G : List GN} {S : List (List UInt8)} (hc : ∀ s ∈ S, ∀ p ∈ parsOf G s, p ∈ S) {x y : List UInt8} (h : Anc G x y) (hx : x ∈ S) : y ∈ S := by
  induction h with
  | refl => exact hx
  | step hp _ ih => exact ih (hc _ hx _ hp)
open Classical in
/-- The past of a node, as a set. -/
noncomputable def pastL (G : List GN) (x : List UInt8) : List (List UInt8) := setL ((G.map (·.1)).filter fun y => decide (Anc G x y))
theorem pastL_mem {G : List GN} (hG : Wf G) {x y : List UInt8} (hx : isNode G x = true) : y ∈ pastL G x ↔ Anc G x y := by
  unfold pastL
  rw [setL_mem, List.mem_filter]
  simp only [decide_eq_true_eq]
  exact ⟨fun h => h.2, fun h => ⟨isNode_mem.1 (h.node hG hx), h⟩⟩
theorem pastL_of {G : List GN} (hG : Wf G) {x : List UInt8} (hx : isNode G x = true) {O : List (List UInt8)} (h : ∀ y, y ∈ O ↔ Anc G x y) : setL O = pastL G x :=
  (setL_eq (setL_strict _) (fun y => by rw [h]; exact pastL_mem hG hx)).symm
theorem pastL_strict (G : List GN) (x : List UInt8) : Strict (pastL G x) := setL_strict _
theorem pastL_32 {G : List GN} (hG : Wf G) {x : List UInt8} : ∀ y ∈ pastL G x, y.length = 32 := by
  intro y hy
  unfold pastL at hy
  rw [setL_mem, List.mem_filter] at hy
  exact isNode_len hG (isNode_mem.2 hy.1)
theorem pastL_node {G : List GN} {x : List UInt8} : ∀ y ∈ pastL G x, isNode G y = true := by
  intro y hy
  unfold pastL at hy
  rw [setL_mem, List.mem_filter] at hy
  exact isNode_mem.2 hy.1
theorem nodup_len : ∀ (l m : List (List UInt8)), l.Nodup → (∀ x ∈ l, x ∈ m) → l.length ≤ m.length
  | [], m, _, _ => by simp
  | a :: l, m, hn, hs => by
    have ha := hs a (by simp)
    obtain ⟨A, B, rfl⟩ := List.append_of_mem ha
    have hn' := List.nodup_cons.1 hn
    have := nodup_len l (A ++ B) hn'.2 (fun x hx => by
      have := hs x (by simp [hx])
      rcases List.mem_append.1 this with h | h
      · exact List.mem_append.2 (.inl h)
      · rcases List.mem_cons.1 h with rfl | h
        · exact absurd hx hn'.1
        · exact List.mem_append.2 (.inr h))
    simp only [List.length_append, List.length_cons] at this ⊢
    omega
theorem nodes_len {G : List GN} {O : List (List UInt8)} (hn : O.Nodup) (h : ∀ y ∈ O, isNode G y = true) : O.length ≤ G.length := by
  have := nodup_len O (G.map (·.1)) hn (fun y hy => isNode_mem.1 (h y hy))
  simpa using this
theorem pastL_len (G : List GN) (x : List UInt8) : (pastL G x).length ≤ G.length := nodes_len (strict_nodup (pastL_strict G x)) pastL_node
/-- Where the reference finds a node. -/
theorem placeI_node {G : List GN} {x : List UInt8} (h : isNode G x = true) : ∃ k : Nat, placeI G x = (k : Int) ∧ ∃ hk : k < G.length, G[k] = nodeOf G x := by
  obtain ⟨hm, he⟩ := nodeOf_mem h
  unfold placeI
  cases hf : G.findIdx? (fun g => g.1 == x) with
  | none =>
    rw [List.findIdx?_eq_none_iff] at hf
    have := hf _ hm
    simp [he] at this
  | some k =>
    have h2 := List.findIdx?_eq_some_iff_getElem.1 hf
    obtain ⟨hk, h3, h4⟩ := h2
    refine ⟨k, rfl, hk, ?_⟩
    unfold nodeOf
    have : G.find? (fun g => g.1 == x) = some G[k] := by
      rw [List.find?_eq_some_iff_getElem]
      exact ⟨h3, k, hk, rfl, fun j hj => by have := h4 j hj; simpa using this⟩
    rw [this]; rfl
end Go.Proofs.Ytmmmimkikakalaa
