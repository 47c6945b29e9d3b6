/- Plain: pieces hold the live elements, one behind the other. -/
import Derived.Test.YtcgioboiebanpaaPi
namespace Go.Proofs.Ytcgioboiebanpaa
open Go.RowKit
set_option linter.unusedVariables false

def keysP1 (p : PV) : List KV := (List.range p.2.1.toNat).map fun (j : Nat) => (p.1.1, p.1.2.1, p.1.2.2 + (j : Int))
def keysP (O : List PV) : List KV := O.flatMap keysP1
def textP (O : List PV) : List UInt8 := O.flatMap (·.2.2)
def pcOk (p : PV) : Prop := 1 ≤ p.2.1 ∧ 0 ≤ p.1.2.2 ∧ p.1.2.2 + p.2.1 ≤ 2147483648
theorem keysP1_bump (p : PV) (h : pcOk p) (u : Int) (k : KV) (hk : k = (p.1.1, p.1.2.1, p.1.2.2 + p.2.1)) (x : MR) (hx : x.2.1.length = 1) : keysP1 (bump p x) = keysP1 p ++ [k] := by
  unfold keysP1 bump
  obtain ⟨n, hn⟩ : ∃ n : Nat, p.2.1 = n := ⟨p.2.1.toNat, by have := h.1; omega⟩
  simp only [hx, hn]
  rw [show ((n : Int) + ((1 : Nat) : Int)).toNat = n + 1 by omega, List.range_succ, List.map_append, List.map_singleton, Int.toNat_natCast, hk, hn]
theorem pieces_hold : ∀ L : List E1, (∀ e ∈ L, 0 ≤ e.1.2.2 ∧ e.1.2.2 < 2147483648) → keysP (pgo (L.map one)).1 = (L.filter fun e => !e.2.2).map (·.1) ∧ textP (pgo (L.map one)).1 = docText (L.map one) ∧ (∀ p ∈ (pgo (L.map one)).1, pcOk p) := by
  refine snoc_ind (fun _ => ⟨rfl, rfl, by simp [pgo]⟩) fun L e ih h => ?_
  obtain ⟨i1, i2, i3⟩ := ih (fun x hx => h x (by simp [hx]))
  have he := h e (by simp)
  rw [List.map_append, List.map_singleton, pgo_snoc, docText_append, List.filter_append, List.map_append]
  generalize pgo (L.map one) = st at *
  obtain ⟨O, gap⟩ := st
  obtain ⟨⟨t, c, i⟩, u, d⟩ := e
  simp only at i1 i2 i3 he
  cases d with
  | true =>
    have hp : pstep (O, gap) (one ((t, c, i), u, true)) = (O, true) := rfl
    rw [hp]
    refine ⟨by simp [i1], ?_, i3⟩
    rw [i2]
    simp [docText, one]
  | false =>
    have hdt : docText [one ((t, c, i), u, false)] = textL [u] := by simp [docText, one]
    rw [hdt]
    by_cases hf : (!gap && followsB O (t, c, i)) = true
    · have hf' : followsB O (t, c, i) = true := by
        rw [Bool.and_eq_true] at hf
        exact hf.2
      have hp : pstep (O, gap) (one ((t, c, i), u, false)) = (addLast O (one ((t, c, i), u, false)), false) := by
        unfold pstep
        rw [if_neg (by simp [one]), if_pos (by simpa [one] using hf)]
      rw [hp]
      cases hO : O.getLast? with
      | none => unfold followsB at hf'; rw [hO] at hf'; cases hf'
      | some p =>
        have hsp : O = O.dropLast ++ [p] := by
          have hne : O ≠ [] := by rintro rfl; simp at hO
          rw [List.getLast?_eq_some_getLast hne] at hO
          injection hO with hO
          rw [← hO]
          exact (List.dropLast_concat_getLast hne).symm
        have hpo := i3 p (by rw [hsp]; simp)
        unfold followsB at hf'
        rw [hO] at hf'
        simp only [keyEq, Bool.and_eq_true, beq_iff_eq] at hf'
        obtain ⟨f1, f2, f3⟩ := hf'
        rw [wrap64_id (by have := hpo.1; have := hpo.2.1; omega) (by have := hpo.2.2; omega)] at f3
        have hal : addLast O (one ((t, c, i), u, false)) = O.dropLast ++ [bump p (one ((t, c, i), u, false))] := by unfold addLast; rw [hO]
        rw [hal]
        simp only
        have hkb := keysP1_bump p hpo u (t, c, i) (by rw [f1, f2, f3]) (one ((t, c, i), u, false)) rfl
        refine ⟨?_, ?_, ?_⟩
        · have : keysP O = keysP O.dropLast ++ keysP1 p := by
            conv => lhs; rw [hsp]
            simp [keysP]
          rw [this] at i1
          rw [show keysP (O.dropLast ++ [bump p (one ((t, c, i), u, false))]) = keysP O.dropLast ++ keysP1 (bump p (one ((t, c, i), u, false))) by simp [keysP], hkb, ← List.append_assoc, i1]
          simp
        · have : textP O = textP O.dropLast ++ p.2.2 := by
            conv => lhs; rw [hsp]
            simp [textP]
          rw [this] at i2
          rw [show textP (O.dropLast ++ [bump p (one ((t, c, i), u, false))]) = textP O.dropLast ++ (p.2.2 ++ textL [u]) by simp [textP, bump, one], ← List.append_assoc, i2]
        · intro q hq
          rcases List.mem_append.1 hq with hq | hq
          · exact i3 q (by rw [hsp]; simp [hq])
          · rw [List.mem_singleton] at hq
            subst hq
            obtain ⟨o1, o2, o3⟩ := hpo
            refine ⟨?_, o2, ?_⟩
            · show 1 ≤ p.2.1 + ((1 : Nat) : Int)
              omega
            · show p.1.2.2 + (p.2.1 + ((1 : Nat) : Int)) ≤ 2147483648
              omega
    · have hp : pstep (O, gap) (one ((t, c, i), u, false)) = (O ++ [((t, c, i), (1 : Int), textL [u])], false) := by
        unfold pstep
        rw [if_neg (by simp [one]), if_neg (by simpa [one] using hf)]
        rfl
      rw [hp]
      refine ⟨?_, ?_, ?_⟩
      · rw [show keysP (O ++ [((t, c, i), (1 : Int), textL [u])]) = keysP O ++ [(t, c, i)] by simp [keysP, keysP1], i1]
        simp
      · rw [show textP (O ++ [((t, c, i), (1 : Int), textL [u])]) = textP O ++ textL [u] by simp [textP], i2]
      · intro q hq
        rcases List.mem_append.1 hq with hq | hq
        · exact i3 q hq
        · rw [List.mem_singleton] at hq
          subst hq
          exact ⟨by simp, he.1, by simp only; omega⟩
end Go.Proofs.Ytcgioboiebanpaa
