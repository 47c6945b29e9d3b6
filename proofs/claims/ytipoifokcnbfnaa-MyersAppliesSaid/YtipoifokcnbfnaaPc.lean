/- A script as edits, in plain Lean. -/
import Derived.Test.YtipoifokcnbfnaaI
import Derived.Test.YtipoifokcnbfnaaPb
namespace Go.Proofs.Ytipoifokcnbfnaa
set_option linter.unusedVariables false

def ed0 : Ed := (0, 0, [])
/-- Is a new edit begun? -/
def isNew (m last : Int) (E : List Ed) : Bool := decide (E.length = 0) || (m == 1 && last != 1)
def begun (m last : Int) (E : List Ed) : List Ed := if isNew m last E = true then E ++ [ed0] else E
/-- What a move makes of the last edit. -/
def edPut (y : List Int) (m : Int) (j : Nat) (x : Ed) : Ed := if m = 1 then (x.1 + 1, x.2.1, x.2.2) else if m = 2 then (x.1, x.2.1 + 1, x.2.2) else (x.1, x.2.1, x.2.2 ++ enc (y.getD j 0))
def lastPut (y : List Int) (m : Int) (j : Nat) (E : List Ed) : List Ed := E.set (E.length - 1) (edPut y m j (E.getD (E.length - 1) ed0))
def jNext (m : Int) (j : Nat) : Nat := if m = 2 then j else j + 1
def edGo (y : List Int) : List Int → Nat → Int → List Ed → List Ed
  | [], _, _, E => E
  | m :: ms, j, last, E => edGo y ms (jNext m j) m (lastPut y m j (begun m last E))
def edits (x y : List Int) : List Ed := edGo y (script x y) 0 3 []
theorem edGo_cons (y : List Int) (m : Int) (ms : List Int) (j : Nat) (last : Int) (E : List Ed) : edGo y (m :: ms) j last E = edGo y ms (jNext m j) m (lastPut y m j (begun m last E)) := rfl
theorem begun_len (m last : Int) (E : List Ed) : 1 ≤ (begun m last E).length ∧ (begun m last E).length ≤ E.length + 1 := by
  unfold begun isNew
  split
  · simp
  · rename_i h
    simp only [Bool.or_eq_true, decide_eq_true_eq, not_or] at h
    omega
theorem lastPut_len (y : List Int) (m : Int) (j : Nat) (E : List Ed) : (lastPut y m j E).length = E.length := by unfold lastPut; simp
/-- Numbers that have not grown much. -/
def EdB (n : Nat) (E : List Ed) : Prop := E.length ≤ n ∧ ∀ e ∈ E, (0 ≤ e.1 ∧ e.1 ≤ n) ∧ (0 ≤ e.2.1 ∧ e.2.1 ≤ n) ∧ e.2.2.length ≤ 4 * n
theorem EdB.start {n : Nat} {E : List Ed} (h : EdB n E) (m last : Int) : (begun m last E).length ≤ n + 1 ∧ ∀ e ∈ begun m last E, (0 ≤ e.1 ∧ e.1 ≤ n) ∧ (0 ≤ e.2.1 ∧ e.2.1 ≤ n) ∧ e.2.2.length ≤ 4 * n := by
  refine ⟨by have := begun_len m last E; have := h.1; omega, fun e he => ?_⟩
  unfold begun at he
  split at he
  · rcases List.mem_append.1 he with he | he
    · exact h.2 e he
    · rw [List.mem_singleton] at he; subst he; simp [ed0]
  · exact h.2 e he
theorem EdB.step {n : Nat} {E : List Ed} (h : EdB n E) (y : List Int) (m last : Int) (j : Nat) : EdB (n + 1) (lastPut y m j (begun m last E)) := by
  obtain ⟨h1, h2⟩ := h.start m last
  refine ⟨by rw [lastPut_len]; exact h1, fun e he => ?_⟩
  unfold lastPut at he
  have hl := begun_len m last E
  rcases List.mem_or_eq_of_mem_set he with he | he
  · have := h2 e he; omega
  · have hm : (begun m last E).getD ((begun m last E).length - 1) ed0 ∈ begun m last E := by
      have h3 : (begun m last E).length - 1 < (begun m last E).length := by omega
      rw [List.getD_eq_getElem?_getD, List.getElem?_eq_getElem h3]; exact List.getElem_mem h3
    have h3 := h2 _ hm
    rw [he]
    have h4 := enc_ne (y.getD j 0)
    unfold edPut
    split
    · simp only; omega
    · split
      · simp only; omega
      · simp only [List.length_append]; omega
/-- How a script begins. -/
theorem SC_cons (a b : List Int) (i j : Nat) (hi : i ≤ a.length) (hj : j ≤ b.length) (m : Int) (ms : List Int) (h : SC a b i j = m :: ms) :
    (m = 1 ∧ i < a.length ∧ j < b.length ∧ ms = SC a b (i + 1) (j + 1)) ∨ (m = 2 ∧ i < a.length ∧ ms = SC a b (i + 1) j) ∨ (m = 3 ∧ j < b.length ∧ ms = SC a b i (j + 1)) := by
  by_cases hia : i = a.length
  · subst hia
    by_cases hjb : j = b.length
    · subst hjb; rw [SC_end] at h; cases h
    · have := (SC_add a b a.length j hi (by omega) (.inl rfl)).1
      rw [this] at h; cases h
      exact .inr (.inr ⟨rfl, by omega, rfl⟩)
  · by_cases hjb : j = b.length
    · subst hjb
      have := SC_drop a b i b.length (by omega) (.inl rfl)
      rw [this] at h; cases h
      exact .inr (.inl ⟨rfl, by omega, rfl⟩)
    · by_cases he : a.getD i 0 = b.getD j 0
      · have := SC_keep a b i j (by omega) (by omega) he
        rw [this] at h; cases h
        exact .inl ⟨rfl, by omega, by omega, rfl⟩
      · by_cases hc : C a b (i + 1) j + 1 = C a b i j
        · have := SC_drop a b i j (by omega) (.inr ⟨by omega, he, hc⟩)
          rw [this] at h; cases h
          exact .inr (.inl ⟨rfl, by omega, rfl⟩)
        · have := (SC_add a b i j hi (by omega) (.inr ⟨by omega, he, hc⟩)).1
          rw [this] at h; cases h
          exact .inr (.inr ⟨rfl, by omega, rfl⟩)
end Go.Proofs.Ytipoifokcnbfnaa
