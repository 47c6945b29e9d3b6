/- What a script's edits cost; of a text to itself; with a common beginning: plain. -/
import Derived.Test.YtipoifokcnbfnaaKr
namespace Go.Proofs.Ytipoifokcnbfnaa
set_option linter.unusedVariables false

theorem parsed_encs {rs : List Int} (h : Good rs) : Parsed (encs rs) rs [] := ⟨h, by simp, by rfl⟩
theorem isText_encs {rs : List Int} (h : Good rs) : isText (encs rs) = true := by unfold isText; rw [(parsed_encs h).parse_eq]; rfl
theorem cntN_encs {rs : List Int} (h : Good rs) : cntN (encs rs) = rs.length := by
  unfold cntN; rw [isText_encs h, (parsed_encs h).parse_eq]; rfl
def val (e : Ed) : Int := max e.2.1 0 + cntN e.2.2
theorem costE_cons (e : Ed) (E : List Ed) : costE (e :: E) = val e + costE E := rfl
theorem cost_set : ∀ (E : List Ed) (k : Nat) (e e' : Ed), E[k]? = some e → costE (E.set k e') = costE E - val e + val e'
  | [], k, e, e', h => by simp at h
  | x :: E, 0, e, e', h => by simp at h; subst h; simp only [List.set_cons_zero, costE_cons]; omega
  | x :: E, k + 1, e, e', h => by
    simp only [List.set_cons_succ, costE_cons]
    have := cost_set E k e e' (by simpa using h)
    omega
/-- An edit as a script makes it. -/
def Enc1 (e : Ed) : Prop := 0 ≤ e.2.1 ∧ ∃ rs, Good rs ∧ e.2.2 = encs rs
def w1 (m : Int) : Int := if m = 1 then 0 else 1
theorem enc_ed0 : Enc1 ed0 := ⟨by simp [ed0], [], (fun _ h => by cases h), rfl⟩
theorem val_ed0 : val ed0 = 0 := by decide +kernel
theorem begun_cost (m last : Int) (E : List Ed) (hE : ∀ e ∈ E, Enc1 e) : costE (begun m last E) = costE E ∧ ∀ e ∈ begun m last E, Enc1 e := by
  unfold begun
  split
  · refine ⟨by rw [costE_snoc]; have := val_ed0; unfold val at this; omega, fun e he => ?_⟩
    rcases List.mem_append.1 he with he | he
    · exact hE e he
    · rw [List.mem_singleton] at he; subst he; exact enc_ed0
  · exact ⟨rfl, hE⟩
theorem put_val (y : List Int) (hy : Good y) (m : Int) (j : Nat) (e : Ed) (he : Enc1 e) (hm : m = 1 ∨ m = 2 ∨ (m = 3 ∧ j < y.length)) : val (edPut y m j e) = val e + w1 m ∧ Enc1 (edPut y m j e) := by
  obtain ⟨h0, rs, hg, hrs⟩ := he
  obtain ⟨a, b, c⟩ := e
  simp only at h0 hrs
  subst hrs
  rcases hm with rfl | rfl | ⟨rfl, hj⟩
  · simp [edPut, val, w1, Enc1]; exact ⟨h0, rs, hg, rfl⟩
  · simp only [edPut, val, w1, Enc1]
    simp
    exact ⟨by omega, by omega, rs, hg, rfl⟩
  · have hmay : may (y.getD j 0) = true := hy _ (by rw [List.getD_eq_getElem?_getD, List.getElem?_eq_getElem hj]; exact List.getElem_mem hj)
    have hg2 := hg.snoc hmay
    have e1 : encs rs ++ enc (y.getD j 0) = encs (rs ++ [y.getD j 0]) := (encs_snoc rs _).symm
    simp only [edPut, val, w1, Enc1]
    rw [if_neg (by decide), if_neg (by decide)]
    simp only
    rw [e1, cntN_encs hg2, cntN_encs hg]
    refine ⟨by simp; omega, h0, _, hg2, rfl⟩
theorem step_cost (y : List Int) (hy : Good y) (m last : Int) (j : Nat) (E : List Ed) (hm : m = 1 ∨ m = 2 ∨ (m = 3 ∧ j < y.length)) (hE : ∀ e ∈ E, Enc1 e) :
    costE (lastPut y m j (begun m last E)) = costE E + w1 m ∧ ∀ e ∈ lastPut y m j (begun m last E), Enc1 e := by
  obtain ⟨h1, h2⟩ := begun_cost m last E hE
  have hl := begun_len m last E
  generalize begun m last E = F at *
  have hk : F[F.length - 1]? = some (F.getD (F.length - 1) ed0) := by
    have : F.length - 1 < F.length := by omega
    simp [List.getD_eq_getElem?_getD, this]
  obtain ⟨h3, h4⟩ := put_val y hy m j _ (h2 _ (List.mem_of_getElem? hk)) hm
  unfold lastPut
  refine ⟨by rw [cost_set F _ _ _ hk, h3, h1]; omega, fun e he => ?_⟩
  rcases List.mem_or_eq_of_mem_set he with he | he
  · exact h2 e he
  · rw [he]; exact h4
theorem SC_consC (a b : List Int) (i j : Nat) (hi : i ≤ a.length) (hj : j ≤ b.length) (m : Int) (ms : List Int) (h : SC a b i j = m :: ms) :
    (m = 1 ∧ i < a.length ∧ j < b.length ∧ ms = SC a b (i + 1) (j + 1) ∧ C a b i j = C a b (i + 1) (j + 1)) ∨ (m = 2 ∧ i < a.length ∧ ms = SC a b (i + 1) j ∧ C a b i j = C a b (i + 1) j + 1) ∨ (m = 3 ∧ j < b.length ∧ ms = SC a b i (j + 1) ∧ C a b i j = C a b i (j + 1) + 1) := by
  by_cases hia : i = a.length
  · subst hia
    by_cases hjb : j = b.length
    · subst hjb; rw [SC_end] at h; cases h
    · have h2 := SC_add a b a.length j hi (by omega) (.inl rfl)
      rw [h2.1] at h; cases h
      exact .inr (.inr ⟨rfl, by omega, rfl, h2.2.symm⟩)
  · by_cases hjb : j = b.length
    · subst hjb
      have := SC_drop a b i b.length (by omega) (.inl rfl)
      rw [this] at h; cases h
      exact .inr (.inl ⟨rfl, by omega, rfl, by rw [C_m, C_m]; omega⟩)
    · by_cases he : a.getD i 0 = b.getD j 0
      · have := SC_keep a b i j (by omega) (by omega) he
        rw [this] at h; cases h
        exact .inl ⟨rfl, by omega, by omega, rfl, C_eq a b i j (by omega) (by omega) he⟩
      · by_cases hc : C a b (i + 1) j + 1 = C a b i j
        · have := SC_drop a b i j (by omega) (.inr ⟨by omega, he, hc⟩)
          rw [this] at h; cases h
          exact .inr (.inl ⟨rfl, by omega, rfl, hc.symm⟩)
        · have h2 := SC_add a b i j hi (by omega) (.inr ⟨by omega, he, hc⟩)
          rw [h2.1] at h; cases h
          exact .inr (.inr ⟨rfl, by omega, rfl, h2.2.symm⟩)
theorem SC_nilC (a b : List Int) (i j : Nat) (hi : i ≤ a.length) (hj : j ≤ b.length) (h : SC a b i j = []) : i = a.length ∧ j = b.length := by
  by_cases hia : i = a.length
  · by_cases hjb : j = b.length
    · exact ⟨hia, hjb⟩
    · rw [(SC_add a b i j hi (by omega) (.inl hia)).1] at h; cases h
  · by_cases hjb : j = b.length
    · rw [SC_drop a b i j (by omega) (.inl hjb)] at h; cases h
    · by_cases he : a.getD i 0 = b.getD j 0
      · rw [SC_keep a b i j (by omega) (by omega) he] at h; cases h
      · by_cases hc : C a b (i + 1) j + 1 = C a b i j
        · rw [SC_drop a b i j (by omega) (.inr ⟨by omega, he, hc⟩)] at h; cases h
        · rw [(SC_add a b i j hi (by omega) (.inr ⟨by omega, he, hc⟩)).1] at h; cases h
theorem go_cost (x y : List Int) (hy : Good y) : ∀ (ms : List Int) (i j : Nat) (last : Int) (E : List Ed), i ≤ x.length → j ≤ y.length → SC x y i j = ms → (∀ e ∈ E, Enc1 e) →
    costE (edGo y ms j last E) = costE E + C x y i j ∧ ∀ e ∈ edGo y ms j last E, Enc1 e
  | [], i, j, last, E, hi, hj, h, hE => by
    obtain ⟨e1, e2⟩ := SC_nilC x y i j hi hj h
    rw [e1, e2, C_n]
    exact ⟨by simp [edGo], hE⟩
  | m :: ms, i, j, last, E, hi, hj, h, hE => by
    rw [edGo_cons]
    rcases SC_consC x y i j hi hj m ms h with ⟨rfl, h1, h2, h3, h4⟩ | ⟨rfl, h1, h3, h4⟩ | ⟨rfl, h2, h3, h4⟩
    · obtain ⟨s1, s2⟩ := step_cost y hy 1 last j E (.inl rfl) hE
      have := go_cost x y hy ms (i + 1) (j + 1) 1 _ h1 h2 h3.symm s2
      rw [s1] at this
      exact ⟨by rw [show jNext 1 j = j + 1 from rfl, this.1, h4]; simp [w1], this.2⟩
    · obtain ⟨s1, s2⟩ := step_cost y hy 2 last j E (.inr (.inl rfl)) hE
      have := go_cost x y hy ms (i + 1) j 2 _ h1 hj h3.symm s2
      rw [s1] at this
      exact ⟨by rw [show jNext 2 j = j from rfl, this.1, h4]; simp [w1]; omega, this.2⟩
    · obtain ⟨s1, s2⟩ := step_cost y hy 3 last j E (.inr (.inr ⟨rfl, h2⟩)) hE
      have := go_cost x y hy ms i (j + 1) 3 _ hi h2 h3.symm s2
      rw [s1] at this
      exact ⟨by rw [show jNext 3 j = j + 1 from rfl, this.1, h4]; simp [w1]; omega, this.2⟩
/-- A script's edits cost what the texts are apart. -/
theorem edits_cost (x y : List Int) (hy : Good y) : costE (edits x y) = cst x y := by
  have h := (go_cost x y hy (script x y) 0 0 3 [] (by omega) (by omega) (by unfold SC; simp) (fun e he => by cases he)).1
  unfold edits
  rw [h]
  simp [costE, C]
theorem edGo_bd (y : List Int) : ∀ (ms : List Int) (n j : Nat) (last : Int) (E : List Ed), EdB n E → EdB (n + ms.length) (edGo y ms j last E)
  | [], n, j, last, E, h => by simpa [edGo] using h
  | m :: ms, n, j, last, E, h => by
    rw [edGo_cons]
    have := edGo_bd y ms (n + 1) (jNext m j) m _ (h.step y m last j)
    rw [List.length_cons, show n + (ms.length + 1) = n + 1 + ms.length by omega]
    exact this
theorem edits_light (x y : List Int) (hx : x.length ≤ 4096) (hy : y.length ≤ 4096) : Light (edits x y) ∧ (edits x y).length ≤ 8192 := by
  have h := edGo_bd y (script x y) 0 0 3 [] ⟨by simp, by simp⟩
  have hl := script_len _ x y rfl
  rw [Nat.zero_add] at h
  refine ⟨⟨by unfold edits; have := h.1; omega, fun e he => ?_⟩, by unfold edits; have := h.1; omega⟩
  have := h.2 e he
  omega
/-- Of a text to itself: all is kept. -/
theorem script_self : ∀ x : List Int, script x x = List.replicate x.length 1
  | [] => script_nil
  | u :: x => by rw [script_keep, script_self x]; rfl
theorem keeps (y : List Int) : ∀ (n j : Nat) (k : Int) (a : Int) (c : List UInt8) (rest : List Int) (E0 : List Ed), edGo y (List.replicate n 1 ++ rest) j 1 (E0 ++ [(k, a, c)]) = edGo y rest (j + n) 1 (E0 ++ [(k + n, a, c)])
  | 0, j, k, a, c, rest, E0 => by simp
  | n + 1, j, k, a, c, rest, E0 => by
    rw [List.replicate_succ, List.cons_append, edGo_cons]
    have h1 : begun 1 1 (E0 ++ [(k, a, c)]) = E0 ++ [(k, a, c)] := by unfold begun isNew; simp
    have h2 : lastPut y 1 j (E0 ++ [(k, a, c)]) = E0 ++ [(k + 1, a, c)] := by
      unfold lastPut edPut; simp
    rw [h1, h2, show jNext 1 j = j + 1 from rfl, keeps y n (j + 1) (k + 1) a c rest E0]
    rw [show j + 1 + n = j + (n + 1) by omega, show k + 1 + (n : Int) = k + ((n + 1 : Nat) : Int) by omega]
theorem first_keep (y : List Int) (n j : Nat) (last : Int) (rest : List Int) : edGo y (List.replicate (n + 1) 1 ++ rest) j last [] = edGo y rest (j + (n + 1)) 1 [((n : Int) + 1, 0, [])] := by
  rw [List.replicate_succ, List.cons_append, edGo_cons]
  have h1 : lastPut y 1 j (begun 1 last []) = [] ++ [(1, 0, [])] := by unfold begun isNew lastPut edPut; simp [ed0]
  rw [h1, show jNext 1 j = j + 1 from rfl, keeps y n (j + 1) 1 0 [] rest []]
  congr 1
  · omega
  · simp; omega
theorem edits_self (x : List Int) : edits x x = if x.length = 0 then [] else [((x.length : Int), 0, [])] := by
  unfold edits
  rw [script_self]
  split
  · rename_i h; rw [h]; rfl
  · rename_i h
    obtain ⟨n, hn⟩ : ∃ n, x.length = n + 1 := ⟨x.length - 1, by omega⟩
    rw [hn]
    have := first_keep x n 0 3 []
    rw [List.append_nil] at this
    rw [this]
    simp [edGo]
end Go.Proofs.Ytipoifokcnbfnaa
