/- The laws UtfJoins and UtfPieces: walks. -/
import Derived.Test.YtkfpgbhafeikiaaLa
namespace Go.Proofs.Ytkfpgbhafeikiaa
open Go.RowKit
set_option linter.unusedVariables false

theorem Parsed.append {a b : List UInt8} {rs rs' : List Int} {t t' : List UInt8} (h : Parsed a rs t) (h' : Parsed (t ++ b) rs' t') : Parsed (a ++ b) (rs ++ rs') t' := by
  refine ⟨?_, ?_, h'.stop⟩
  · intro x hx
    rcases List.mem_append.1 hx with hx | hx
    · exact h.good x hx
    · exact h'.good x hx
  · rw [encs_append, List.append_assoc, ← h'.eq, ← List.append_assoc, ← h.eq]

theorem joins_text {a b : List UInt8} (h : isText a = true) : isText (a ++ b) = isText b ∧ (isText b = true → cntN (a ++ b) = cntN a + cntN b) := by
  have pa := parse_parsed a
  have pb := parse_parsed b
  have hn : (parse a).2 = [] := by simpa [isText] using h
  rw [hn] at pa
  have pab := (pa.append (t := []) (by simpa using pb)).parse_eq
  constructor
  · unfold isText; rw [pab]
  · intro hb
    have hab : isText (a ++ b) = true := by unfold isText at hb ⊢; rw [pab]; exact hb
    simp only [cntN, h, hb, hab, if_true, pab, List.length_append]
    omega

theorem joins_not {a b : List UInt8} (h : isText a = false) : isText (a ++ b) = true ∨ chkAt a ≤ chkAt (a ++ b) := by
  cases hab : isText (a ++ b) with
  | true => exact .inl rfl
  | false =>
    refine .inr ?_
    have pa := parse_parsed a
    have pb := parse_parsed ((parse a).2 ++ b)
    have pab := pa.append pb
    have e := pab.parse_eq
    have l1 := congrArg List.length pa.eq
    have l2 := congrArg List.length pab.eq
    rw [encs_append] at l2
    simp only [List.length_append] at l1 l2
    unfold chkAt
    rw [h, hab, e]
    simp only [List.length_append, if_false, Bool.false_eq_true]
    omega

theorem chkE_yes {l : List UInt8} (h : isText l = true) : chkE l = 0 := by unfold chkE; rw [h]; rfl
theorem chkE_no {l : List UInt8} (h : isText l = false) : chkE l = 5 := by unfold chkE; rw [h]; rfl

theorem app_list (a b : ByteArray) : (a ++ b).data.toList = a.data.toList ++ b.data.toList := by simp

set_option maxHeartbeats 1000000 in
set_option maxRecDepth 100000 in
theorem utfJoins_walk (a : ByteArray) (ha : a.size ≤ maxLen) (b : ByteArray) (hb : b.size ≤ maxLen) (w : World) :
    Calls Try.prog 5 #[.string a, .string b] w fun e w' => e = .returned (.bool true) ∧ Below w.heap.size w w' := by
  unfold maxLen at ha hb
  by_cases hs : 2000 < a.size ∨ 2000 < b.size
  · by_cases h1 : 2000 < a.size
    · clear hs
      go_enter Try.func5, Try.ntmps5
      go_wp2
      go_ret
      exact ⟨rfl, Below.refl _ _⟩
    · have h2 : 2000 < b.size := by omega
      clear hs
      go_enter Try.func5, Try.ntmps5
      go_wp2
      go_ret
      exact ⟨rfl, Below.refl _ _⟩
  · have h1 : a.size ≤ 2000 := by omega
    have h2 : b.size ≤ 2000 := by omega
    clear hs
    have hsab : (a ++ b).size ≤ maxLen := by simp [maxLen]; omega
    have HA := Lib.hid (show a.size ≤ maxLen by unfold maxLen; omega)
    have HB := Lib.hid (show b.size ≤ maxLen by unfold maxLen; omega)
    have HAB := Lib.hid hsab
    clear hsab
    cases hta : isText a.data.toList with
    | false =>
      have hj := joins_not (b := b.data.toList) hta
      rw [← app_list] at hj
      have ea : chkE a.data.toList = 5 := by simp [chkE, hta]
      have EA := Lib.hid ea
      clear ea hta
      have hab : (chkE (a ++ b).data.toList == 0) = true ∨ ((chkE (a ++ b).data.toList == 0) = false ∧ chkAt a.data.toList ≤ chkAt (a ++ b).data.toList) := by
        rcases hj with hj | hj
        · exact .inl (by rw [chkE_yes hj]; rfl)
        · by_cases h : isText (a ++ b).data.toList = true
          · exact .inl (by rw [chkE_yes h]; rfl)
          · exact .inr ⟨by rw [chkE_no (by simpa only [Bool.not_eq_true] using h)]; rfl, hj⟩
      have HJ := Lib.hid hab
      clear hj hab
      go_enter Try.func5, Try.ntmps5
      go_wp2_with fail
      refine (count_any a HA.out _).mono ?_
      rintro e w1 ⟨rfl, hb1⟩
      rw [EA.out]
      go_wp2_with fail
      refine (count_any b HB.out _).mono ?_
      rintro e w2 ⟨rfl, hb2⟩
      go_wp2_with fail
      refine (count_any (a ++ b) HAB.out _).mono ?_
      rintro e w3 ⟨rfl, hb3⟩
      have hb13 := hb1.trans ((hb2.trans (hb3.mono hb2.size)).mono hb1.size)
      clear hb1 hb2 hb3
      go_wp2_with fail
      refine (check_any a HA.out _).mono ?_
      rintro e w2 ⟨rfl, rfl⟩
      go_wp2_with fail
      refine (check_any (a ++ b) HAB.out _).mono ?_
      rintro e w2 ⟨rfl, rfl⟩
      have hz := hb13.size
      rcases HJ.out with hj | ⟨hj, hk⟩
      · generalize chkE (a ++ b).data.toList = c at *
        go_wp2_with fail
        refine (awake_any _).mono ?_
        rintro e w4 ⟨rfl, hb4⟩
        go_wp2
        go_ret
        exact ⟨rfl, hb13.trans (hb4.mono hz)⟩
      · generalize chkE (a ++ b).data.toList = c at *
        generalize chkAt (a ++ b).data.toList = c1 at *
        generalize chkAt a.data.toList = c2 at *
        go_wp2_with fail
        refine (awake_any _).mono ?_
        rintro e w4 ⟨rfl, hb4⟩
        go_wp2
        go_ret
        exact ⟨rfl, hb13.trans (hb4.mono hz)⟩
    | true =>
      have hj := joins_text (b := b.data.toList) hta
      rw [← app_list] at hj
      have ea : chkE a.data.toList = 0 := by simp [chkE, hta]
      have EA := Lib.hid ea
      clear ea hta
      cases htb : isText b.data.toList with
      | true =>
        have eb : chkE b.data.toList = 0 := by simp [chkE, htb]
        have eab : chkE (a ++ b).data.toList = 0 := chkE_yes (by rw [hj.1, htb])
        have hn := hj.2 htb
        have hn1 : 0 ≤ cntN a.data.toList ∧ cntN a.data.toList ≤ 2000 := by
          have := encs_len (parse a.data.toList).1
          have h3 := congrArg List.length (parse_parsed a.data.toList).eq
          simp at h3
          unfold cntN; split <;> omega
        have hn2 : 0 ≤ cntN b.data.toList ∧ cntN b.data.toList ≤ 2000 := by
          have := encs_len (parse b.data.toList).1
          have h3 := congrArg List.length (parse_parsed b.data.toList).eq
          simp at h3
          unfold cntN; split <;> omega
        have EB := Lib.hid eb
        have EAB := Lib.hid eab
        have HN := Lib.hid hn
        clear eb eab hn htb hj
        go_enter Try.func5, Try.ntmps5
        go_wp2_with fail
        refine (count_any a HA.out _).mono ?_
        rintro e w1 ⟨rfl, hb1⟩
        rw [EA.out]
        go_wp2_with fail
        refine (count_any b HB.out _).mono ?_
        rintro e w2 ⟨rfl, hb2⟩
        rw [EB.out]
        go_wp2_with fail
        refine (count_any (a ++ b) HAB.out _).mono ?_
        rintro e w3 ⟨rfl, hb3⟩
        rw [EAB.out, HN.out]
        have hb13 := hb1.trans ((hb2.trans (hb3.mono hb2.size)).mono hb1.size)
        clear hb1 hb2 hb3
        generalize cntN a.data.toList = x at *
        generalize cntN b.data.toList = y at *
        have hz := hb13.size
        go_wp2_with fail
        refine (awake_any _).mono ?_
        rintro e w4 ⟨rfl, hb4⟩
        go_wp2
        go_ret
        exact ⟨rfl, hb13.trans (hb4.mono hz)⟩
      | false =>
        have eb : chkE b.data.toList = 5 := by simp [chkE, htb]
        have eab : chkE (a ++ b).data.toList = 5 := chkE_no (by rw [hj.1, htb])
        have EB := Lib.hid eb
        have EAB := Lib.hid eab
        clear eb eab htb hj
        go_enter Try.func5, Try.ntmps5
        go_wp2_with fail
        refine (count_any a HA.out _).mono ?_
        rintro e w1 ⟨rfl, hb1⟩
        rw [EA.out]
        go_wp2_with fail
        refine (count_any b HB.out _).mono ?_
        rintro e w2 ⟨rfl, hb2⟩
        rw [EB.out]
        go_wp2_with fail
        refine (count_any (a ++ b) HAB.out _).mono ?_
        rintro e w3 ⟨rfl, hb3⟩
        rw [EAB.out]
        have hb13 := hb1.trans ((hb2.trans (hb3.mono hb2.size)).mono hb1.size)
        clear hb1 hb2 hb3
        have hz := hb13.size
        go_wp2_with fail
        refine (awake_any _).mono ?_
        rintro e w4 ⟨rfl, hb4⟩
        go_wp2
        go_ret
        exact ⟨rfl, hb13.trans (hb4.mono hz)⟩

end Go.Proofs.Ytkfpgbhafeikiaa
