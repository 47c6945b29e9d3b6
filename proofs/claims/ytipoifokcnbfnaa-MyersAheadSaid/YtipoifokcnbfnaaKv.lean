/- The walk of MyersAhead. -/
import Derived.Test.YtipoifokcnbfnaaPf
namespace Go.Proofs.Ytipoifokcnbfnaa
open Go.RowKit
set_option linter.unusedVariables false

theorem dC_cases (a b : ByteArray) : dC a b = 0 ∨ dC a b = 5 := by unfold dC; split <;> simp

set_option maxHeartbeats 4000000 in
set_option maxRecDepth 100000 in
theorem ahead_any (f a b : ByteArray) (hsf : f.size ≤ maxLen) (hsa : a.size ≤ maxLen) (hsb : b.size ≤ maxLen) (w : World) : Calls Try.prog 6 #[.string f, .string a, .string b] w fun e w' => e = .returned (.bool true) ∧ Below w.heap.size w w' := by
  by_cases h0 : 300 < f.size
  · go_enter Try.func6, Try.ntmps6
    go_wp2
    go_ret
    exact ⟨rfl, Below.refl _ _⟩
  by_cases h1 : 300 < a.size
  · go_enter Try.func6, Try.ntmps6
    go_wp2
    go_ret
    exact ⟨rfl, Below.refl _ _⟩
  by_cases h2 : 300 < b.size
  · go_enter Try.func6, Try.ntmps6
    go_wp2
    go_ret
    exact ⟨rfl, Below.refl _ _⟩
  have hz1 : (f ++ a).size ≤ 4096 := by rw [ByteArray.size_append]; omega
  have hz2 : (f ++ b).size ≤ 4096 := by rw [ByteArray.size_append]; omega
  have HD1 := Lib.hid (fun w => diff_all (f ++ a) (f ++ b) hz1 hz2 w)
  have HD2 := Lib.hid (fun w => diff_all a b (by omega) (by omega) w)
  have HC := Lib.hid (fun w => count_any f hsf w)
  have HL1 := Lib.hid (dE_light (f ++ a) (f ++ b) hz1 hz2)
  have HL2 := Lib.hid (dE_light a b (by omega) (by omega))
  have HW := Lib.hid (fun hf hab => ahead_law f a b hf hab)
  have HC1 := Lib.hid (chkE_cases f.data.toList)
  have HC2 := Lib.hid (dC_cases (f ++ a) (f ++ b))
  have HC3 := Lib.hid (dC_cases a b)
  have hadd1 : ∀ w, (Op.stringOp .add f a).run Try.prog w = .ok (.string (f ++ a)) w := fun w => run_string_add_sum w _ _ (by omega)
  have hadd2 : ∀ w, (Op.stringOp .add f b).run Try.prog w = .ok (.string (f ++ b)) w := fun w => run_string_add_sum w _ _ (by omega)
  obtain ⟨E1, hE1⟩ : ∃ E, E = dE (f ++ a) (f ++ b) := ⟨_, rfl⟩
  obtain ⟨E2, hE2⟩ : ∃ E, E = dE a b := ⟨_, rfl⟩
  obtain ⟨d1, hd1⟩ : ∃ d, d = dC (f ++ a) (f ++ b) := ⟨_, rfl⟩
  obtain ⟨d2, hd2⟩ : ∃ d, d = dC a b := ⟨_, rfl⟩
  obtain ⟨N, hN⟩ : ∃ N, N = cntN f.data.toList := ⟨_, rfl⟩
  obtain ⟨ef, hef⟩ : ∃ ef, ef = chkE f.data.toList := ⟨_, rfl⟩
  rw [← hE1] at HD1 HL1 HW
  rw [← hE2] at HD2 HL2 HW
  rw [← hd1] at HD1 HW HC2
  rw [← hd2] at HD2 HW HC3
  rw [← hN] at HC HW
  rw [← hef] at HC HW HC1
  generalize (runesL f.data.toList).length = n at *
  obtain ⟨fa, hfa⟩ : ∃ fa, fa = f ++ a := ⟨_, rfl⟩
  obtain ⟨fb, hfb⟩ : ∃ fb, fb = f ++ b := ⟨_, rfl⟩
  rw [← hfa] at HD1 hadd1
  rw [← hfb] at HD1 hadd2
  clear hE1 hE2 hd1 hd2 hN hef hz1 hz2 hfa hfb
  go_enter Try.func6, Try.ntmps6
  go_wp2_with fail
  refine (HC.out _).mono ?_
  rintro e w0 ⟨rfl, hb0⟩
  have HB0 := Lib.hid hb0
  clear hb0
  go_wp2_with fail
  refine (HD1.out _).mono ?_
  rintro e w1 ⟨p1, c1, rfl, hi1, hb1⟩
  have HI1 := Lib.hid hi1
  have HB1 := Lib.hid (HB0.out.trans (hb1.mono HB0.out.size))
  clear hi1 hb1
  go_wp2_with fail
  refine (HD2.out _).mono ?_
  rintro e w2 ⟨p2, c2, rfl, hi2, hb2⟩
  have HI2 := Lib.hid hi2
  have HI1' := Lib.hid (HI1.out.below hb2)
  have HB2 := Lib.hid (HB1.out.trans (hb2.mono HB1.out.size))
  clear hi2 hb2 HI1 hadd1 hadd2
  by_cases hall : ef = 0 ∧ d1 = 0 ∧ d2 = 0
  · obtain ⟨g1, g2, g3⟩ := hall
    obtain ⟨_, hN, hcost, hz, hnz⟩ := HW.out g1 g3
    have HCO := Lib.hid hcost
    have HZ := Lib.hid hz
    have HNZ := Lib.hid hnz
    subst g1 g2 g3 hN
    clear hcost hz hnz HW
    by_cases hn : n = 0
    · have hee := HZ.out hn
      have HEE := Lib.hid hee
      have hsm := same_any p1 p2 c1 c2 E1 E2 w2 (by have := HL1.out.2; omega) (by have := HL2.out.2; omega) HI1'.out HI2.out
      rw [hee, show (E2 == E2) = true from beq_self_eq_true _] at hsm
      have HSM := Lib.hid hsm
      clear hee hsm
      subst hn
      rw [HEE.out]
      go_wp2_with fail
      refine HSM.out.mono ?_
      rintro e w3 ⟨rfl, hb3⟩
      have HB3 := Lib.hid (HB2.out.trans (hb3.mono HB2.out.size))
      clear hb3
      go_wp2_with fail
      refine (awake_any _).mono ?_
      rintro e w9 ⟨rfl, hb9⟩
      have HB9 := Lib.hid (HB3.out.trans (hb9.mono HB3.out.size))
      clear hb9
      go_wp2
      go_ret
      exact ⟨rfl, HB9.out⟩
    · obtain ⟨k, x, c, E, hE, hk⟩ := HNZ.out hn
      have HCA := Lib.hid (costE_any p1 c1 E1 w2 HL1.out.1 HI1'.out)
      rw [HCO.out] at HCA
      have HCB := Lib.hid (fun w3 (hb : Below w2.heap.size w2 w3) => costE_any p2 c2 E2 w3 HL2.out.1 (HI2.out.below hb))
      obtain ⟨cc, hcc⟩ : ∃ cc, cc = costE E2 := ⟨_, rfl⟩
      rw [← hcc] at HCA HCB
      have hEl : E1.length = E.length + 1 := by rw [hE]; rfl
      rcases HI1'.out.2 with h0 | ⟨b1, o1, rfl, hlt1, hc1⟩
      · rw [h0] at hE; cases hE
      have hat := hc1 0 (k, x, c) (by rw [hE]; rfl)
      have q0 := aggAt_get (j := 0) hat.1 (by decide)
      rw [hat.2] at q0
      have r0 : w2.cell? ⟨b1, o1, none⟩ = some (.int .i64 k) := by simpa [edR, edB] using q0
      have g4 : ((n : Int) == 0) = false := beq_eq_false_iff_ne.2 (by omega)
      have g5 : ((E1.length : Int) == 0) = false := beq_eq_false_iff_ne.2 (by omega)
      have g6 : decide ((n : Int) ≤ k) = true := decide_eq_true hk
      have g7 : (0 : Int) < E1.length := by omega
      have g8 : (cc == cc) = true := by simp
      clear hE hcc hc1 hat q0 hEl
      go_wp2_with fail
      refine HCA.out.mono ?_
      rintro e w3 ⟨rfl, hb3⟩
      have HCB3 := Lib.hid (HCB.out w3 hb3)
      have HB3 := Lib.hid (HB2.out.trans (hb3.mono HB2.out.size))
      clear hb3 r0
      go_wp2_with fail
      refine HCB3.out.mono ?_
      rintro e w4 ⟨rfl, hb4⟩
      have HB4 := Lib.hid (HB3.out.trans (hb4.mono HB3.out.size))
      clear hb4
      go_wp2_with fail
      refine (awake_any _).mono ?_
      rintro e w9 ⟨rfl, hb9⟩
      have HB9 := Lib.hid (HB4.out.trans (hb9.mono HB4.out.size))
      clear hb9
      go_wp2
      go_ret
      exact ⟨rfl, HB9.out⟩
  · have HALL := Lib.hid hall
    clear hall
    rcases HC1.out with g1 | g1
    · rcases HC2.out with g2 | g2
      · have g3 : d2 = 5 := by
          rcases HC3.out with h | h
          · exact absurd ⟨g1, g2, h⟩ HALL.out
          · exact h
        subst g1 g2 g3
        go_wp2_with fail
        refine (awake_any _).mono ?_
        rintro e w9 ⟨rfl, hb9⟩
        have HB9 := Lib.hid (HB2.out.trans (hb9.mono HB2.out.size))
        clear hb9
        go_wp2
        go_ret
        exact ⟨rfl, HB9.out⟩
      · subst g1 g2
        go_wp2_with fail
        refine (awake_any _).mono ?_
        rintro e w9 ⟨rfl, hb9⟩
        have HB9 := Lib.hid (HB2.out.trans (hb9.mono HB2.out.size))
        clear hb9
        go_wp2
        go_ret
        exact ⟨rfl, HB9.out⟩
    · subst g1
      go_wp2_with fail
      refine (awake_any _).mono ?_
      rintro e w9 ⟨rfl, hb9⟩
      have HB9 := Lib.hid (HB2.out.trans (hb9.mono HB2.out.size))
      clear hb9
      go_wp2
      go_ret
      exact ⟨rfl, HB9.out⟩
theorem myersAhead_walk (f : ByteArray) (hf : f.size ≤ maxLen) (a : ByteArray) (ha : a.size ≤ maxLen) (b : ByteArray) (hb : b.size ≤ maxLen) (w : World) : Calls Try.prog 6 #[.string f, .string a, .string b] w fun e w' => e = .returned (.bool true) ∧ Below w.heap.size w w' := ahead_any f a b hf ha hb w
end Go.Proofs.Ytipoifokcnbfnaa
