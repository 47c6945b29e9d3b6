/- Diff, whatever the bytes; the walk of MyersTurned. -/
import Derived.Test.YtipoifokcnbfnaaKs
import Derived.Test.YtipoifokcnbfnaaPe
namespace Go.Proofs.Ytipoifokcnbfnaa
open Go.RowKit
set_option linter.unusedVariables false

/-- What Diff tells. -/
def dE (a b : ByteArray) : List Ed := if chkE a.data.toList = 0 ∧ chkE b.data.toList = 0 then edits (runesL a.data.toList) (runesL b.data.toList) else []
def dC (a b : ByteArray) : Int := if chkE a.data.toList = 0 ∧ chkE b.data.toList = 0 then 0 else 5
theorem diff_all (a b : ByteArray) (ha : a.size ≤ 4096) (hb : b.size ≤ 4096) (w : World) :
    Calls Try.prog 13 #[.string a, .string b] w fun e w' => ∃ p c, e = .returned (.tuple #[.slice p (dE a b).length c, .int .i64 (dC a b)]) ∧ edR.In w' p (dE a b) ∧ Below w.heap.size w w' := by
  by_cases h : chkE a.data.toList = 0 ∧ chkE b.data.toList = 0
  · refine (diff_any a b ha hb w h.1 h.2).mono ?_
    rintro e w' ⟨v, rfl, hr, hb⟩
    obtain ⟨p, c, rfl, _, _, hin, _⟩ := hr.sl
    unfold dE dC
    rw [if_pos h, if_pos h]
    exact ⟨p, c, rfl, hin, hb⟩
  · refine (diff_bad a b ha hb w (by
      rcases chkE_cases a.data.toList with h1 | h1
      · rcases chkE_cases b.data.toList with h2 | h2
        · exact absurd ⟨h1, h2⟩ h
        · exact .inr h2
      · exact .inl h1)).mono ?_
    rintro e w' ⟨rfl, hb⟩
    unfold dE dC
    rw [if_neg h, if_neg h]
    exact ⟨none, 0, rfl, ⟨(fun _ h => by cases h), .inl rfl⟩, hb⟩
theorem dE_light (a b : ByteArray) (ha : a.size ≤ 4096) (hb : b.size ≤ 4096) : Light (dE a b) ∧ (dE a b).length ≤ 8192 := by
  have h1 := runesL_le a.data.toList
  have h2 := runesL_le b.data.toList
  have h3 : a.data.toList.length = a.size := by simp
  have h4 : b.data.toList.length = b.size := by simp
  unfold dE
  split
  · exact edits_light _ _ (by omega) (by omega)
  · exact ⟨⟨by simp, fun _ h => by cases h⟩, by simp⟩
theorem dE_cost (a b : ByteArray) : costE (dE a b) = if chkE a.data.toList = 0 ∧ chkE b.data.toList = 0 then (cst (runesL a.data.toList) (runesL b.data.toList) : Int) else 0 := by
  unfold dE
  split
  · exact edits_cost _ _ (runesL_good _)
  · rfl
theorem dE_turn (a b : ByteArray) : costE (dE a b) = costE (dE b a) ∧ dC a b = dC b a := by
  rw [dE_cost, dE_cost]
  unfold dC
  by_cases h : chkE a.data.toList = 0 ∧ chkE b.data.toList = 0
  · rw [if_pos h, if_pos h.symm, if_pos h, if_pos h.symm, cst_symm _ _ _ rfl]; exact ⟨rfl, rfl⟩
  · rw [if_neg h, if_neg (fun h' => h h'.symm), if_neg h, if_neg (fun h' => h h'.symm)]; exact ⟨rfl, rfl⟩
theorem dE_self (a : ByteArray) : (chkE a.data.toList = 5 ∧ dC a a = 5) ∨ (chkE a.data.toList = 0 ∧ dC a a = 0 ∧ cntN a.data.toList = (runesL a.data.toList).length ∧ dE a a = if (runesL a.data.toList).length = 0 then [] else [(((runesL a.data.toList).length : Int), 0, [])]) := by
  rcases chkE_cases a.data.toList with h | h
  · refine .inr ⟨h, by unfold dC; rw [if_pos ⟨h, h⟩], ?_, by unfold dE; rw [if_pos ⟨h, h⟩, edits_self]⟩
    unfold chkE at h
    unfold cntN runesL
    split
    · rfl
    · rename_i hn; rw [if_neg hn] at h; cases h
  · exact .inl ⟨h, by unfold dC; rw [if_neg (fun hh => by rw [h] at hh; cases hh.1)]⟩

set_option maxHeartbeats 4000000 in
set_option maxRecDepth 100000 in
theorem turned_any (a b : ByteArray) (hsa : a.size ≤ maxLen) (hsb : b.size ≤ maxLen) (w : World) : Calls Try.prog 5 #[.string a, .string b] w fun e w' => e = .returned (.bool true) ∧ Below w.heap.size w w' := by
  by_cases h1 : 600 < a.size
  · go_enter Try.func5, Try.ntmps5
    go_wp2
    go_ret
    exact ⟨rfl, Below.refl _ _⟩
  by_cases h2 : 600 < b.size
  · go_enter Try.func5, Try.ntmps5
    go_wp2
    go_ret
    exact ⟨rfl, Below.refl _ _⟩
  have HD1 := Lib.hid (fun w => diff_all a b (by omega) (by omega) w)
  have HD2 := Lib.hid (fun w => diff_all b a (by omega) (by omega) w)
  have HD3 := Lib.hid (fun w => diff_all a a (by omega) (by omega) w)
  have HC := Lib.hid (fun w => count_any a hsa w)
  have HT := Lib.hid (dE_turn a b)
  have HS := Lib.hid (dE_self a)
  have HL1 := Lib.hid (dE_light a b (by omega) (by omega))
  have HL2 := Lib.hid (dE_light b a (by omega) (by omega))
  obtain ⟨E1, hE1⟩ : ∃ E, E = dE a b := ⟨_, rfl⟩
  obtain ⟨E2, hE2⟩ : ∃ E, E = dE b a := ⟨_, rfl⟩
  obtain ⟨E3, hE3⟩ : ∃ E, E = dE a a := ⟨_, rfl⟩
  rw [HT.out.2] at HD1
  obtain ⟨d1, hd1⟩ : ∃ d, d = dC b a := ⟨_, rfl⟩
  obtain ⟨d3, hd3⟩ : ∃ d, d = dC a a := ⟨_, rfl⟩
  rw [← hE1] at HD1 HL1
  rw [← hd1] at HD1 HD2
  rw [← hE2] at HD2 HL2
  rw [← hE3, ← hd3] at HD3
  rw [← hd3, ← hE3] at HS
  have HTC := Lib.hid (show costE E1 = costE E2 by rw [hE1, hE2]; exact HT.out.1)
  obtain ⟨N, hN⟩ : ∃ N, N = cntN a.data.toList := ⟨_, rfl⟩
  obtain ⟨ea, hea⟩ : ∃ ea, ea = chkE a.data.toList := ⟨_, rfl⟩
  rw [← hN, ← hea] at HC HS
  generalize (runesL a.data.toList).length = n at *
  clear hE1 hE2 hE3 hd1 hd3 hN hea
  go_enter Try.func5, Try.ntmps5
  go_wp2_with fail
  refine (HD1.out _).mono ?_
  rintro e w1 ⟨p1, c1, rfl, hi1, hb1⟩
  have HI1 := Lib.hid hi1
  have HB1 := Lib.hid hb1
  clear hi1 hb1
  go_wp2_with fail
  refine (HD2.out _).mono ?_
  rintro e w2 ⟨p2, c2, rfl, hi2, hb2⟩
  have HI2 := Lib.hid hi2
  have HI1' := Lib.hid (HI1.out.below hb2)
  have HB2 := Lib.hid (HB1.out.trans (hb2.mono HB1.out.size))
  clear hi2 hb2 HI1
  go_wp2_with fail
  refine (HD3.out _).mono ?_
  rintro e w3 ⟨p3, c3, rfl, hi3, hb3⟩
  have HI3 := Lib.hid hi3
  have HI1 := Lib.hid (HI1'.out.below hb3)
  have HI2' := Lib.hid (HI2.out.below hb3)
  have HB3 := Lib.hid (HB2.out.trans (hb3.mono HB2.out.size))
  have HCA := Lib.hid (costE_any p1 c1 E1 w3 HL1.out.1 HI1.out)
  clear hi3 hb3 HI1' HI2
  have g1 : (d1 != d1) = false := by simp
  go_wp2_with fail
  refine HCA.out.mono ?_
  rintro e w4 ⟨rfl, hb4⟩
  have HCB := Lib.hid (costE_any p2 c2 E2 w4 HL2.out.1 (HI2'.out.below hb4))
  have HI3' := Lib.hid (HI3.out.below hb4)
  have HB4 := Lib.hid (HB3.out.trans (hb4.mono HB3.out.size))
  rw [HTC.out]
  clear hb4 HI3 HI2'
  obtain ⟨cc, hcc⟩ : ∃ cc, cc = costE E2 := ⟨_, rfl⟩
  rw [← hcc] at HCB ⊢
  clear hcc
  have g2 : (cc != cc) = false := by simp
  go_wp2_with fail
  refine HCB.out.mono ?_
  rintro e w5 ⟨rfl, hb5⟩
  have HI5 := Lib.hid (HI3'.out.below hb5)
  have HB5 := Lib.hid (HB4.out.trans (hb5.mono HB4.out.size))
  clear hb5 HI3'
  go_wp2_with fail
  refine (HC.out _).mono ?_
  rintro e w6 ⟨rfl, hb6⟩
  have HI6 := Lib.hid (HI5.out.below hb6)
  have HB6 := Lib.hid (HB5.out.trans (hb6.mono HB5.out.size))
  clear hb6 HI5
  rcases HS.out with ⟨hea, hd3⟩ | ⟨hea, hd3, hN, hE3⟩
  · subst hea hd3
    go_wp2_with fail
    refine (awake_any _).mono ?_
    rintro e w9 ⟨rfl, hb9⟩
    have HB9 := Lib.hid (HB6.out.trans (hb9.mono HB6.out.size))
    clear hb9
    go_wp2
    go_ret
    exact ⟨rfl, HB9.out⟩
  · subst hea hd3 hN
    by_cases hn : n = 0
    · rw [if_pos hn] at hE3
      subst hn hE3
      go_wp2_with fail
      refine (awake_any _).mono ?_
      rintro e w9 ⟨rfl, hb9⟩
      have HB9 := Lib.hid (HB6.out.trans (hb9.mono HB6.out.size))
      clear hb9
      go_wp2
      go_ret
      exact ⟨rfl, HB9.out⟩
    · rw [if_neg hn] at hE3
      subst hE3
      rcases HI6.out.2 with h0 | ⟨b3, o3, rfl, hlt3, hc3⟩
      · cases h0
      have hat := hc3 0 _ rfl
      have q0 := aggAt_get (j := 0) hat.1 (by decide)
      have q1 := aggAt_get (j := 1) hat.1 (by decide)
      have q2 := aggAt_get (j := 2) hat.1 (by decide)
      rw [hat.2] at q0 q1 q2
      have r0 : w6.cell? ⟨b3, o3, none⟩ = some (.int .i64 (n : Int)) := by simpa [edR, edB] using q0
      have r1 : w6.cell? ⟨b3, o3 + 1, none⟩ = some (.int .i64 0) := by simpa [edR, edB] using q1
      have r2 : w6.cell? ⟨b3, o3 + 2, none⟩ = some (.string ⟨#[]⟩) := by simpa [edR, edB] using q2
      have g3 : ((n : Int) == 0) = false := beq_eq_false_iff_ne.2 (by omega)
      clear hc3 hat q0 q1 q2
      go_wp2_with fail
      refine (awake_any _).mono ?_
      rintro e w9 ⟨rfl, hb9⟩
      have HB9 := Lib.hid (HB6.out.trans (hb9.mono HB6.out.size))
      clear hb9
      go_wp2
      go_ret
      exact ⟨rfl, HB9.out⟩
theorem myersTurned_walk (a : ByteArray) (ha : a.size ≤ maxLen) (b : ByteArray) (hb : b.size ≤ maxLen) (w : World) : Calls Try.prog 5 #[.string a, .string b] w fun e w' => e = .returned (.bool true) ∧ Below w.heap.size w w' := turned_any a b ha hb w
end Go.Proofs.Ytipoifokcnbfnaa
