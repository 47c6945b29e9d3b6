/- The walk of MyersBack. -/
import Derived.Test.YtipoifokcnbfnaaLb
namespace Go.Proofs.Ytipoifokcnbfnaa
open Go.RowKit
set_option linter.unusedVariables false

theorem dE_apply (a b : ByteArray) (h : dC a b = 0) : applyL a.data.toList (dE a b) = (b.data.toList, 0) := by
  unfold dC at h
  split at h
  · rename_i hh
    unfold dE
    rw [if_pos hh]
    exact apply_diff _ _ hh.1 hh.2
  · cases h
theorem dC_two (a b : ByteArray) : dC a b = 0 ∨ (dC a b = 5 ∧ dE a b = []) := by
  unfold dC dE
  split
  · exact .inl rfl
  · exact .inr ⟨rfl, rfl⟩
theorem bytes_list (b : ByteArray) : (⟨b.data.toList.toArray⟩ : ByteArray) = b := by
  apply ByteArray.ext; simp

set_option maxHeartbeats 4000000 in
set_option maxRecDepth 100000 in
theorem back_any (a b : ByteArray) (hsa : a.size ≤ maxLen) (hsb : b.size ≤ maxLen) (w : World) : Calls Try.prog 8 #[.string a, .string b] w fun e w' => e = .returned (.bool true) ∧ Below w.heap.size w w' := by
  by_cases h1 : 600 < a.size
  · go_enter Try.func8, Try.ntmps8
    go_wp2
    go_ret
    exact ⟨rfl, Below.refl _ _⟩
  by_cases h2 : 600 < b.size
  · go_enter Try.func8, Try.ntmps8
    go_wp2
    go_ret
    exact ⟨rfl, Below.refl _ _⟩
  have HD1 := Lib.hid (fun w => diff_all a b (by omega) (by omega) w)
  have HL1 := Lib.hid (dE_light a b (by omega) (by omega))
  have HAP := Lib.hid (dE_apply a b)
  have HT := Lib.hid (dC_two a b)
  have hAA := fun (E : List Ed) (hl : Light E) p c w hin => apply_any a (by omega) p c E w hl.1 (fun e he => (hl.2 e he).2) hin
  have HAA := Lib.hid hAA
  obtain ⟨E1, hE1⟩ : ∃ E, E = dE a b := ⟨_, rfl⟩
  obtain ⟨d1, hd1⟩ : ∃ d, d = dC a b := ⟨_, rfl⟩
  rw [← hE1] at HD1 HL1 HAP HT
  rw [← hd1] at HD1 HAP HT
  clear hE1 hd1 hAA
  go_enter Try.func8, Try.ntmps8
  go_wp2_with fail
  refine (HD1.out _).mono ?_
  rintro e w1 ⟨p1, c1, rfl, hi1, hb1⟩
  have HI1 := Lib.hid hi1
  have HB1 := Lib.hid hb1
  clear hi1 hb1
  rcases HT.out with h | ⟨h, hE⟩
  · subst h
    have HC := Lib.hid (HAA.out E1 HL1.out.1 p1 c1 w1 HI1.out)
    rw [HAP.out rfl] at HC
    simp only at HC
    go_wp2_with fail
    refine HC.out.mono ?_
    rintro e w2 ⟨rfl, hb2⟩
    have HB2 := Lib.hid (HB1.out.trans (hb2.mono HB1.out.size))
    clear hb2
    go_wp2_with fail
    refine (awake_any _).mono ?_
    rintro e w9 ⟨rfl, hb9⟩
    have HB9 := Lib.hid (HB2.out.trans (hb9.mono HB2.out.size))
    clear hb9
    go_wp2
    go_ret
    exact ⟨rfl, HB9.out⟩
  · subst h hE
    go_wp2_with fail
    refine (awake_any _).mono ?_
    rintro e w9 ⟨rfl, hb9⟩
    have HB9 := Lib.hid (HB1.out.trans (hb9.mono HB1.out.size))
    clear hb9
    go_wp2
    go_ret
    exact ⟨rfl, HB9.out⟩
theorem myersBack_walk (a : ByteArray) (ha : a.size ≤ maxLen) (b : ByteArray) (hb : b.size ≤ maxLen) (w : World) : Calls Try.prog 8 #[.string a, .string b] w fun e w' => e = .returned (.bool true) ∧ Below w.heap.size w w' := back_any a b ha hb w
end Go.Proofs.Ytipoifokcnbfnaa
