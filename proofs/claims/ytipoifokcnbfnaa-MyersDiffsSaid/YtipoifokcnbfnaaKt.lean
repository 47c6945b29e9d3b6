/- The reference's Diff, whatever the bytes; the walk of MyersDiffs. -/
import Derived.Test.YtipoifokcnbfnaaKu
import Derived.Test.YtipoifokcnbfnaaKp
namespace Go.Proofs.Ytipoifokcnbfnaa
open Go.RowKit
set_option linter.unusedVariables false

theorem rdiff_all (a b : ByteArray) (ha : a.size ≤ 4096) (hb : b.size ≤ 4096) (w : World) :
    Calls Try.prog 14 #[.string a, .string b] w fun e w' => ∃ p c, e = .returned (.tuple #[.slice p (dE a b).length c, .int .i64 (dC a b)]) ∧ edR.In w' p (dE a b) ∧ Below w.heap.size w w' := by
  by_cases h : chkE a.data.toList = 0 ∧ chkE b.data.toList = 0
  · refine (rdiff_any a b ha hb w h.1 h.2).mono ?_
    rintro e w' ⟨v, rfl, hr, hb⟩
    obtain ⟨p, c, rfl, _, _, hin, _⟩ := hr.sl
    unfold dE dC
    rw [if_pos h, if_pos h]
    exact ⟨p, c, rfl, hin, hb⟩
  · refine (rdiff_bad a b ha hb w (by
      rcases chkE_cases a.data.toList with h1 | h1
      · rcases chkE_cases b.data.toList with h2 | h2
        · exact absurd ⟨h1, h2⟩ h
        · exact .inr h2
      · exact .inl h1)).mono ?_
    rintro e w' ⟨rfl, hb⟩
    unfold dE dC
    rw [if_neg h, if_neg h]
    exact ⟨none, 0, rfl, ⟨(fun _ h => by cases h), .inl rfl⟩, hb⟩
set_option maxHeartbeats 4000000 in
set_option maxRecDepth 100000 in
theorem diffs_any (a b : ByteArray) (hsa : a.size ≤ maxLen) (hsb : b.size ≤ maxLen) (w : World) : Calls Try.prog 4 #[.string a, .string b] w fun e w' => e = .returned (.bool true) ∧ Below w.heap.size w w' := by
  by_cases h1 : 300 < a.size
  · go_enter Try.func4, Try.ntmps4
    go_wp2
    go_ret
    exact ⟨rfl, Below.refl _ _⟩
  by_cases h2 : 300 < b.size
  · go_enter Try.func4, Try.ntmps4
    go_wp2
    go_ret
    exact ⟨rfl, Below.refl _ _⟩
  have HD1 := Lib.hid (fun w => diff_all a b (by omega) (by omega) w)
  have HD2 := Lib.hid (fun w => rdiff_all a b (by omega) (by omega) w)
  have HL := Lib.hid (dE_light a b (by omega) (by omega)).2
  obtain ⟨E, hE⟩ : ∃ E, E = dE a b := ⟨_, rfl⟩
  obtain ⟨d, hd⟩ : ∃ d, d = dC a b := ⟨_, rfl⟩
  rw [← hE, ← hd] at HD1 HD2
  rw [← hE] at HL
  clear hE hd
  go_enter Try.func4, Try.ntmps4
  go_wp2_with fail
  refine (HD1.out _).mono ?_
  rintro e w1 ⟨p1, c1, rfl, hi1, hb1⟩
  have HI1 := Lib.hid hi1
  have HB1 := Lib.hid hb1
  clear hi1 hb1
  go_wp2_with fail
  refine (HD2.out _).mono ?_
  rintro e w2 ⟨p2, c2, rfl, hi2, hb2⟩
  have HI1' := Lib.hid (HI1.out.below hb2)
  have HB2 := Lib.hid (HB1.out.trans (hb2.mono HB1.out.size))
  have HS := Lib.hid (same_any p1 p2 c1 c2 E E w2 (by have := HL.out; omega) (by have := HL.out; omega) HI1'.out hi2)
  clear hi2 hb2 HI1
  have g1 : (d == d) = true := by simp
  go_wp2_with fail
  refine HS.out.mono ?_
  rintro e w3 ⟨rfl, hb3⟩
  have HB3 := Lib.hid (HB2.out.trans (hb3.mono HB2.out.size))
  clear hb3
  have g2 : decide (E = E) = true := by simp
  go_wp2_with fail
  refine (awake_any _).mono ?_
  rintro e w9 ⟨rfl, hb9⟩
  have HB9 := Lib.hid (HB3.out.trans (hb9.mono HB3.out.size))
  clear hb9
  go_wp2
  go_ret
  exact ⟨rfl, HB9.out⟩
theorem myersDiffs_walk (a : ByteArray) (ha : a.size ≤ maxLen) (b : ByteArray) (hb : b.size ≤ maxLen) (w : World) : Calls Try.prog 4 #[.string a, .string b] w fun e w' => e = .returned (.bool true) ∧ Below w.heap.size w w' := diffs_any a b ha hb w
end Go.Proofs.Ytipoifokcnbfnaa
