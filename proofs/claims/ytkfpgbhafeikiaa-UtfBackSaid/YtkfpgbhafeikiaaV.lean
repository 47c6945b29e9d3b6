/- Walk of the reference's Cut. -/
import Derived.Test.YtkfpgbhafeikiaaU
import Derived.Test.YtkfpgbhafeikiaaLc
namespace Go.Proofs.Ytkfpgbhafeikiaa
open Go.RowKit
set_option linter.unusedVariables false

theorem good_all {rs : List Int} (h : Good rs) : allMay rs = true := by
  unfold allMay; rw [List.all_eq_true]; exact h

theorem rcut_sub {s : ByteArray} (ht : isText s.data.toList = true) {a b : Nat} (hab : a ≤ b) (hb : b ≤ (parse s.data.toList).1.length) :
    textL (((parse s.data.toList).1.drop a).take (b - a)) = cutL s.data.toList a b ∧ textE (((parse s.data.toList).1.drop a).take (b - a)) = 0 := by
  have g := (((parse_parsed s.data.toList).good.drop a).take (b - a))
  have h := good_all g
  unfold textL textE
  rw [h]
  refine ⟨?_, rfl⟩
  unfold cutL
  rw [ht, if_pos rfl, if_pos rfl, if_pos (by omega)]
  congr 2
  omega

theorem row_ints {w : World} {base g cap n : Nat} {xs : List Int} (h : w.ownsRow base 21 1 (.slice (some ⟨g, 0, none⟩) n cap) n (xs.map (Value.int .i32))) :
    xs.length = n ∧ n ≤ cap ∧ cap ≤ maxLen ∧ g < w.heap.size ∧ ∀ i, i < xs.length → w.cell? ⟨g, i, none⟩ = some (.int .i32 (xs.getD i 0)) := by
  obtain ⟨h1, h2⟩ := h
  simp only [List.length_map, Nat.mul_one] at h1
  rcases h2 with ⟨h2, _⟩ | ⟨g', cap', cur, hv, hg, hh, hn, hcm, hsz, htake⟩
  · cases h2
  · cases hv
    refine ⟨h1, hn, hcm, (Array.getElem?_eq_some_iff.1 hh).1, fun i hi => ?_⟩
    rw [Lib.cell_of_heap hh i]
    have e : cur[i]? = (xs.map (Value.int .i32))[i]? := by
      rw [← htake, List.getElem?_take_of_lt (by omega)]; simp
    rw [e]; simp [hi]

set_option maxHeartbeats 1000000 in
set_option maxRecDepth 100000 in
theorem rcut_good (s : ByteArray) (hs : s.size ≤ maxLen) (hreach : s.size ≤ 1000000) (a b : Nat) (ht : isText s.data.toList = true) (hab : a ≤ b) (hb : b ≤ (parse s.data.toList).1.length) (w : World) :
    Calls Try.prog 16 #[.string s, .int .i64 a, .int .i64 b] w fun e w' => e = .returned (.tuple #[.string ⟨(cutL s.data.toList a b).toArray⟩, .int .i64 0]) ∧ Below w.heap.size w w' := by
  have hS := Lib.hid hs
  unfold maxLen at hs
  have HE := Lib.hid (chkE_yes ht)
  have HR := Lib.hid (show runesL s.data.toList = (parse s.data.toList).1 by unfold runesL; rw [ht]; rfl)
  have HA := Lib.hid (show chkAt s.data.toList = 0 by unfold chkAt; rw [ht]; rfl)
  have hN : (parse s.data.toList).1.length ≤ s.size := by
    have h1 := congrArg List.length (isText_iff.1 ht)
    have := encs_len (parse s.data.toList).1
    simp at h1
    omega
  have HS := Lib.hid (@rcut_sub s ht a b hab hb)
  clear ht
  generalize (parse s.data.toList).1 = all at *
  go_enter Try.func16, Try.ntmps16
  go_wp2_with fail
  refine (rrunes_any s hS.out (by omega) _).mono ?_
  rintro e w1 ⟨v, rfl, hown, hbw⟩
  rw [HE.out, HA.out]
  rw [HR.out] at hown
  have hsz := hbw.size
  rcases hown.2 with ⟨rfl, h0⟩ | ⟨g, cap, cur, rfl, hg, hh, hr⟩
  · have e1 : b = 0 := by omega
    have e2 : a = 0 := by omega
    subst e1 e2
    go_wp2_with fail
    have hx := HS.out
    refine (rtext_any none 0 [] _ (by simp) (.inl rfl)).mono ?_
    rintro e w2 ⟨rfl, hb2⟩
    simp only [Nat.sub_self, List.take_zero] at hx
    rw [hx.1, hx.2]
    go_wp2
    go_ret2
    exact ⟨rfl, hbw.trans (hb2.mono hsz)⟩
  · obtain ⟨hl, hnc, hcm, hlt, hcell⟩ := row_ints hown
    have hsl : ((all.drop a).take (b - a)).length = b - a := by simp; omega
    have hint : IntsIn .i32 w1 (some ⟨g, a, none⟩) ((all.drop a).take (b - a)) := by
      refine .inr ⟨g, a, rfl, hlt, fun i hi => ?_⟩
      rw [hsl] at hi
      rw [hcell (a + i) (by omega)]
      congr 2
      simp [hi]
    have hct := rtext_any (some ⟨g, a, none⟩) (cap - a) ((all.drop a).take (b - a)) w1 (by rw [hsl]; omega) hint
    rw [hsl, HS.out.1, HS.out.2] at hct
    have HCT := Lib.hid hct
    unfold maxLen at hcm
    clear hown hh hr hsl hint hct hcell
    by_cases hac : a < cap
    · go_wp2_with fail
      refine HCT.out.mono ?_
      rintro e w2 ⟨rfl, hb2⟩
      go_wp2
      go_ret2
      exact ⟨rfl, hbw.trans (hb2.mono hsz)⟩
    · have e1 : b = a := by omega
      have e2 : cap = a := by omega
      subst e1 e2
      have hx := HS.out
      simp only [Nat.sub_self, List.take_zero] at hx
      have HX := Lib.hid hx
      clear hx HCT
      go_wp2_with fail
      refine (rtext_any _ _ [] _ (by simp) (.inl rfl)).mono ?_
      rintro e w2 ⟨rfl, hb2⟩
      rw [HX.out.1, HX.out.2]
      go_wp2
      go_ret2
      exact ⟨rfl, hbw.trans (hb2.mono hsz)⟩

set_option maxHeartbeats 400000 in
set_option maxRecDepth 100000 in
theorem rcut_any (s : ByteArray) (a b : Int) (hs : s.size ≤ maxLen) (hreach : s.size ≤ 1000000) (w : World) :
    Calls Try.prog 16 #[.string s, .int .i64 a, .int .i64 b] w fun e w' => e = .returned (.tuple #[.string ⟨(cutL s.data.toList a b).toArray⟩, .int .i64 (cutE s.data.toList a b)]) ∧ Below w.heap.size w w' := by
  have hS := Lib.hid hs
  unfold maxLen at hs
  cases ht : isText s.data.toList with
  | false =>
    have HE := Lib.hid (chkE_no ht)
    have hl : cutL s.data.toList a b = [] := by simp [cutL, ht]
    have hc : cutE s.data.toList a b = 5 := by simp [cutE, ht]
    rw [hl, hc]
    clear ht hl hc
    go_enter Try.func16, Try.ntmps16
    go_wp2_with fail
    refine (rrunes_any s hS.out (by omega) _).mono ?_
    rintro e w1 ⟨v, rfl, hown, hbw⟩
    rw [HE.out]
    go_wp2
    go_ret2
    exact ⟨rfl, hbw⟩
  | true =>
    by_cases hok : 0 ≤ a ∧ a ≤ b ∧ b ≤ (parse s.data.toList).1.length
    · obtain ⟨h0, h1, h2⟩ := hok
      have hc : cutE s.data.toList a b = 0 := by unfold cutE; rw [ht, if_pos rfl, if_pos ⟨h0, h1, h2⟩]
      rw [hc]
      obtain ⟨n, rfl⟩ := Int.eq_ofNat_of_zero_le h0
      obtain ⟨m, rfl⟩ := Int.eq_ofNat_of_zero_le (show 0 ≤ b by omega)
      exact rcut_good s hS.out hreach n m ht (by omega) (by omega) w
    · have HE := Lib.hid (chkE_yes ht)
      have HR := Lib.hid (show runesL s.data.toList = (parse s.data.toList).1 by unfold runesL; rw [ht]; rfl)
      have hN : (parse s.data.toList).1.length ≤ s.size := by
        have h1 := congrArg List.length (isText_iff.1 ht)
        have := encs_len (parse s.data.toList).1
        simp at h1
        omega
      have hl : cutL s.data.toList a b = [] := by unfold cutL; rw [ht, if_pos rfl, if_neg hok]
      have hc : cutE s.data.toList a b = 1 := by unfold cutE; rw [ht, if_pos rfl, if_neg hok]
      rw [hl, hc]
      clear ht hl hc
      generalize (parse s.data.toList).1 = all at *
      go_enter Try.func16, Try.ntmps16
      go_wp2_with fail
      refine (rrunes_any s hS.out (by omega) _).mono ?_
      rintro e w1 ⟨v, rfl, hown, hbw⟩
      rw [HE.out]
      rw [HR.out] at hown
      obtain ⟨ad, cap, rfl⟩ : ∃ ad cap, v = .slice ad all.length cap := by
        rcases hown.2 with ⟨hv, h0⟩ | ⟨g, cap, cur, hv, _⟩
        · exact ⟨none, 0, by rw [hv, h0]⟩
        · exact ⟨_, _, hv⟩
      clear hown
      by_cases h0 : a < 0
      · clear hok
        go_wp2
        go_ret2
        exact ⟨rfl, hbw⟩
      · by_cases h1 : b < a
        · clear hok
          go_wp2
          go_ret2
          exact ⟨rfl, hbw⟩
        · have h2 : (all.length : Int) < b := by omega
          clear hok
          go_wp2
          go_ret2
          exact ⟨rfl, hbw⟩

/-! ### The laws' walks -/

theorem beqL (x : ByteArray) : (x.toList == x.toList) = true := by simp

set_option maxHeartbeats 1000000 in
set_option maxRecDepth 100000 in
theorem utfCuts_walk (s : ByteArray) (hs : s.size ≤ maxLen) (a : Int) (ha : (Lit.int .i64 a).wf = true) (b : Int) (hb : (Lit.int .i64 b).wf = true) (w : World) :
    Calls Try.prog 4 #[.string s, .int .i64 a, .int .i64 b] w fun e w' => e = .returned (.bool true) ∧ Below w.heap.size w w' := by
  have hS := Lib.hid hs
  unfold maxLen at hs
  by_cases h1 : 5000 < s.size
  · go_enter Try.func4, Try.ntmps4
    go_wp2
    go_ret
    exact ⟨rfl, Below.refl _ _⟩
  · go_enter Try.func4, Try.ntmps4
    go_wp2_with fail
    refine (cut_any s a b hS.out _).mono ?_
    rintro e w1 ⟨rfl, hb1⟩
    go_wp2_with fail
    refine (rcut_any s a b hS.out (by omega) _).mono ?_
    rintro e w2 ⟨rfl, hb2⟩
    have hb12 := hb1.trans (hb2.mono hb1.size)
    have hsz := hb12.size
    clear hb1 hb2
    generalize (⟨(cutL s.data.toList a b).toArray⟩ : ByteArray) = x at *
    generalize cutE s.data.toList a b = y at *
    go_wp2_with fail
    refine (awake_any _).mono ?_
    rintro e w3 ⟨rfl, hb3⟩
    go_wp2
    go_ret
    exact ⟨rfl, hb12.trans (hb3.mono hsz)⟩

set_option maxHeartbeats 1000000 in
set_option maxRecDepth 100000 in
theorem utfDecodes_walk (s : ByteArray) (hs : s.size ≤ maxLen) (a : Int) (ha : (Lit.int .i64 a).wf = true) (w : World) :
    Calls Try.prog 7 #[.string s, .int .i64 a] w fun e w' => e = .returned (.bool true) ∧ Below w.heap.size w w' := by
  have hS := Lib.hid hs
  have hex : ∃ r n c : Int, (∀ w, Calls Try.prog 19 #[.string s, .int .i64 a] w fun e w' => e = .returned (.tuple #[.int .i32 r, .int .i64 n, .int .i64 c]) ∧ w = w') ∧
      (∀ w, Calls Try.prog 20 #[.string s, .int .i64 a] w fun e w' => e = .returned (.tuple #[.int .i32 r, .int .i64 n, .int .i64 c]) ∧ Below w.heap.size w w') := by
    by_cases h : 0 ≤ a ∧ a < s.size
    · cases hd : dec1 (s.data.toList.drop a.toNat) with
      | none => exact ⟨0, 0, 5, fun w => (Decode_any s a hs w).mono fun e w' ⟨he, hw⟩ => ⟨by rw [he, if_pos h, hd], hw⟩, fun w => (rDecode_any s a hs w).mono fun e w' ⟨he, hw⟩ => ⟨by rw [he, if_pos h, hd], hw⟩⟩
      | some rk => exact ⟨rk.1, a + rk.2, 0, fun w => (Decode_any s a hs w).mono fun e w' ⟨he, hw⟩ => ⟨by rw [he, if_pos h, hd], hw⟩, fun w => (rDecode_any s a hs w).mono fun e w' ⟨he, hw⟩ => ⟨by rw [he, if_pos h, hd], hw⟩⟩
    · exact ⟨0, 0, 1, fun w => (Decode_any s a hs w).mono fun e w' ⟨he, hw⟩ => ⟨by rw [he, if_neg h], hw⟩, fun w => (rDecode_any s a hs w).mono fun e w' ⟨he, hw⟩ => ⟨by rw [he, if_neg h], hw⟩⟩
  obtain ⟨r, n, c, h1, h2⟩ := hex
  have H1 := Lib.hid h1
  have H2 := Lib.hid h2
  clear h1 h2 hs
  go_enter Try.func7, Try.ntmps7
  go_wp2_with fail
  refine (H1.out _).mono ?_
  rintro e w1 ⟨rfl, rfl⟩
  go_wp2_with fail
  refine (H2.out _).mono ?_
  rintro e w2 ⟨rfl, hb2⟩
  have hsz := hb2.size
  go_wp2_with fail
  refine (awake_any _).mono ?_
  rintro e w3 ⟨rfl, hb3⟩
  go_wp2
  go_ret
  exact ⟨rfl, hb2.trans (hb3.mono hsz)⟩

end Go.Proofs.Ytkfpgbhafeikiaa
