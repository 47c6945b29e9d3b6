/- Floats: what the operations give; rank, Order, the reference's Order. -/
import Derived.Test.YtkapidcgonjbaaaProg
import Derived.Test.YtkapidcgonjbaaaBase
import Derived.Test.YtkapidcgonjbaaaFl
namespace Go.Proofs.Ytkapidcgonjbaaa
open Go.RowKit
set_option linter.unusedVariables false

@[go_sem ↓] theorem run_flt (t : TypeId) (x y : Nat) (w : World) : (binOp .lss t (.float .f64 x) (.float .f64 y)).run Try.prog w = .ok (.bool (fLt x y)) w := rfl
@[go_sem ↓] theorem run_feq (t : TypeId) (x y : Nat) (w : World) : (binOp .eql t (.float .f64 x) (.float .f64 y)).run Try.prog w = .ok (.bool (fEq x y)) w := rfl
@[go_sem ↓] theorem run_fne (t : TypeId) (x y : Nat) (w : World) : (binOp .neq t (.float .f64 x) (.float .f64 y)).run Try.prog w = .ok (.bool (!fEq x y)) w := rfl

@[go_sem ↓] theorem call43 (x : Nat) (w : World) : (callFunc 43 #[.float .f64 x]).run Try.prog w = .ok (.value (.int .u64 (x : Int))) w := by
  rw [run_callFunc_extern Try.func43 (by kernel_rfl) (by kernel_rfl) (by kernel_rfl) (e := Extern.MathFloatBits.float64bits) (by kernel_rfl)]
  rfl
@[go_sem ↓] theorem call44 (x : Int) (w : World) : (callFunc 44 #[.int .u64 x]).run Try.prog w = .ok (.value (.float .f64 x.toNat)) w := by
  rw [run_callFunc_extern Try.func44 (by kernel_rfl) (by kernel_rfl) (by kernel_rfl) (e := Extern.MathFloatBits.float64frombits) (by kernel_rfl)]
  rfl

def cmpInt (a b : Int) : Int := if a < b then -1 else if b < a then 1 else 0
/-- The order of numbers. -/
def fOrd (x y : Nat) : Int := cmpInt (rk x) (rk y)

theorem rnan_any (x : Nat) (w : World) : Calls Try.prog 34 #[.float .f64 x] w fun e w' => e = .returned (.bool (isN x)) ∧ w = w' := by
  have h : (!fEq x x) = isN x := by rw [fEq_self]; simp
  go_enter Try.func34, Try.ntmps34
  go_wp2
  go_ret
  exact ⟨ret_bool h, rfl⟩
theorem isNaN_any (x : Nat) (w : World) : Calls Try.prog 22 #[.float .f64 x] w fun e w' => e = .returned (.bool (isN x)) ∧ w = w' := by
  have h : (!fEq x x) = isN x := by rw [fEq_self]; simp
  go_enter Try.func22, Try.ntmps22
  go_wp2
  go_ret
  exact ⟨ret_bool h, rfl⟩
theorem cNaN64 (a : Int) (w : World) : Calls Try.prog 50 #[.int .i64 a] w fun e w' => e = .returned (.bool false) ∧ w = w' := by
  go_enter Try.func50, Try.ntmps50
  go_wp2
  go_ret
  exact ⟨ret_bool (by simp), rfl⟩
theorem cNaN (a : Int) (w : World) : Calls Try.prog 53 #[.int .i64 a] w fun e w' => e = .returned (.bool false) ∧ w = w' := by
  go_enter Try.func53, Try.ntmps53
  go_wp2
  go_ret
  exact ⟨ret_bool (by simp), rfl⟩
set_option maxHeartbeats 400000 in
theorem cmp64 (a b : Int) (w : World) : Calls Try.prog 37 #[.int .i64 a, .int .i64 b] w fun e w' => e = .returned (.int .i64 (cmpInt a b)) ∧ w = w' := by
  unfold cmpInt
  by_cases h1 : a < b
  · rw [if_pos h1]
    go_enter Try.func37, Try.ntmps37
    go_wp2_with fail
    refine (cNaN64 a _).mono ?_
    rintro e w1 ⟨rfl, rfl⟩
    go_wp2_with fail
    refine (cNaN64 b _).mono ?_
    rintro e w1 ⟨rfl, rfl⟩
    go_wp2
    go_ret
    exact ⟨rfl, rfl⟩
  · rw [if_neg h1]
    by_cases h2 : b < a
    · rw [if_pos h2]
      go_enter Try.func37, Try.ntmps37
      go_wp2_with fail
      refine (cNaN64 a _).mono ?_
      rintro e w1 ⟨rfl, rfl⟩
      go_wp2_with fail
      refine (cNaN64 b _).mono ?_
      rintro e w1 ⟨rfl, rfl⟩
      go_wp2
      go_ret
      exact ⟨rfl, rfl⟩
    · rw [if_neg h2]
      go_enter Try.func37, Try.ntmps37
      go_wp2_with fail
      refine (cNaN64 a _).mono ?_
      rintro e w1 ⟨rfl, rfl⟩
      go_wp2_with fail
      refine (cNaN64 b _).mono ?_
      rintro e w1 ⟨rfl, rfl⟩
      go_wp2
      go_ret
      exact ⟨rfl, rfl⟩
set_option maxHeartbeats 400000 in
theorem cmpI (a b : Int) (w : World) : Calls Try.prog 42 #[.int .i64 a, .int .i64 b] w fun e w' => e = .returned (.int .i64 (cmpInt a b)) ∧ w = w' := by
  unfold cmpInt
  by_cases h1 : a < b
  · rw [if_pos h1]
    go_enter Try.func42, Try.ntmps42
    go_wp2_with fail
    refine (cNaN a _).mono ?_
    rintro e w1 ⟨rfl, rfl⟩
    go_wp2_with fail
    refine (cNaN b _).mono ?_
    rintro e w1 ⟨rfl, rfl⟩
    go_wp2
    go_ret
    exact ⟨rfl, rfl⟩
  · rw [if_neg h1]
    by_cases h2 : b < a
    · rw [if_pos h2]
      go_enter Try.func42, Try.ntmps42
      go_wp2_with fail
      refine (cNaN a _).mono ?_
      rintro e w1 ⟨rfl, rfl⟩
      go_wp2_with fail
      refine (cNaN b _).mono ?_
      rintro e w1 ⟨rfl, rfl⟩
      go_wp2
      go_ret
      exact ⟨rfl, rfl⟩
    · rw [if_neg h2]
      go_enter Try.func42, Try.ntmps42
      go_wp2_with fail
      refine (cNaN a _).mono ?_
      rintro e w1 ⟨rfl, rfl⟩
      go_wp2_with fail
      refine (cNaN b _).mono ?_
      rintro e w1 ⟨rfl, rfl⟩
      go_wp2
      go_ret
      exact ⟨rfl, rfl⟩

theorem rank_nan (x : Nat) (hn : isN x = true) (w : World) : Calls Try.prog 38 #[.float .f64 x] w fun e w' => e = .returned (.int .i64 (rk x)) ∧ w = w' := by
  have h : rk x = 9223372036854775807 := by unfold rk; rw [if_pos hn]
  have HN := Lib.hid hn
  have H := Lib.hid h
  clear hn h
  go_enter Try.func38, Try.ntmps38
  go_wp2_with fail
  refine (isNaN_any x _).mono ?_
  rintro e w1 ⟨rfl, rfl⟩
  rw [HN.out]
  go_wp2
  go_ret
  exact ⟨ret_i H.out.symm, rfl⟩
theorem rank_num (x : Nat) (hn : isN x = false) (hx : x < 18446744073709551616) (w : World) : Calls Try.prog 38 #[.float .f64 x] w fun e w' => e = .returned (.int .i64 (rk x)) ∧ w = w' := by
  have h : rk x = if sgn x then -(rung x : Int) - 1 else rung x := by unfold rk; rw [if_neg (by rw [hn]; decide)]
  have hb := bits_eq x hx
  have hr := rung_lt x
  have HN := Lib.hid hn
  by_cases hs : sgn x
  · rw [if_pos hs] at h hb
    have hv : rk x = 9223372036854775807 - (x : Int) := by omega
    have hw : IntKind.i64.wrap (x : Int) = (x : Int) - 18446744073709551616 := by rw [IntKind.wrap_i64]; omega
    have h1 : 9223372036854775808 ≤ x := by omega
    have h2 : ((x : Int) - 18446744073709551616 < 0) := by omega
    have H := Lib.hid hv
    clear hn h hv hb hs
    generalize rk x = R at *
    go_enter Try.func38, Try.ntmps38
    go_wp2_with fail
    refine (isNaN_any x _).mono ?_
    rintro e w1 ⟨rfl, rfl⟩
    rw [HN.out]
    go_wp2
    go_ret
    exact ⟨ret_i (by have := H.out; omega), rfl⟩
  · rw [if_neg hs] at h hb
    have hv : rk x = (x : Int) := by omega
    have hw : IntKind.i64.wrap (x : Int) = (x : Int) := by rw [IntKind.wrap_i64]; omega
    have h1 : x < 9223372036854775808 := by omega
    have H := Lib.hid hv
    clear hn h hv hb hs
    generalize rk x = R at *
    go_enter Try.func38, Try.ntmps38
    go_wp2_with fail
    refine (isNaN_any x _).mono ?_
    rintro e w1 ⟨rfl, rfl⟩
    rw [HN.out]
    go_wp2
    go_ret
    exact ⟨ret_i (by have := H.out; omega), rfl⟩
theorem rank_any (x : Nat) (hx : x < 18446744073709551616) (w : World) : Calls Try.prog 38 #[.float .f64 x] w fun e w' => e = .returned (.int .i64 (rk x)) ∧ w = w' := by
  cases h : isN x
  · exact rank_num x h hx w
  · exact rank_nan x h w
theorem order_any (x y : Nat) (hx : x < 18446744073709551616) (hy : y < 18446744073709551616) (w : World) : Calls Try.prog 17 #[.float .f64 x, .float .f64 y] w fun e w' => e = .returned (.int .i64 (fOrd x y)) ∧ w = w' := by
  unfold fOrd
  have HX := Lib.hid hx
  have HY := Lib.hid hy
  clear hx hy
  go_enter Try.func17, Try.ntmps17
  go_wp2_with fail
  refine (rank_any x HX.out _).mono ?_
  rintro e w1 ⟨rfl, rfl⟩
  go_wp2_with fail
  refine (rank_any y HY.out _).mono ?_
  rintro e w1 ⟨rfl, rfl⟩
  go_wp2_with fail
  refine (cmp64 (rk x) (rk y) _).mono ?_
  rintro e w1 ⟨rfl, rfl⟩
  go_wp2
  go_ret
  exact ⟨rfl, rfl⟩

theorem nz (x : Nat) : ((x : Int) != 0) = decide (x ≠ 0) := by
  rw [Bool.eq_iff_iff, bne_iff_ne, decide_eq_true_eq]; omega
theorem ez (x : Nat) : ((x : Int) == 0) = decide (x = 0) := by
  rw [Bool.eq_iff_iff, beq_iff_eq, decide_eq_true_eq]; omega
theorem nzn (x : Nat) : (x != 0) = decide (x ≠ 0) := by
  rw [Bool.eq_iff_iff, bne_iff_ne, decide_eq_true_eq]
theorem ezn (x : Nat) : (x == 0) = decide (x = 0) := by
  rw [Bool.eq_iff_iff, beq_iff_eq, decide_eq_true_eq]
theorem zero_bits : isN 0 = false := by decide
set_option maxHeartbeats 800000 in
set_option maxRecDepth 100000 in
theorem below_any (x y : Nat) (w : World) : Calls Try.prog 35 #[.float .f64 x, .float .f64 y] w fun e w' => e = .returned (.bool (fBelow x y)) ∧ w = w' := by
  obtain ⟨p, hp⟩ : ∃ p, (FloatKind.f64.format.order x y == some Ordering.lt) = p := ⟨_, rfl⟩
  obtain ⟨q, hq⟩ : ∃ q, (FloatKind.f64.format.order x 0 == some Ordering.eq) = q := ⟨_, rfl⟩
  obtain ⟨r, hr⟩ : ∃ r, (FloatKind.f64.format.order y 0 == some Ordering.eq) = r := ⟨_, rfl⟩
  obtain ⟨s, hs⟩ : ∃ s : Bool, ((x : Int) != 0) = s := ⟨_, rfl⟩
  obtain ⟨t, ht⟩ : ∃ t : Bool, ((y : Int) == 0) = t := ⟨_, rfl⟩
  obtain ⟨s', hs'⟩ : ∃ s : Bool, (x != 0) = s := ⟨_, rfl⟩
  obtain ⟨t', ht'⟩ : ∃ t : Bool, (y == 0) = t := ⟨_, rfl⟩
  have H := Lib.hid (show fBelow x y = (p || (q && (r && (s && t)))) by
    unfold fBelow
    rw [show fLt x y = p from hp, show fEq x 0 = q from hq, show fEq y 0 = r from hr, ← hs, ← ht]
    rw [show ((x : Int) != 0) = decide (x ≠ 0) from nz x, show ((y : Int) == 0) = decide (y = 0) from ez y])
  have e1 : s' = s := by rw [← hs, ← hs', nz x, nzn x]
  have e2 : t' = t := by rw [← ht, ← ht', ez y, ezn y]
  subst e1 e2
  generalize fBelow x y = R at *
  cases p with
  | true =>
    go_enter Try.func35, Try.ntmps35
    go_wp2
    go_ret
    exact ⟨ret_bool (by rw [H.out]; rfl), rfl⟩
  | false =>
    cases q with
    | false =>
      go_enter Try.func35, Try.ntmps35
      go_wp2
      go_ret
      exact ⟨ret_bool (by rw [H.out]; rfl), rfl⟩
    | true =>
      cases r with
      | false =>
        go_enter Try.func35, Try.ntmps35
        go_wp2
        go_ret
        exact ⟨ret_bool (by rw [H.out]; rfl), rfl⟩
      | true =>
        cases s' with
        | false =>
          go_enter Try.func35, Try.ntmps35
          go_wp2
          go_ret
          exact ⟨ret_bool (by rw [H.out]; rfl), rfl⟩
        | true =>
          cases t' with
          | false =>
            go_enter Try.func35, Try.ntmps35
            go_wp2
            go_ret
            exact ⟨ret_bool (by rw [H.out]; rfl), rfl⟩
          | true =>
            go_enter Try.func35, Try.ntmps35
            go_wp2
            go_ret
            exact ⟨ret_bool (by rw [H.out]; rfl), rfl⟩

/-- The reference's Order tells the same. -/
theorem fOrd_eq (x y : Nat) (hx : x < 18446744073709551616) (hy : y < 18446744073709551616) :
    fOrd x y = if isN x = true then (if isN y = true then 0 else 1) else if isN y = true then -1 else if fBelow x y = true then -1 else if fBelow y x = true then 1 else 0 := by
  have rx := rung_lt x
  have ry := rung_lt y
  have hN : ∀ b, isN b = false → rk b < 9223372036854775807 := fun b h => by
    unfold rk isN at *
    rw [if_neg (by rw [h]; decide)]
    have h' : rung b ≤ 9218868437227405312 := by simpa using h
    split <;> omega
  cases h1 : isN x <;> cases h2 : isN y
  · rw [fBelow_eq x y hx hy h1 h2, fBelow_eq y x hy hx h2 h1]
    unfold fOrd cmpInt
    simp only [Bool.false_eq_true, if_false, decide_eq_true_eq]
  · have := hN x h1
    have e : rk y = 9223372036854775807 := by unfold rk; rw [if_pos h2]
    unfold fOrd cmpInt
    simp only [Bool.false_eq_true, if_false, if_true]
    rw [if_pos (by omega)]
  · have := hN y h2
    have e : rk x = 9223372036854775807 := by unfold rk; rw [if_pos h1]
    unfold fOrd cmpInt
    simp only [Bool.false_eq_true, if_false, if_true]
    rw [if_neg (by omega), if_pos (by omega)]
  · have e : rk y = 9223372036854775807 := by unfold rk; rw [if_pos h2]
    have e' : rk x = 9223372036854775807 := by unfold rk; rw [if_pos h1]
    unfold fOrd cmpInt
    simp only [if_true]
    rw [if_neg (by omega), if_neg (by omega)]

set_option maxHeartbeats 800000 in
set_option maxRecDepth 100000 in
theorem rorder_any (x y : Nat) (hx : x < 18446744073709551616) (hy : y < 18446744073709551616) (w : World) : Calls Try.prog 11 #[.float .f64 x, .float .f64 y] w fun e w' => e = .returned (.int .i64 (fOrd x y)) ∧ w = w' := by
  have H := Lib.hid (fOrd_eq x y hx hy)
  clear hx hy
  generalize fOrd x y = R at *
  cases h1 : isN x <;> cases h2 : isN y
  all_goals
    have H1 := Lib.hid h1
    have H2 := Lib.hid h2
    clear h1 h2
    go_enter Try.func11, Try.ntmps11
    go_wp2_with fail
    refine (rnan_any x _).mono ?_
    rintro e w1 ⟨rfl, rfl⟩
    rw [H1.out]
    go_wp2_with fail
  · refine (rnan_any x _).mono ?_
    rintro e w1 ⟨rfl, rfl⟩
    rw [H1.out]
    go_wp2_with fail
    refine (rnan_any y _).mono ?_
    rintro e w1 ⟨rfl, rfl⟩
    rw [H2.out]
    go_wp2_with fail
    refine (below_any x y _).mono ?_
    rintro e w1 ⟨rfl, rfl⟩
    cases h3 : fBelow x y with
    | true =>
      have H3 := Lib.hid h3
      clear h3
      go_wp2
      go_ret
      exact ⟨ret_i (by rw [H.out, H1.out, H2.out, H3.out]; rfl), rfl⟩
    | false =>
      have H3 := Lib.hid h3
      clear h3
      go_wp2_with fail
      refine (below_any y x _).mono ?_
      rintro e w1 ⟨rfl, rfl⟩
      cases h4 : fBelow y x with
      | true =>
        have H4 := Lib.hid h4
        clear h4
        go_wp2
        go_ret
        exact ⟨ret_i (by rw [H.out, H1.out, H2.out, H3.out, H4.out]; rfl), rfl⟩
      | false =>
        have H4 := Lib.hid h4
        clear h4
        go_wp2
        go_ret
        exact ⟨ret_i (by rw [H.out, H1.out, H2.out, H3.out, H4.out]; rfl), rfl⟩
  · refine (rnan_any x _).mono ?_
    rintro e w1 ⟨rfl, rfl⟩
    rw [H1.out]
    go_wp2_with fail
    refine (rnan_any y _).mono ?_
    rintro e w1 ⟨rfl, rfl⟩
    rw [H2.out]
    go_wp2
    go_ret
    exact ⟨ret_i (by rw [H.out, H1.out, H2.out]; rfl), rfl⟩
  · refine (rnan_any y _).mono ?_
    rintro e w1 ⟨rfl, rfl⟩
    rw [H2.out]
    go_wp2_with fail
    refine (rnan_any x _).mono ?_
    rintro e w1 ⟨rfl, rfl⟩
    rw [H1.out]
    go_wp2
    go_ret
    exact ⟨ret_i (by rw [H.out, H1.out, H2.out]; rfl), rfl⟩
  · refine (rnan_any y _).mono ?_
    rintro e w1 ⟨rfl, rfl⟩
    rw [H2.out]
    go_wp2
    go_ret
    exact ⟨ret_i (by rw [H.out, H1.out, H2.out]; rfl), rfl⟩

end Go.Proofs.Ytkapidcgonjbaaa
