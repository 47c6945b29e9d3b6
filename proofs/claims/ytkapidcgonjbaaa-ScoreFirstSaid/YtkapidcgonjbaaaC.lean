/- Quotients and sums; NaN, Inf, Ratio, Like. -/
import Derived.Test.YtkapidcgonjbaaaA
namespace Go.Proofs.Ytkapidcgonjbaaa
open Go.RowKit
set_option linter.unusedVariables false

def asF : Value → Nat | .float .f64 b => b | _ => 0
def isF : Value → Bool | .float .f64 _ => true | _ => false
@[go_sem] theorem asF_f (b : Nat) : asF (.float .f64 b) = b := rfl
@[go_sem] theorem isF_f (b : Nat) : isF (.float .f64 b) = true := rfl
/-- Some bits of no number, as the tape says. -/
def nanV (x y : Nat) (w : World) : Nat := (Question.nanBits .f64 x y).cut (w.tape w.drawn (.nanBits .f64 x y))
def quoV (x y : Nat) (w : World) : Nat := match Ieee.double.div x y with | some r => r | none => nanV x y w
def quoN (x y : Nat) : Nat := match Ieee.double.div x y with | some _ => 0 | none => 1

@[go_sem] theorem run_quo0 (t : TypeId) (x y : Nat) (w : World) : (binOp .quo t (.float .f64 x) (.float .f64 y)).run Try.prog w = .ok (.float .f64 (quoV x y w)) (w.drewN (quoN x y)) := by
  unfold quoV quoN
  have h : FloatKind.f64.format.div x y = Ieee.double.div x y := rfl
  cases hd : Ieee.double.div x y with
  | some r => simp [binOp, Op.floatArith, h, hd, World.drewN_zero]
  | none =>
    simp [binOp, Op.floatArith, h, hd, nanV, Question.forced]
    rfl
theorem nan_bits (n m : Nat) (h1 : n < 2) (h2 : m < 4503599627370495) : isN (n * 9223372036854775808 + 9218868437227405312 + 1 + m) = true ∧ n * 9223372036854775808 + 9218868437227405312 + 1 + m < 18446744073709551616 := by
  unfold isN rung
  simp only [decide_eq_true_eq]
  have h3 : n = 0 ∨ n = 1 := by omega
  rcases h3 with rfl | rfl <;> constructor <;> omega
theorem nanV_nan (x y : Nat) (w : World) : isN (nanV x y w) = true ∧ nanV x y w < 18446744073709551616 :=
  nan_bits _ _ (Nat.mod_lt _ (by decide)) (Nat.mod_lt _ (by decide))
/-- b is the quotient of x and y; no number, where there is none. -/
def isQ (x y b : Nat) : Prop := b < 18446744073709551616 ∧ match Ieee.double.div x y with | some r => b = r | none => isN b = true
theorem quo_isQ (x y : Nat) (w : World) : isQ x y (quoV x y w) := by
  unfold isQ quoV
  cases hd : Ieee.double.div x y with
  | some r =>
    have := Ieee.Format.div_lt _ hd
    exact ⟨this, rfl⟩
  | none => exact ⟨(nanV_nan x y w).2, (nanV_nan x y w).1⟩
theorem isQ_ord {x y b c : Nat} (h1 : isQ x y b) (h2 : isQ x y c) : fOrd b c = 0 := by
  unfold isQ at *
  cases hd : Ieee.double.div x y with
  | some r =>
    rw [hd] at h1 h2
    rw [h1.2, h2.2]
    unfold fOrd cmpInt
    rw [if_neg (by omega), if_neg (by omega)]
  | none =>
    rw [hd] at h1 h2
    rw [fOrd_eq b c h1.1 h2.1]
    simp only at h1 h2
    rw [if_pos h1.2, if_pos h2.2]

set_option maxHeartbeats 1000000 in
theorem ratio_any (a b : Int) (w : World) : Calls Try.prog 12 #[.int .i64 a, .int .i64 b] w fun e w' => ∃ q n, e = .returned (.float .f64 q) ∧ isQ (floatOfInt .f64 a) (floatOfInt .f64 b) q ∧ w' = w.drewN n := by
  have H := Lib.hid (quo_isQ (floatOfInt .f64 a) (floatOfInt .f64 b) w)
  go_enter Try.func12, Try.ntmps12
  go_wp2
  go_ret
  exact ⟨_, _, rfl, H.out, rfl⟩
set_option maxHeartbeats 1000000 in
theorem rratio_any (a b : Int) (w : World) : Calls Try.prog 13 #[.int .i64 a, .int .i64 b] w fun e w' => ∃ q n, e = .returned (.float .f64 q) ∧ isQ (floatOfInt .f64 a) (floatOfInt .f64 b) q ∧ w' = w.drewN n := by
  have H := Lib.hid (quo_isQ (floatOfInt .f64 a) (floatOfInt .f64 b) w)
  go_enter Try.func13, Try.ntmps13
  go_wp2
  go_ret
  exact ⟨_, _, rfl, H.out, rfl⟩
theorem nan_any (w : World) : Calls Try.prog 24 #[] w fun e w' => e = .returned (.float .f64 9221120237041090561) ∧ w = w' := by
  go_enter Try.func24, Try.ntmps24
  go_wp2
  go_ret
  exact ⟨rfl, rfl⟩
theorem inf_any (w : World) : Calls Try.prog 36 #[.int .i64 1] w fun e w' => e = .returned (.float .f64 9218868437227405312) ∧ w = w' := by
  go_enter Try.func36, Try.ntmps36
  go_wp2
  go_ret
  exact ⟨rfl, rfl⟩

/-- Counts that may be. -/
def mayB (k : Int) : Bool := decide (0 ≤ k) && decide (k ≤ 1099511627776)
def likeQ (a b c : Int) (q : Nat) : Prop := if (mayB a && (mayB b && mayB c)) = true then isQ (floatOfInt .f64 (2 * a)) (floatOfInt .f64 (b + c)) q else q = 9221120237041090561

set_option maxHeartbeats 1000000 in
set_option maxRecDepth 100000 in
theorem rlike_any (a b c : Int) (w : World) : Calls Try.prog 15 #[.int .i64 a, .int .i64 b, .int .i64 c] w fun e w' => ∃ q n, e = .returned (.float .f64 q) ∧ likeQ a b c q ∧ w' = w.drewN n := by
  have done : (mayB a && (mayB b && mayB c)) = false → likeQ a b c 9221120237041090561 := fun h => by unfold likeQ; rw [if_neg (by rw [h]; decide)]
  by_cases h1 : a < 0
  · have HD := Lib.hid (done (by simp [mayB]; omega))
    clear done
    go_enter Try.func15, Try.ntmps15
    go_wp2_with fail
    refine (nan_any _).mono ?_
    rintro e w1 ⟨rfl, rfl⟩
    go_wp2
    go_ret
    exact ⟨_, 0, rfl, HD.out, rfl⟩
  by_cases h2 : b < 0
  · have HD := Lib.hid (done (by simp [mayB]; omega))
    clear done
    go_enter Try.func15, Try.ntmps15
    go_wp2_with fail
    refine (nan_any _).mono ?_
    rintro e w1 ⟨rfl, rfl⟩
    go_wp2
    go_ret
    exact ⟨_, 0, rfl, HD.out, rfl⟩
  by_cases h3 : c < 0
  · have HD := Lib.hid (done (by simp [mayB]; omega))
    clear done
    go_enter Try.func15, Try.ntmps15
    go_wp2_with fail
    refine (nan_any _).mono ?_
    rintro e w1 ⟨rfl, rfl⟩
    go_wp2
    go_ret
    exact ⟨_, 0, rfl, HD.out, rfl⟩
  by_cases h4 : 1099511627776 < a
  · have HD := Lib.hid (done (by simp [mayB]; omega))
    clear done
    go_enter Try.func15, Try.ntmps15
    go_wp2_with fail
    refine (nan_any _).mono ?_
    rintro e w1 ⟨rfl, rfl⟩
    go_wp2
    go_ret
    exact ⟨_, 0, rfl, HD.out, rfl⟩
  by_cases h5 : 1099511627776 < b
  · have HD := Lib.hid (done (by simp [mayB]; omega))
    clear done
    go_enter Try.func15, Try.ntmps15
    go_wp2_with fail
    refine (nan_any _).mono ?_
    rintro e w1 ⟨rfl, rfl⟩
    go_wp2
    go_ret
    exact ⟨_, 0, rfl, HD.out, rfl⟩
  by_cases h6 : 1099511627776 < c
  · have HD := Lib.hid (done (by simp [mayB]; omega))
    clear done
    go_enter Try.func15, Try.ntmps15
    go_wp2_with fail
    refine (nan_any _).mono ?_
    rintro e w1 ⟨rfl, rfl⟩
    go_wp2
    go_ret
    exact ⟨_, 0, rfl, HD.out, rfl⟩
  have HD := Lib.hid (fun q (h : isQ (floatOfInt .f64 (2 * a)) (floatOfInt .f64 (b + c)) q) => (show likeQ a b c q by unfold likeQ; rw [if_pos (by simp [mayB]; omega)]; exact h))
  have g1 : 0 ≤ a ∧ a ≤ 1099511627776 := by omega
  have g2 : 0 ≤ b ∧ b ≤ 1099511627776 := by omega
  have g3 : 0 ≤ c ∧ c ≤ 1099511627776 := by omega
  obtain ⟨a1, a2⟩ := g1
  obtain ⟨b1, b2⟩ := g2
  obtain ⟨c1, c2⟩ := g3
  clear done
  go_enter Try.func15, Try.ntmps15
  go_wp2_with fail
  refine (rratio_any (2 * a) (b + c) _).mono ?_
  rintro e w1 ⟨q, n, rfl, hq, rfl⟩
  have HQ := Lib.hid hq
  clear hq
  go_wp2
  go_ret
  exact ⟨_, _, rfl, HD.out _ HQ.out, rfl⟩

end Go.Proofs.Ytkapidcgonjbaaa
