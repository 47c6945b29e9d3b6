/- Floating point numbers of 64 bits: their order is that of a whole number made of their bits. -/
import Ieee.Arith
import Ieee.Word
namespace Go.Proofs.Ytkapidcgonjbaaa
open Ieee
set_option linter.unusedVariables false

theorem d_binade : double.binade = 4503599627370496 := by decide
theorem d_sign : double.signWeight = 9223372036854775808 := by decide
theorem d_inf : double.infRung = 9218868437227405312 := by decide
theorem d_least : double.leastPlace = -1074 := by decide

/-- The bits below the sign. -/
def rung (b : Nat) : Nat := b % 9223372036854775808
def sgn (b : Nat) : Bool := b / 9223372036854775808 % 2 == 1
def isN (b : Nat) : Bool := decide (9218868437227405312 < rung b)
/-- What a rung stands for, in the least place. -/
def mg (r : Nat) : Nat := if r < 4503599627370496 then r else (4503599627370496 + r % 4503599627370496) * 2 ^ (r / 4503599627370496 - 1)
def sv (s : Bool) (m : Nat) : Int := if s then -(m : Int) else m

theorem mg_lt {r r' : Nat} (h : r < r') : mg r < mg r' := by
  unfold mg
  by_cases h1 : r < 4503599627370496
  · rw [if_pos h1]
    by_cases h2 : r' < 4503599627370496
    · rw [if_pos h2]; exact h
    · rw [if_neg h2]
      have : 1 ≤ 2 ^ (r' / 4503599627370496 - 1) := Nat.one_le_two_pow
      calc r < 4503599627370496 := h1
        _ ≤ (4503599627370496 + r' % 4503599627370496) * 1 := by omega
        _ ≤ _ := Nat.mul_le_mul_left _ this
  · have h2 : ¬ r' < 4503599627370496 := by omega
    rw [if_neg h1, if_neg h2]
    have hd : r / 4503599627370496 ≤ r' / 4503599627370496 := Nat.div_le_div_right (by omega)
    by_cases he : r / 4503599627370496 = r' / 4503599627370496
    · rw [he]
      refine Nat.mul_lt_mul_of_pos_right ?_ (Nat.two_pow_pos _)
      omega
    · have hlt : r / 4503599627370496 < r' / 4503599627370496 := by omega
      have e1 : 2 ^ (r' / 4503599627370496 - 1) = 2 ^ (r / 4503599627370496 - 1) * 2 ^ (r' / 4503599627370496 - r / 4503599627370496) := by
        rw [← Nat.pow_add]; congr 1; omega
      have e2 : 2 ≤ 2 ^ (r' / 4503599627370496 - r / 4503599627370496) := by
        calc 2 = 2 ^ 1 := rfl
          _ ≤ _ := Nat.pow_le_pow_right (by decide) (by omega)
      have hp : 0 < 2 ^ (r / 4503599627370496 - 1) := Nat.two_pow_pos _
      calc (4503599627370496 + r % 4503599627370496) * 2 ^ (r / 4503599627370496 - 1) < (4503599627370496 * 2) * 2 ^ (r / 4503599627370496 - 1) :=
            Nat.mul_lt_mul_of_pos_right (by omega) hp
        _ = 4503599627370496 * (2 ^ (r / 4503599627370496 - 1) * 2) := by rw [Nat.mul_assoc, Nat.mul_comm 2]
        _ ≤ 4503599627370496 * (2 ^ (r / 4503599627370496 - 1) * 2 ^ (r' / 4503599627370496 - r / 4503599627370496)) := Nat.mul_le_mul_left _ (Nat.mul_le_mul_left _ e2)
        _ = 4503599627370496 * 2 ^ (r' / 4503599627370496 - 1) := by rw [← e1]
        _ ≤ _ := Nat.mul_le_mul_right _ (by omega)
theorem mg_le {r r' : Nat} (h : r ≤ r') : mg r ≤ mg r' := by
  rcases Nat.lt_or_eq_of_le h with h | rfl
  · exact Nat.le_of_lt (mg_lt h)
  · exact Nat.le_refl _
theorem mg_zero : mg 0 = 0 := by decide

theorem read_eq (b : Nat) : double.read b = if rung b < 4503599627370496 then .number (sgn b) (rung b) (-1074)
    else if rung b < 9218868437227405312 then .number (sgn b) (4503599627370496 + rung b % 4503599627370496) (-1074 + (rung b / 4503599627370496 - 1 : Nat))
    else if rung b = 9218868437227405312 then .infinity (sgn b) else .nan (sgn b) (rung b - 9218868437227405312) := by
  unfold Format.read
  simp only [d_binade, d_sign, d_inf, d_least]
  rfl

/-- A number that is finite: its mantissa and place are its rung's. -/
theorem read_fin (b : Nat) (h : rung b < 9218868437227405312) : ∃ (m : Nat) (p : Nat), double.read b = .number (sgn b) m (-1074 + (p : Int)) ∧ m * 2 ^ p = mg (rung b) := by
  rw [read_eq]
  by_cases h1 : rung b < 4503599627370496
  · rw [if_pos h1]
    exact ⟨rung b, 0, by simp, by simp [mg, h1]⟩
  · rw [if_neg h1, if_pos h]
    exact ⟨_, _, rfl, by simp only [mg, if_neg h1]⟩

theorem isNaN_eq (b : Nat) : (double.read b).isNaN = isN b := by
  rw [read_eq]
  unfold isN
  split
  · simp [Datum.isNaN]; omega
  · split
    · simp [Datum.isNaN]; omega
    · split
      · simp [Datum.isNaN]; omega
      · simp [Datum.isNaN]; omega

/-- What a number that is one stands for, in the least place; infinity as its rung would. -/
def vl (b : Nat) : Int := sv (sgn b) (mg (rung b))

theorem compare_mul (x y : Int) (p : Nat) : compare (x * 2 ^ p) (y * 2 ^ p) = compare x y := by
  have hp : (0 : Int) < 2 ^ p := Int.pow_pos (by decide)
  simp only [compare, compareOfLessAndEq]
  have h1 : x * 2 ^ p < y * 2 ^ p ↔ x < y := Int.mul_lt_mul_right hp
  have h2 : x * 2 ^ p = y * 2 ^ p ↔ x = y := ⟨fun h => Int.eq_of_mul_eq_mul_right (by omega) h, fun h => by rw [h]⟩
  simp only [h1, h2]

theorem signed_eq (s : Bool) (m p : Nat) : signed s m p = sv s (m * 2 ^ p) := by
  unfold signed sv
  rw [Nat.shiftLeft_eq]

theorem sv_mul (s : Bool) (m p : Nat) : sv s (m * 2 ^ p) = sv s m * 2 ^ p := by
  unfold sv
  split <;> simp [Int.neg_mul]

theorem order_eq (a b : Nat) (ha : isN a = false) (hb : isN b = false) : double.order a b = some (compare (vl a) (vl b)) := by
  unfold isN at ha hb
  have ha' : rung a ≤ 9218868437227405312 := by simpa using ha
  have hb' : rung b ≤ 9218868437227405312 := by simpa using hb
  have inf : ∀ c, rung c = 9218868437227405312 → double.read c = .infinity (sgn c) := fun c h => by
    rw [read_eq, if_neg (by omega), if_neg (by omega), if_pos h]
  unfold Format.order
  by_cases h1 : rung a < 9218868437227405312
  · obtain ⟨m, p, ea, em⟩ := read_fin a h1
    by_cases h2 : rung b < 9218868437227405312
    · obtain ⟨n, q, eb, en⟩ := read_fin b h2
      rw [ea, eb]
      simp only [Datum.order]
      rcases Nat.le_total p q with h | h
      · rw [Int.min_eq_left (by omega), show ((-1074 + (p : Int)) - (-1074 + (p : Int))).toNat = 0 by omega, show ((-1074 + (q : Int)) - (-1074 + (p : Int))).toNat = q - p by omega, signed_eq, signed_eq]
        rw [← compare_mul _ _ p, ← sv_mul, ← sv_mul, Nat.pow_zero, Nat.mul_one, Nat.mul_assoc, ← Nat.pow_add, show q - p + p = q by omega, em, en]
        rfl
      · rw [Int.min_eq_right (by omega), show ((-1074 + (q : Int)) - (-1074 + (q : Int))).toNat = 0 by omega, show ((-1074 + (p : Int)) - (-1074 + (q : Int))).toNat = p - q by omega, signed_eq, signed_eq]
        rw [← compare_mul _ _ q, ← sv_mul, ← sv_mul, Nat.pow_zero, Nat.mul_one, Nat.mul_assoc, ← Nat.pow_add, show p - q + q = p by omega, em, en]
        rfl
    · have e2 : rung b = 9218868437227405312 := by omega
      rw [ea, inf b e2]
      simp only [Datum.order]
      have hm := mg_lt (show rung a < rung b by omega)
      unfold vl
      congr 1
      generalize mg (rung a) = x at *
      generalize mg (rung b) = y at *
      cases hs : sgn a <;> cases ht : sgn b <;> simp only [compare, compareOfLessAndEq, sv, if_true, if_false, Bool.false_eq_true] <;> (repeat' split) <;> first | rfl | omega
  · have e1 : rung a = 9218868437227405312 := by omega
    by_cases h2 : rung b < 9218868437227405312
    · obtain ⟨n, q, eb, en⟩ := read_fin b h2
      rw [inf a e1, eb]
      simp only [Datum.order]
      have hm := mg_lt (show rung b < rung a by omega)
      unfold vl
      congr 1
      generalize mg (rung a) = x at *
      generalize mg (rung b) = y at *
      cases hs : sgn a <;> cases ht : sgn b <;> simp only [compare, compareOfLessAndEq, sv, if_true, if_false, Bool.false_eq_true] <;> (repeat' split) <;> first | rfl | omega
    · have e2 : rung b = 9218868437227405312 := by omega
      rw [inf a e1, inf b e2]
      simp only [Datum.order]
      unfold vl
      rw [e1, e2]
      have hp : 0 < mg 9218868437227405312 := mg_lt (r := 0) (by decide)
      generalize mg 9218868437227405312 = M at *
      congr 1
      cases hs : sgn a <;> cases ht : sgn b <;> simp only [compare, compareOfLessAndEq, sv, Bool.toNat_true, Bool.toNat_false, if_true, if_false, Bool.false_eq_true] <;> (repeat' split) <;> first | rfl | omega

theorem order_nan (a b : Nat) (h : isN a = true ∨ isN b = true) : double.order a b = none := by
  have hn : ∀ c, isN c = true → ∃ s t, double.read c = .nan s t := fun c hc => by
    rw [read_eq]
    unfold isN at hc
    simp only [decide_eq_true_eq] at hc
    rw [if_neg (by omega), if_neg (by omega), if_neg (by omega)]
    exact ⟨_, _, rfl⟩
  unfold Format.order
  rcases h with h | h
  · obtain ⟨s, t, e⟩ := hn a h
    rw [e]; rfl
  · obtain ⟨s, t, e⟩ := hn b h
    rw [e]; cases double.read a <;> rfl

/-- The whole number of score.rank. -/
def rk (b : Nat) : Int := if isN b then 9223372036854775807 else if sgn b then -(rung b : Int) - 1 else rung b
theorem rung_lt (b : Nat) : rung b < 9223372036854775808 := Nat.mod_lt _ (by decide)
theorem bits_eq (b : Nat) (h : b < 18446744073709551616) : b = (if sgn b then 9223372036854775808 else 0) + rung b := by
  unfold sgn rung
  have : b / 9223372036854775808 < 2 := by omega
  by_cases h1 : b / 9223372036854775808 % 2 = 1
  · simp [h1]; omega
  · simp [h1]; omega

/-- x < y -/
def fLt (a b : Nat) : Bool := double.order a b == some .lt
/-- x == y -/
def fEq (a b : Nat) : Bool := double.order a b == some .eq
theorem fLt_eq (a b : Nat) : fLt a b = (!isN a && !isN b && decide (vl a < vl b)) := by
  unfold fLt
  cases ha : isN a
  · cases hb : isN b
    · rw [order_eq a b ha hb]
      simp only [compare, compareOfLessAndEq, Bool.not_false, Bool.true_and]
      (repeat' split) <;> simp_all
    · rw [order_nan a b (.inr hb)]; simp
  · rw [order_nan a b (.inl ha)]; simp
theorem fEq_eq (a b : Nat) : fEq a b = (!isN a && !isN b && decide (vl a = vl b)) := by
  unfold fEq
  cases ha : isN a
  · cases hb : isN b
    · rw [order_eq a b ha hb]
      simp only [compare, compareOfLessAndEq, Bool.not_false, Bool.true_and]
      (repeat' split) <;> simp_all <;> omega
    · rw [order_nan a b (.inr hb)]; simp
  · rw [order_nan a b (.inl ha)]; simp
theorem fEq_self (a : Nat) : fEq a a = !isN a := by rw [fEq_eq]; simp

/-- The reference's below. -/
def fBelow (a b : Nat) : Bool := fLt a b || (fEq a 0 && (fEq b 0 && (decide (a ≠ 0) && decide (b = 0))))
theorem fBelow_eq (a b : Nat) (ha : a < 18446744073709551616) (hb : b < 18446744073709551616) (na : isN a = false) (nb : isN b = false) : fBelow a b = decide (rk a < rk b) := by
  have h0 : isN 0 = false := by decide
  have v0 : vl 0 = 0 := by decide
  unfold fBelow
  rw [fLt_eq, fEq_eq, fEq_eq, na, nb, h0, v0, Bool.eq_iff_iff]
  simp only [Bool.not_false, Bool.true_and, Bool.or_eq_true, Bool.and_eq_true, decide_eq_true_eq, rk, na, nb, Bool.false_eq_true, if_false]
  have ea := bits_eq a ha
  have eb := bits_eq b hb
  have m1 : rung a < rung b → mg (rung a) < mg (rung b) := mg_lt
  have m2 : rung b < rung a → mg (rung b) < mg (rung a) := mg_lt
  have m3 : rung a = rung b → mg (rung a) = mg (rung b) := fun h => by rw [h]
  have z1 : 0 < rung a → 0 < mg (rung a) := fun h => by have := mg_lt h; rwa [mg_zero] at this
  have z2 : 0 < rung b → 0 < mg (rung b) := fun h => by have := mg_lt h; rwa [mg_zero] at this
  have z3 : rung a = 0 → mg (rung a) = 0 := fun h => by rw [h, mg_zero]
  have z4 : rung b = 0 → mg (rung b) = 0 := fun h => by rw [h, mg_zero]
  unfold vl sv
  generalize mg (rung a) = x at *
  generalize mg (rung b) = y at *
  generalize rung a = r at *
  generalize rung b = s at *
  cases hsa : sgn a <;> cases hsb : sgn b <;> rw [hsa] at ea <;> rw [hsb] at eb <;> simp only [Bool.false_eq_true, if_true, if_false] at ea eb ⊢ <;> omega

end Go.Proofs.Ytkapidcgonjbaaa
