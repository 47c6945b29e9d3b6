/- The laws OrderSorts, OrderMixes: walks. -/
import Derived.Test.YteielgdgmmeciaaRg
namespace Go.Proofs.Yteielgdgmmeciaa
open Go.RowKit
set_option linter.unusedVariables false

set_option maxHeartbeats 4000000 in
set_option maxRecDepth 100000 in
theorem sorts_any (a : Option Addr) (cap : Nat) (xs : List (List UInt8)) (w : World) (hcap : xs.length ≤ cap) (hcm : cap ≤ maxLen) (hin : IdsIn w a xs) (hn : a = none → xs = [] ∧ cap = 0) :
    Calls Try.prog 4 #[.slice a xs.length cap] w fun e w' => e = .returned (.bool true) ∧ Below w.heap.size w w' := by
  by_cases h1 : 300 < xs.length
  · go_enter Try.func4, Try.ntmps4
    go_wp2
    go_ret
    exact ⟨rfl, Below.refl _ _⟩
  have A1 := Lib.hid hcap
  have A2 := Lib.hid hcm
  have A3 := Lib.hid hin
  have A4 := Lib.hid hn
  have A5 := Lib.hid hin.1
  have A6 := Lib.hid (show xs.length ≤ 1000 by omega)
  unfold maxLen at hcm
  clear hin hn
  go_enter Try.func4, Try.ntmps4
  go_wp2_with fail
  refine (copy_any a cap xs _ (by have := A6.out; omega) A3.out A4.out).mono ?_
  rintro e w1 ⟨v1, rfl, ho1, hb1⟩
  have HB1 := Lib.hid hb1
  have HA1 := HB1
  clear hb1
  obtain ⟨l1, hl1⟩ : ∃ l1, l1 = xs := ⟨_, rfl⟩
  rw [← hl1] at ho1
  have Hl1 := Lib.hid hl1
  have Xl1 := Lib.hid (show ∀ z ∈ l1, z.length = 32 by rw [hl1]; exact A5.out)
  have Nl1 := Lib.hid (show l1.length ≤ 1000 by rw [hl1]; exact A6.out)
  obtain ⟨al1, cl1, rfl, q1, q2, q3, q4⟩ := SlI_row Xl1.out ho1
  have P1l1 := Lib.hid q1
  have P2l1 := Lib.hid q2
  have P3l1 := Lib.hid q3
  have P4l1 := Lib.hid q4
  unfold maxLen at q2
  clear q3 q4 ho1 hl1
  go_wp2_with fail
  refine (sort_any al1 cl1 l1 _ P1l1.out P2l1.out (by have := Nl1.out; omega) P3l1.out P4l1.out).mono ?_
  rintro e w2 ⟨v2, rfl, ho2, hb2⟩
  have HB2 := Lib.hid hb2
  have HA2 := Lib.hid (HA1.out.trans (HB2.out.mono HA1.out.size))
  clear hb2
  obtain ⟨l2, hl2⟩ : ∃ l2, l2 = msort l1 := ⟨_, rfl⟩
  rw [← hl2] at ho2
  have Hl2 := Lib.hid hl2
  have Xl2 := Lib.hid (show ∀ z ∈ l2, z.length = 32 by rw [hl2]; exact msort_32 Xl1.out)
  have Nl2 := Lib.hid (show l2.length ≤ 1000 by rw [hl2]; rw [msort_length]; exact Nl1.out)
  obtain ⟨al2, cl2, rfl, q1, q2, q3, q4⟩ := SlI_row Xl2.out ho2
  have P1l2 := Lib.hid q1
  have P2l2 := Lib.hid q2
  have P3l2 := Lib.hid q3
  have P4l2 := Lib.hid q4
  unfold maxLen at q2
  clear q3 q4 ho2 hl2
  go_wp2_with fail
  refine (rsort_any a cap xs _ (by have := A6.out; omega) (IdsIn.below (IdsIn.below A3.out HB1.out) HB2.out)).mono ?_
  rintro e w3 ⟨v3, rfl, ho3, hb3⟩
  have HB3 := Lib.hid hb3
  have HA3 := Lib.hid (HA2.out.trans (HB3.out.mono HA2.out.size))
  clear hb3
  obtain ⟨l3, hl3⟩ : ∃ l3, l3 = msort xs := ⟨_, rfl⟩
  rw [← hl3] at ho3
  have Hl3 := Lib.hid hl3
  have Xl3 := Lib.hid (show ∀ z ∈ l3, z.length = 32 by rw [hl3]; exact msort_32 A5.out)
  have Nl3 := Lib.hid (show l3.length ≤ 1000 by rw [hl3]; rw [msort_length]; exact A6.out)
  obtain ⟨al3, cl3, rfl, q1, q2, q3, q4⟩ := SlI_row Xl3.out ho3
  have P1l3 := Lib.hid q1
  have P2l3 := Lib.hid q2
  have P3l3 := Lib.hid q3
  have P4l3 := Lib.hid q4
  unfold maxLen at q2
  clear q3 q4 ho3 hl3
  go_wp2_with fail
  refine (same_any al2 al3 cl2 cl3 l2 l3 _ (by have := Nl2.out; omega) (by have := Nl3.out; omega) (IdsIn.below P3l2.out HB3.out) P3l3.out).mono ?_
  rintro e w4 ⟨rfl, hb4⟩
  have HB4 := Lib.hid hb4
  have HA4 := Lib.hid (HA3.out.trans (HB4.out.mono HA3.out.size))
  clear hb4
  rw [show (l2 == l3) = true from by rw [show l2 = l3 from by rw [Hl2.out, Hl3.out, Hl1.out]]; exact beq_self_eq_true _]
  go_wp2_with fail
  refine (copy_any a cap xs _ (by have := A6.out; omega) (IdsIn.below (IdsIn.below (IdsIn.below (IdsIn.below A3.out HB1.out) HB2.out) HB3.out) HB4.out) A4.out).mono ?_
  rintro e w5 ⟨v5, rfl, ho5, hb5⟩
  have HB5 := Lib.hid hb5
  have HA5 := Lib.hid (HA4.out.trans (HB5.out.mono HA4.out.size))
  clear hb5
  obtain ⟨l4, hl4⟩ : ∃ l4, l4 = xs := ⟨_, rfl⟩
  rw [← hl4] at ho5
  have Hl4 := Lib.hid hl4
  have Xl4 := Lib.hid (show ∀ z ∈ l4, z.length = 32 by rw [hl4]; exact A5.out)
  have Nl4 := Lib.hid (show l4.length ≤ 1000 by rw [hl4]; exact A6.out)
  obtain ⟨al4, cl4, rfl, q1, q2, q3, q4⟩ := SlI_row Xl4.out ho5
  have P1l4 := Lib.hid q1
  have P2l4 := Lib.hid q2
  have P3l4 := Lib.hid q3
  have P4l4 := Lib.hid q4
  unfold maxLen at q2
  clear q3 q4 ho5 hl4
  go_wp2_with fail
  refine (set_any al4 cl4 l4 _ P1l4.out P2l4.out (by have := Nl4.out; omega) P3l4.out P4l4.out).mono ?_
  rintro e w6 ⟨v6, rfl, ho6, hb6⟩
  have HB6 := Lib.hid hb6
  have HA6 := Lib.hid (HA5.out.trans (HB6.out.mono HA5.out.size))
  clear hb6
  obtain ⟨l5, hl5⟩ : ∃ l5, l5 = setL l4 := ⟨_, rfl⟩
  rw [← hl5] at ho6
  have Hl5 := Lib.hid hl5
  have Xl5 := Lib.hid (show ∀ z ∈ l5, z.length = 32 by rw [hl5]; exact setL_32 Xl4.out)
  have Nl5 := Lib.hid (show l5.length ≤ 1000 by rw [hl5]; have := setL_length l4; have := Nl4.out; omega)
  obtain ⟨al5, cl5, rfl, q1, q2, q3, q4⟩ := SlI_row Xl5.out ho6
  have P1l5 := Lib.hid q1
  have P2l5 := Lib.hid q2
  have P3l5 := Lib.hid q3
  have P4l5 := Lib.hid q4
  unfold maxLen at q2
  clear q3 q4 ho6 hl5
  go_wp2_with fail
  refine (rset_any a cap xs _ (by have := A6.out; omega) (IdsIn.below (IdsIn.below (IdsIn.below (IdsIn.below (IdsIn.below (IdsIn.below A3.out HB1.out) HB2.out) HB3.out) HB4.out) HB5.out) HB6.out)).mono ?_
  rintro e w7 ⟨v7, rfl, ho7, hb7⟩
  have HB7 := Lib.hid hb7
  have HA7 := Lib.hid (HA6.out.trans (HB7.out.mono HA6.out.size))
  clear hb7
  obtain ⟨l6, hl6⟩ : ∃ l6, l6 = setL xs := ⟨_, rfl⟩
  rw [← hl6] at ho7
  have Hl6 := Lib.hid hl6
  have Xl6 := Lib.hid (show ∀ z ∈ l6, z.length = 32 by rw [hl6]; exact setL_32 A5.out)
  have Nl6 := Lib.hid (show l6.length ≤ 1000 by rw [hl6]; have := setL_length xs; have := A6.out; omega)
  obtain ⟨al6, cl6, rfl, q1, q2, q3, q4⟩ := SlI_row Xl6.out ho7
  have P1l6 := Lib.hid q1
  have P2l6 := Lib.hid q2
  have P3l6 := Lib.hid q3
  have P4l6 := Lib.hid q4
  unfold maxLen at q2
  clear q3 q4 ho7 hl6
  go_wp2_with fail
  refine (same_any al5 al6 cl5 cl6 l5 l6 _ (by have := Nl5.out; omega) (by have := Nl6.out; omega) (IdsIn.below P3l5.out HB7.out) P3l6.out).mono ?_
  rintro e w8 ⟨rfl, hb8⟩
  have HB8 := Lib.hid hb8
  have HA8 := Lib.hid (HA7.out.trans (HB8.out.mono HA7.out.size))
  clear hb8
  rw [show (l5 == l6) = true from by rw [show l5 = l6 from by rw [Hl5.out, Hl6.out, Hl4.out]]; exact beq_self_eq_true _]
  go_wp2_with fail
  refine (copy_any a cap xs _ (by have := A6.out; omega) (IdsIn.below (IdsIn.below (IdsIn.below (IdsIn.below (IdsIn.below (IdsIn.below (IdsIn.below (IdsIn.below A3.out HB1.out) HB2.out) HB3.out) HB4.out) HB5.out) HB6.out) HB7.out) HB8.out) A4.out).mono ?_
  rintro e w9 ⟨v9, rfl, ho9, hb9⟩
  have HB9 := Lib.hid hb9
  have HA9 := Lib.hid (HA8.out.trans (HB9.out.mono HA8.out.size))
  clear hb9
  obtain ⟨l7, hl7⟩ : ∃ l7, l7 = xs := ⟨_, rfl⟩
  rw [← hl7] at ho9
  have Hl7 := Lib.hid hl7
  have Xl7 := Lib.hid (show ∀ z ∈ l7, z.length = 32 by rw [hl7]; exact A5.out)
  have Nl7 := Lib.hid (show l7.length ≤ 1000 by rw [hl7]; exact A6.out)
  obtain ⟨al7, cl7, rfl, q1, q2, q3, q4⟩ := SlI_row Xl7.out ho9
  have P1l7 := Lib.hid q1
  have P2l7 := Lib.hid q2
  have P3l7 := Lib.hid q3
  have P4l7 := Lib.hid q4
  unfold maxLen at q2
  clear q3 q4 ho9 hl7
  go_wp2_with fail
  refine (isSet_any al7 cl7 l7 _ (by have := Nl7.out; omega) P3l7.out).mono ?_
  rintro e w10 ⟨rfl, hb10⟩
  have HB10 := Lib.hid hb10
  have HA10 := Lib.hid (HA9.out.trans (HB10.out.mono HA9.out.size))
  clear hb10
  go_wp2_with fail
  refine (risSet_any a cap xs _ (by have := A6.out; omega) (IdsIn.below (IdsIn.below (IdsIn.below (IdsIn.below (IdsIn.below (IdsIn.below (IdsIn.below (IdsIn.below (IdsIn.below (IdsIn.below A3.out HB1.out) HB2.out) HB3.out) HB4.out) HB5.out) HB6.out) HB7.out) HB8.out) HB9.out) HB10.out)).mono ?_
  rintro e w11 ⟨rfl, hb11⟩
  have HB11 := Lib.hid hb11
  have HA11 := Lib.hid (HA10.out.trans (HB11.out.mono HA10.out.size))
  clear hb11
  rw [show isSetL l7 = isSetL xs from by rw [Hl7.out]]
  generalize isSetL xs = q at *
  have hqq : (q == q) = true := beq_self_eq_true _
  go_wp2_with fail
  refine (awake_any _).mono ?_
  rintro e w12 ⟨rfl, hb12⟩
  have HB12 := Lib.hid hb12
  have HA12 := Lib.hid (HA11.out.trans (HB12.out.mono HA11.out.size))
  clear hb12
  go_wp2
  go_ret
  exact ⟨rfl, HA12.out⟩

set_option maxHeartbeats 4000000 in
set_option maxRecDepth 100000 in
theorem mixes_any (a : Option Addr) (cap : Nat) (xs : List (List UInt8)) (a' : Option Addr) (cap' : Nat) (ys : List (List UInt8)) (w : World) (hcap : xs.length ≤ cap) (hcm : cap ≤ maxLen) (hin : IdsIn w a xs) (hn : a = none → xs = [] ∧ cap = 0) (hcap' : ys.length ≤ cap') (hcm' : cap' ≤ maxLen) (hin' : IdsIn w a' ys) (hn' : a' = none → ys = [] ∧ cap' = 0) :
    Calls Try.prog 9 #[.slice a xs.length cap, .slice a' ys.length cap'] w fun e w' => e = .returned (.bool true) ∧ Below w.heap.size w w' := by
  by_cases h1 : 200 < xs.length
  · go_enter Try.func9, Try.ntmps9
    go_wp2
    go_ret
    exact ⟨rfl, Below.refl _ _⟩
  by_cases h2 : 200 < ys.length
  · go_enter Try.func9, Try.ntmps9
    go_wp2
    go_ret
    exact ⟨rfl, Below.refl _ _⟩
  have A1 := Lib.hid hcap
  have A2 := Lib.hid hcm
  have A3 := Lib.hid hin
  have A4 := Lib.hid hn
  have A5 := Lib.hid hin.1
  have A6 := Lib.hid (show xs.length ≤ 1000 by omega)
  unfold maxLen at hcm
  clear hin hn
  have A1' := Lib.hid hcap'
  have A2' := Lib.hid hcm'
  have A3' := Lib.hid hin'
  have A4' := Lib.hid hn'
  have A5' := Lib.hid hin'.1
  have A6' := Lib.hid (show ys.length ≤ 1000 by omega)
  unfold maxLen at hcm'
  clear hin' hn'
  go_enter Try.func9, Try.ntmps9
  go_wp2_with fail
  refine (copy_any a cap xs _ (by have := A6.out; omega) A3.out A4.out).mono ?_
  rintro e w1 ⟨v1, rfl, ho1, hb1⟩
  have HB1 := Lib.hid hb1
  have HA1 := HB1
  clear hb1
  obtain ⟨l1, hl1⟩ : ∃ l1, l1 = xs := ⟨_, rfl⟩
  rw [← hl1] at ho1
  have Hl1 := Lib.hid hl1
  have Xl1 := Lib.hid (show ∀ z ∈ l1, z.length = 32 by rw [hl1]; exact A5.out)
  have Nl1 := Lib.hid (show l1.length ≤ 1000 by rw [hl1]; exact A6.out)
  obtain ⟨al1, cl1, rfl, q1, q2, q3, q4⟩ := SlI_row Xl1.out ho1
  have P1l1 := Lib.hid q1
  have P2l1 := Lib.hid q2
  have P3l1 := Lib.hid q3
  have P4l1 := Lib.hid q4
  unfold maxLen at q2
  clear q3 q4 ho1 hl1
  go_wp2_with fail
  refine (copy_any a' cap' ys _ (by have := A6'.out; omega) (IdsIn.below A3'.out HB1.out) A4'.out).mono ?_
  rintro e w2 ⟨v2, rfl, ho2, hb2⟩
  have HB2 := Lib.hid hb2
  have HA2 := Lib.hid (HA1.out.trans (HB2.out.mono HA1.out.size))
  clear hb2
  obtain ⟨l2, hl2⟩ : ∃ l2, l2 = ys := ⟨_, rfl⟩
  rw [← hl2] at ho2
  have Hl2 := Lib.hid hl2
  have Xl2 := Lib.hid (show ∀ z ∈ l2, z.length = 32 by rw [hl2]; exact A5'.out)
  have Nl2 := Lib.hid (show l2.length ≤ 1000 by rw [hl2]; exact A6'.out)
  obtain ⟨al2, cl2, rfl, q1, q2, q3, q4⟩ := SlI_row Xl2.out ho2
  have P1l2 := Lib.hid q1
  have P2l2 := Lib.hid q2
  have P3l2 := Lib.hid q3
  have P4l2 := Lib.hid q4
  unfold maxLen at q2
  clear q3 q4 ho2 hl2
  have K1 := Lib.hid (show l1.length ≤ 200 by rw [Hl1.out]; omega)
  have K2 := Lib.hid (show l2.length ≤ 200 by rw [Hl2.out]; omega)
  have J1 := Lib.hid (show xs.length ≤ 200 by omega)
  have J2 := Lib.hid (show ys.length ≤ 200 by omega)
  go_wp2_with fail
  refine (union_any al1 al2 cl1 cl2 l1 l2 _ P1l1.out P2l1.out Nl1.out (IdsIn.below P3l1.out HB2.out) P4l1.out P1l2.out P2l2.out Nl2.out P3l2.out P4l2.out).mono ?_
  rintro e w3 ⟨v3, rfl, ho3, hb3⟩
  have HB3 := Lib.hid hb3
  have HA3 := Lib.hid (HA2.out.trans (HB3.out.mono HA2.out.size))
  clear hb3
  obtain ⟨l3, hl3⟩ : ∃ l3, l3 = setL (l1 ++ l2) := ⟨_, rfl⟩
  rw [← hl3] at ho3
  have Hl3 := Lib.hid hl3
  have Xl3 := Lib.hid (show ∀ z ∈ l3, z.length = 32 by rw [hl3]; exact setL_32 (fun z hz => (List.mem_append.1 hz).elim (Xl1.out z) (Xl2.out z)))
  have Nl3 := Lib.hid (show l3.length ≤ 1000 by rw [hl3]; have := setL_length (l1 ++ l2); have := K1.out; have := K2.out; rw [List.length_append] at *; omega)
  obtain ⟨al3, cl3, rfl, q1, q2, q3, q4⟩ := SlI_row Xl3.out ho3
  have P1l3 := Lib.hid q1
  have P2l3 := Lib.hid q2
  have P3l3 := Lib.hid q3
  have P4l3 := Lib.hid q4
  unfold maxLen at q2
  clear q3 q4 ho3 hl3
  go_wp2_with fail
  refine (runion_any a a' cap cap' xs ys _ A1.out A2.out A6.out (IdsIn.below (IdsIn.below (IdsIn.below A3.out HB1.out) HB2.out) HB3.out) A4.out A1'.out A2'.out A6'.out (IdsIn.below (IdsIn.below (IdsIn.below A3'.out HB1.out) HB2.out) HB3.out) A4'.out).mono ?_
  rintro e w4 ⟨v4, rfl, ho4, hb4⟩
  have HB4 := Lib.hid hb4
  have HA4 := Lib.hid (HA3.out.trans (HB4.out.mono HA3.out.size))
  clear hb4
  obtain ⟨l4, hl4⟩ : ∃ l4, l4 = setL (xs ++ ys) := ⟨_, rfl⟩
  rw [← hl4] at ho4
  have Hl4 := Lib.hid hl4
  have Xl4 := Lib.hid (show ∀ z ∈ l4, z.length = 32 by rw [hl4]; exact setL_32 (fun z hz => (List.mem_append.1 hz).elim (A5.out z) (A5'.out z)))
  have Nl4 := Lib.hid (show l4.length ≤ 1000 by rw [hl4]; have := setL_length (xs ++ ys); have := J1.out; have := J2.out; rw [List.length_append] at *; omega)
  obtain ⟨al4, cl4, rfl, q1, q2, q3, q4⟩ := SlI_row Xl4.out ho4
  have P1l4 := Lib.hid q1
  have P2l4 := Lib.hid q2
  have P3l4 := Lib.hid q3
  have P4l4 := Lib.hid q4
  unfold maxLen at q2
  clear q3 q4 ho4 hl4
  go_wp2_with fail
  refine (same_any al3 al4 cl3 cl4 l3 l4 _ (by have := Nl3.out; omega) (by have := Nl4.out; omega) (IdsIn.below P3l3.out HB4.out) P3l4.out).mono ?_
  rintro e w5 ⟨rfl, hb5⟩
  have HB5 := Lib.hid hb5
  have HA5 := Lib.hid (HA4.out.trans (HB5.out.mono HA4.out.size))
  clear hb5
  rw [show (l3 == l4) = true from by rw [show l3 = l4 from by rw [Hl3.out, Hl4.out, Hl1.out, Hl2.out]]; exact beq_self_eq_true _]
  go_wp2_with fail
  refine (minus_any al1 al2 cl1 cl2 l1 l2 _ P1l1.out P2l1.out Nl1.out (IdsIn.below (IdsIn.below (IdsIn.below (IdsIn.below P3l1.out HB2.out) HB3.out) HB4.out) HB5.out) P4l1.out P1l2.out P2l2.out Nl2.out (IdsIn.below (IdsIn.below (IdsIn.below P3l2.out HB3.out) HB4.out) HB5.out) P4l2.out).mono ?_
  rintro e w6 ⟨v6, rfl, ho6, hb6⟩
  have HB6 := Lib.hid hb6
  have HA6 := Lib.hid (HA5.out.trans (HB6.out.mono HA5.out.size))
  clear hb6
  obtain ⟨l5, hl5⟩ : ∃ l5, l5 = setL (l1.filter fun z => !decide (z ∈ l2)) := ⟨_, rfl⟩
  rw [← hl5] at ho6
  have Hl5 := Lib.hid hl5
  have Xl5 := Lib.hid (show ∀ z ∈ l5, z.length = 32 by rw [hl5]; exact setL_32 (fun z hz => Xl1.out z (List.mem_filter.1 hz).1))
  have Nl5 := Lib.hid (show l5.length ≤ 1000 by rw [hl5]; have := setL_length (l1.filter fun z => !decide (z ∈ l2)); have := List.length_filter_le (fun z => !decide (z ∈ l2)) l1; have := K1.out; omega)
  obtain ⟨al5, cl5, rfl, q1, q2, q3, q4⟩ := SlI_row Xl5.out ho6
  have P1l5 := Lib.hid q1
  have P2l5 := Lib.hid q2
  have P3l5 := Lib.hid q3
  have P4l5 := Lib.hid q4
  unfold maxLen at q2
  clear q3 q4 ho6 hl5
  go_wp2_with fail
  refine (rminus_any a a' cap cap' xs ys _ (by have := A6.out; omega) (by have := A6'.out; omega) (IdsIn.below (IdsIn.below (IdsIn.below (IdsIn.below (IdsIn.below (IdsIn.below A3.out HB1.out) HB2.out) HB3.out) HB4.out) HB5.out) HB6.out) (IdsIn.below (IdsIn.below (IdsIn.below (IdsIn.below (IdsIn.below (IdsIn.below A3'.out HB1.out) HB2.out) HB3.out) HB4.out) HB5.out) HB6.out)).mono ?_
  rintro e w7 ⟨v7, rfl, ho7, hb7⟩
  have HB7 := Lib.hid hb7
  have HA7 := Lib.hid (HA6.out.trans (HB7.out.mono HA6.out.size))
  clear hb7
  obtain ⟨l6, hl6⟩ : ∃ l6, l6 = setL (xs.filter fun z => !decide (z ∈ ys)) := ⟨_, rfl⟩
  rw [← hl6] at ho7
  have Hl6 := Lib.hid hl6
  have Xl6 := Lib.hid (show ∀ z ∈ l6, z.length = 32 by rw [hl6]; exact setL_32 (fun z hz => A5.out z (List.mem_filter.1 hz).1))
  have Nl6 := Lib.hid (show l6.length ≤ 1000 by rw [hl6]; have := setL_length (xs.filter fun z => !decide (z ∈ ys)); have := List.length_filter_le (fun z => !decide (z ∈ ys)) xs; have := J1.out; omega)
  obtain ⟨al6, cl6, rfl, q1, q2, q3, q4⟩ := SlI_row Xl6.out ho7
  have P1l6 := Lib.hid q1
  have P2l6 := Lib.hid q2
  have P3l6 := Lib.hid q3
  have P4l6 := Lib.hid q4
  unfold maxLen at q2
  clear q3 q4 ho7 hl6
  go_wp2_with fail
  refine (same_any al5 al6 cl5 cl6 l5 l6 _ (by have := Nl5.out; omega) (by have := Nl6.out; omega) (IdsIn.below P3l5.out HB7.out) P3l6.out).mono ?_
  rintro e w8 ⟨rfl, hb8⟩
  have HB8 := Lib.hid hb8
  have HA8 := Lib.hid (HA7.out.trans (HB8.out.mono HA7.out.size))
  clear hb8
  rw [show (l5 == l6) = true from by rw [show l5 = l6 from by rw [Hl5.out, Hl6.out, Hl1.out, Hl2.out]]; exact beq_self_eq_true _]
  go_wp2_with fail
  refine (both_any al1 al2 cl1 cl2 l1 l2 _ P1l1.out P2l1.out Nl1.out (IdsIn.below (IdsIn.below (IdsIn.below (IdsIn.below (IdsIn.below (IdsIn.below (IdsIn.below P3l1.out HB2.out) HB3.out) HB4.out) HB5.out) HB6.out) HB7.out) HB8.out) P4l1.out P1l2.out P2l2.out Nl2.out (IdsIn.below (IdsIn.below (IdsIn.below (IdsIn.below (IdsIn.below (IdsIn.below P3l2.out HB3.out) HB4.out) HB5.out) HB6.out) HB7.out) HB8.out) P4l2.out).mono ?_
  rintro e w9 ⟨v9, rfl, ho9, hb9⟩
  have HB9 := Lib.hid hb9
  have HA9 := Lib.hid (HA8.out.trans (HB9.out.mono HA8.out.size))
  clear hb9
  obtain ⟨l7, hl7⟩ : ∃ l7, l7 = setL (l1.filter fun z => decide (z ∈ l2)) := ⟨_, rfl⟩
  rw [← hl7] at ho9
  have Hl7 := Lib.hid hl7
  have Xl7 := Lib.hid (show ∀ z ∈ l7, z.length = 32 by rw [hl7]; exact setL_32 (fun z hz => Xl1.out z (List.mem_filter.1 hz).1))
  have Nl7 := Lib.hid (show l7.length ≤ 1000 by rw [hl7]; have := setL_length (l1.filter fun z => decide (z ∈ l2)); have := List.length_filter_le (fun z => decide (z ∈ l2)) l1; have := K1.out; omega)
  obtain ⟨al7, cl7, rfl, q1, q2, q3, q4⟩ := SlI_row Xl7.out ho9
  have P1l7 := Lib.hid q1
  have P2l7 := Lib.hid q2
  have P3l7 := Lib.hid q3
  have P4l7 := Lib.hid q4
  unfold maxLen at q2
  clear q3 q4 ho9 hl7
  go_wp2_with fail
  refine (rboth_any a a' cap cap' xs ys _ (by have := A6.out; omega) (by have := A6'.out; omega) (IdsIn.below (IdsIn.below (IdsIn.below (IdsIn.below (IdsIn.below (IdsIn.below (IdsIn.below (IdsIn.below (IdsIn.below A3.out HB1.out) HB2.out) HB3.out) HB4.out) HB5.out) HB6.out) HB7.out) HB8.out) HB9.out) (IdsIn.below (IdsIn.below (IdsIn.below (IdsIn.below (IdsIn.below (IdsIn.below (IdsIn.below (IdsIn.below (IdsIn.below A3'.out HB1.out) HB2.out) HB3.out) HB4.out) HB5.out) HB6.out) HB7.out) HB8.out) HB9.out)).mono ?_
  rintro e w10 ⟨v10, rfl, ho10, hb10⟩
  have HB10 := Lib.hid hb10
  have HA10 := Lib.hid (HA9.out.trans (HB10.out.mono HA9.out.size))
  clear hb10
  obtain ⟨l8, hl8⟩ : ∃ l8, l8 = setL (xs.filter fun z => decide (z ∈ ys)) := ⟨_, rfl⟩
  rw [← hl8] at ho10
  have Hl8 := Lib.hid hl8
  have Xl8 := Lib.hid (show ∀ z ∈ l8, z.length = 32 by rw [hl8]; exact setL_32 (fun z hz => A5.out z (List.mem_filter.1 hz).1))
  have Nl8 := Lib.hid (show l8.length ≤ 1000 by rw [hl8]; have := setL_length (xs.filter fun z => decide (z ∈ ys)); have := List.length_filter_le (fun z => decide (z ∈ ys)) xs; have := J1.out; omega)
  obtain ⟨al8, cl8, rfl, q1, q2, q3, q4⟩ := SlI_row Xl8.out ho10
  have P1l8 := Lib.hid q1
  have P2l8 := Lib.hid q2
  have P3l8 := Lib.hid q3
  have P4l8 := Lib.hid q4
  unfold maxLen at q2
  clear q3 q4 ho10 hl8
  go_wp2_with fail
  refine (same_any al7 al8 cl7 cl8 l7 l8 _ (by have := Nl7.out; omega) (by have := Nl8.out; omega) (IdsIn.below P3l7.out HB10.out) P3l8.out).mono ?_
  rintro e w11 ⟨rfl, hb11⟩
  have HB11 := Lib.hid hb11
  have HA11 := Lib.hid (HA10.out.trans (HB11.out.mono HA10.out.size))
  clear hb11
  rw [show (l7 == l8) = true from by rw [show l7 = l8 from by rw [Hl7.out, Hl8.out, Hl1.out, Hl2.out]]; exact beq_self_eq_true _]
  go_wp2_with fail
  refine (awake_any _).mono ?_
  rintro e w12 ⟨rfl, hb12⟩
  have HB12 := Lib.hid hb12
  have HA12 := Lib.hid (HA11.out.trans (HB12.out.mono HA11.out.size))
  clear hb12
  go_wp2
  go_ret
  exact ⟨rfl, HA12.out⟩

end Go.Proofs.Yteielgdgmmeciaa
