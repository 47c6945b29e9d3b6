/- The walk of ScoreTotal. -/
import Derived.Test.YtkapidcgonjbaaaD
namespace Go.Proofs.Ytkapidcgonjbaaa
open Go.RowKit
set_option linter.unusedVariables false

theorem fOrd_neg (x y : Nat) : fOrd y x = -fOrd x y := by
  unfold fOrd cmpInt
  by_cases h1 : rk x < rk y
  · have h2 : ¬ rk y < rk x := by omega
    simp [h1, h2]
  · by_cases h2 : rk y < rk x
    · simp [h1, h2]
    · simp [h1, h2]
theorem fOrd_tri (x y : Nat) : fOrd x y = -1 ∨ fOrd x y = 0 ∨ fOrd x y = 1 := by
  unfold fOrd cmpInt; split
  · exact .inl rfl
  · split
    · exact .inr (.inr rfl)
    · exact .inr (.inl rfl)
theorem fOrd_le (x y : Nat) : fOrd x y ≤ 0 ↔ rk x ≤ rk y := by
  unfold fOrd cmpInt; split
  · constructor <;> intro _ <;> omega
  · split
    · constructor <;> intro _ <;> omega
    · constructor <;> intro _ <;> omega
theorem fOrd_less (x y : Nat) (hx : x < 18446744073709551616) (hy : y < 18446744073709551616) (h : fLt x y = true) : fOrd x y = -1 := by
  have h' := h
  rw [fLt_eq] at h'
  simp only [Bool.and_eq_true, Bool.not_eq_true'] at h'
  rw [fOrd_eq x y hx hy, if_neg (by rw [h'.1.1]; decide), if_neg (by rw [h'.1.2]; decide), if_pos (by unfold fBelow; rw [h]; rfl)]
theorem fLt_nan (x y : Nat) (h : fLt x y = true) : isN x = false := by
  rw [fLt_eq] at h
  simp only [Bool.and_eq_true, Bool.not_eq_true'] at h
  exact h.1.1
theorem fEq_nan (x y : Nat) (h : fEq x y = true) : isN x = false := by
  rw [fEq_eq] at h
  simp only [Bool.and_eq_true, Bool.not_eq_true'] at h
  exact h.1.1
theorem fOrd_nan (x y : Nat) (hx : x < 18446744073709551616) (hy : y < 18446744073709551616) (h1 : isN x = true) (h2 : isN y = false) : fOrd x y = 1 := by
  rw [fOrd_eq x y hx hy, if_pos h1, if_neg (by rw [h2]; decide)]
theorem fOrd_sgn (x y : Nat) (h1 : isN x = false) (h2 : isN y = false) (s1 : sgn x = true) (s2 : sgn y = false) : fOrd x y = -1 := by
  have r1 : rk x = -(rung x : Int) - 1 := by unfold rk; rw [if_neg (by rw [h1]; decide), if_pos s1]
  have r2 : rk y = rung y := by unfold rk; rw [if_neg (by rw [h2]; decide), if_neg (by rw [s2]; decide)]
  unfold fOrd cmpInt
  rw [if_pos (by omega)]
theorem rk_le (x : Nat) : rk x ≤ 9223372036854775807 := by
  have := rung_lt x
  unfold rk; split
  · omega
  · split <;> omega
theorem fOrd_last (x : Nat) : 0 ≤ fOrd 9221120237041090561 x := by
  have h1 : rk 9221120237041090561 = 9223372036854775807 := by unfold rk; rw [if_pos (by decide)]
  have h2 := rk_le x
  unfold fOrd cmpInt
  rw [if_neg (by omega)]
  split <;> omega

theorem signbit_any (x : Nat) (hx : x < 18446744073709551616) (w : World) : Calls Try.prog 23 #[.float .f64 x] w fun e w' => e = .returned (.bool (sgn x)) ∧ w = w' := by
  have hb := bits_eq x hx
  have hr := rung_lt x
  cases hs : sgn x with
  | true =>
    rw [if_pos hs] at hb
    have hw : IntKind.i64.wrap (x : Int) = (x : Int) - 18446744073709551616 := by rw [IntKind.wrap_i64]; omega
    have h2 : ((x : Int) - 18446744073709551616 < 0) := by omega
    clear hb hs
    go_enter Try.func23, Try.ntmps23
    go_wp2
    go_ret
    exact ⟨rfl, rfl⟩
  | false =>
    rw [if_neg (by rw [hs]; decide)] at hb
    have hw : IntKind.i64.wrap (x : Int) = (x : Int) := by rw [IntKind.wrap_i64]; omega
    have h2 : ¬ ((x : Int) < 0) := by omega
    clear hb hs
    go_enter Try.func23, Try.ntmps23
    go_wp2
    go_ret
    exact ⟨rfl, rfl⟩

set_option maxHeartbeats 16000000 in
set_option maxRecDepth 100000 in
theorem total_any (x y z : Nat) (hx : x < 18446744073709551616) (hy : y < 18446744073709551616) (hz : z < 18446744073709551616) (w : World) :
    Calls Try.prog 7 #[.float .f64 x, .float .f64 y, .float .f64 z] w fun e w' => e = .returned (.bool true) ∧ Below w.heap.size w w' := by
  obtain ⟨t, ht⟩ : ∃ t, t = fOrd x y := ⟨_, rfl⟩
  obtain ⟨u, hu⟩ : ∃ u, u = fOrd y z := ⟨_, rfl⟩
  obtain ⟨v, hv⟩ : ∃ v, v = fOrd x z := ⟨_, rfl⟩
  obtain ⟨s, hs⟩ : ∃ s, s = fOrd 9221120237041090561 x := ⟨_, rfl⟩
  obtain ⟨p, hp⟩ : ∃ p, (FloatKind.f64.format.order x y == some Ordering.lt) = p := ⟨_, rfl⟩
  obtain ⟨e1, he1⟩ : ∃ p, (FloatKind.f64.format.order x 0 == some Ordering.eq) = p := ⟨_, rfl⟩
  obtain ⟨e2, he2⟩ : ∃ p, (FloatKind.f64.format.order y 0 == some Ordering.eq) = p := ⟨_, rfl⟩
  obtain ⟨n1, hn1⟩ : ∃ n, n = isN x := ⟨_, rfl⟩
  obtain ⟨n2, hn2⟩ : ∃ n, n = isN y := ⟨_, rfl⟩
  obtain ⟨s1, hs1⟩ : ∃ n, n = sgn x := ⟨_, rfl⟩
  obtain ⟨s2, hs2⟩ : ∃ n, n = sgn y := ⟨_, rfl⟩
  have C0 : s ≥ 0 := by rw [hs]; exact fOrd_last x
  have C1 : fOrd y x = -t := by rw [ht]; exact fOrd_neg x y
  have C2 : IntKind.i64.wrap t = t := by
    rw [IntKind.wrap_i64]; have := fOrd_tri x y; rw [← ht] at this; omega
  have C9 : -1 ≤ t ∧ t ≤ 1 := by have := fOrd_tri x y; rw [← ht] at this; omega
  have C3 := Lib.hid (show p = true → t = -1 from fun h => by rw [ht]; exact fOrd_less x y hx hy (hp.trans h))
  have C4 := Lib.hid (show p = true → n1 = false from fun h => by rw [hn1]; exact fLt_nan x y (hp.trans h))
  have C5 := Lib.hid (show n1 = true → n2 = false → t = 1 from fun h1 h2 => by rw [ht]; exact fOrd_nan x y hx hy (hn1.symm.trans h1) (hn2.symm.trans h2))
  have C6 := Lib.hid (show e1 = true → n1 = false from fun h => by rw [hn1]; exact fEq_nan x 0 (he1.trans h))
  have C7 := Lib.hid (show e1 = true → e2 = true → s1 = true → s2 = false → t = -1 from fun h1 h2 h3 h4 => by rw [ht]; exact fOrd_sgn x y (fEq_nan x 0 (he1.trans h1)) (fEq_nan y 0 (he2.trans h2)) (hs1.symm.trans h3) (hs2.symm.trans h4))
  have C8 := Lib.hid (show t ≤ 0 → u ≤ 0 → v ≤ 0 from fun h1 h2 => by
    rw [ht, fOrd_le] at h1; rw [hu, fOrd_le] at h2; rw [hv, fOrd_le]; omega)
  have HX := Lib.hid hx
  have HY := Lib.hid hy
  have HZ := Lib.hid hz
  have T := Lib.hid ht
  have U := Lib.hid hu
  have V := Lib.hid hv
  have SL := Lib.hid hs
  have N1 := Lib.hid hn1
  have N2 := Lib.hid hn2
  have S1 := Lib.hid hs1
  have S2 := Lib.hid hs2
  have D1 := Lib.hid C1
  clear ht hu hv hs hn1 hn2 hs1 hs2 C1 hx hy hz
  go_enter Try.func7, Try.ntmps7
  go_wp2_with fail
  refine (order_any x y HX.out HY.out _).mono ?_
  rintro e w1 ⟨rfl, rfl⟩
  rw [← T.out]
  go_wp2_with fail
  refine (order_any y z HY.out HZ.out _).mono ?_
  rintro e w1 ⟨rfl, rfl⟩
  rw [← U.out]
  go_wp2_with fail
  refine (order_any x z HX.out HZ.out _).mono ?_
  rintro e w1 ⟨rfl, rfl⟩
  rw [← V.out]
  go_wp2_with fail
  refine (order_any y x HY.out HX.out _).mono ?_
  rintro e w1 ⟨rfl, rfl⟩
  rw [D1.out]
  clear T U V D1
  cases p with
  | true =>
    obtain rfl := C3.out rfl
    obtain rfl := C4.out rfl
    go_wp2_with fail
    refine (isNaN_any x _).mono ?_
    rintro e w1 ⟨rfl, rfl⟩
    rw [← N1.out]
    cases e1 with
    | false =>
      by_cases k2 : u > 0
      · go_wp2_with fail
        refine (nan_any _).mono ?_
        rintro e w1 ⟨rfl, rfl⟩
        go_wp2_with fail
        refine (order_any 9221120237041090561 x (by decide) HX.out _).mono ?_
        rintro e w1 ⟨rfl, rfl⟩
        rw [← SL.out]
        go_wp2_with fail
        refine (awake_any _).mono ?_
        rintro e w7 ⟨rfl, hb7⟩
        have HB7 := Lib.hid hb7
        clear hb7
        go_wp2
        go_ret
        exact ⟨rfl, HB7.out⟩
      have k3 : v ≤ 0 := C8.out (by omega) (by omega)
      go_wp2_with fail
      refine (nan_any _).mono ?_
      rintro e w1 ⟨rfl, rfl⟩
      go_wp2_with fail
      refine (order_any 9221120237041090561 x (by decide) HX.out _).mono ?_
      rintro e w1 ⟨rfl, rfl⟩
      rw [← SL.out]
      go_wp2_with fail
      refine (awake_any _).mono ?_
      rintro e w7 ⟨rfl, hb7⟩
      have HB7 := Lib.hid hb7
      clear hb7
      go_wp2
      go_ret
      exact ⟨rfl, HB7.out⟩
    | true =>
      cases e2 with
      | false =>
        by_cases k2 : u > 0
        · go_wp2_with fail
          refine (nan_any _).mono ?_
          rintro e w1 ⟨rfl, rfl⟩
          go_wp2_with fail
          refine (order_any 9221120237041090561 x (by decide) HX.out _).mono ?_
          rintro e w1 ⟨rfl, rfl⟩
          rw [← SL.out]
          go_wp2_with fail
          refine (awake_any _).mono ?_
          rintro e w7 ⟨rfl, hb7⟩
          have HB7 := Lib.hid hb7
          clear hb7
          go_wp2
          go_ret
          exact ⟨rfl, HB7.out⟩
        have k3 : v ≤ 0 := C8.out (by omega) (by omega)
        go_wp2_with fail
        refine (nan_any _).mono ?_
        rintro e w1 ⟨rfl, rfl⟩
        go_wp2_with fail
        refine (order_any 9221120237041090561 x (by decide) HX.out _).mono ?_
        rintro e w1 ⟨rfl, rfl⟩
        rw [← SL.out]
        go_wp2_with fail
        refine (awake_any _).mono ?_
        rintro e w7 ⟨rfl, hb7⟩
        have HB7 := Lib.hid hb7
        clear hb7
        go_wp2
        go_ret
        exact ⟨rfl, HB7.out⟩
      | true =>
        go_wp2_with fail
        refine (signbit_any x HX.out _).mono ?_
        rintro e w1 ⟨rfl, rfl⟩
        rw [← S1.out]
        cases s1 with
        | false =>
          by_cases k2 : u > 0
          · go_wp2_with fail
            refine (nan_any _).mono ?_
            rintro e w1 ⟨rfl, rfl⟩
            go_wp2_with fail
            refine (order_any 9221120237041090561 x (by decide) HX.out _).mono ?_
            rintro e w1 ⟨rfl, rfl⟩
            rw [← SL.out]
            go_wp2_with fail
            refine (awake_any _).mono ?_
            rintro e w7 ⟨rfl, hb7⟩
            have HB7 := Lib.hid hb7
            clear hb7
            go_wp2
            go_ret
            exact ⟨rfl, HB7.out⟩
          have k3 : v ≤ 0 := C8.out (by omega) (by omega)
          go_wp2_with fail
          refine (nan_any _).mono ?_
          rintro e w1 ⟨rfl, rfl⟩
          go_wp2_with fail
          refine (order_any 9221120237041090561 x (by decide) HX.out _).mono ?_
          rintro e w1 ⟨rfl, rfl⟩
          rw [← SL.out]
          go_wp2_with fail
          refine (awake_any _).mono ?_
          rintro e w7 ⟨rfl, hb7⟩
          have HB7 := Lib.hid hb7
          clear hb7
          go_wp2
          go_ret
          exact ⟨rfl, HB7.out⟩
        | true =>
          go_wp2_with fail
          refine (signbit_any y HY.out _).mono ?_
          rintro e w1 ⟨rfl, rfl⟩
          rw [← S2.out]
          cases s2 with
          | true =>
            by_cases k2 : u > 0
            · go_wp2_with fail
              refine (nan_any _).mono ?_
              rintro e w1 ⟨rfl, rfl⟩
              go_wp2_with fail
              refine (order_any 9221120237041090561 x (by decide) HX.out _).mono ?_
              rintro e w1 ⟨rfl, rfl⟩
              rw [← SL.out]
              go_wp2_with fail
              refine (awake_any _).mono ?_
              rintro e w7 ⟨rfl, hb7⟩
              have HB7 := Lib.hid hb7
              clear hb7
              go_wp2
              go_ret
              exact ⟨rfl, HB7.out⟩
            have k3 : v ≤ 0 := C8.out (by omega) (by omega)
            go_wp2_with fail
            refine (nan_any _).mono ?_
            rintro e w1 ⟨rfl, rfl⟩
            go_wp2_with fail
            refine (order_any 9221120237041090561 x (by decide) HX.out _).mono ?_
            rintro e w1 ⟨rfl, rfl⟩
            rw [← SL.out]
            go_wp2_with fail
            refine (awake_any _).mono ?_
            rintro e w7 ⟨rfl, hb7⟩
            have HB7 := Lib.hid hb7
            clear hb7
            go_wp2
            go_ret
            exact ⟨rfl, HB7.out⟩
          | false =>
            by_cases k2 : u > 0
            · go_wp2_with fail
              refine (nan_any _).mono ?_
              rintro e w1 ⟨rfl, rfl⟩
              go_wp2_with fail
              refine (order_any 9221120237041090561 x (by decide) HX.out _).mono ?_
              rintro e w1 ⟨rfl, rfl⟩
              rw [← SL.out]
              go_wp2_with fail
              refine (awake_any _).mono ?_
              rintro e w7 ⟨rfl, hb7⟩
              have HB7 := Lib.hid hb7
              clear hb7
              go_wp2
              go_ret
              exact ⟨rfl, HB7.out⟩
            have k3 : v ≤ 0 := C8.out (by omega) (by omega)
            go_wp2_with fail
            refine (nan_any _).mono ?_
            rintro e w1 ⟨rfl, rfl⟩
            go_wp2_with fail
            refine (order_any 9221120237041090561 x (by decide) HX.out _).mono ?_
            rintro e w1 ⟨rfl, rfl⟩
            rw [← SL.out]
            go_wp2_with fail
            refine (awake_any _).mono ?_
            rintro e w7 ⟨rfl, hb7⟩
            have HB7 := Lib.hid hb7
            clear hb7
            go_wp2
            go_ret
            exact ⟨rfl, HB7.out⟩
  | false =>
    go_wp2_with fail
    refine (isNaN_any x _).mono ?_
    rintro e w1 ⟨rfl, rfl⟩
    rw [← N1.out]
    cases n1 with
    | false =>
      cases e1 with
      | false =>
        by_cases k1 : t > 0
        · go_wp2_with fail
          refine (nan_any _).mono ?_
          rintro e w1 ⟨rfl, rfl⟩
          go_wp2_with fail
          refine (order_any 9221120237041090561 x (by decide) HX.out _).mono ?_
          rintro e w1 ⟨rfl, rfl⟩
          rw [← SL.out]
          go_wp2_with fail
          refine (awake_any _).mono ?_
          rintro e w7 ⟨rfl, hb7⟩
          have HB7 := Lib.hid hb7
          clear hb7
          go_wp2
          go_ret
          exact ⟨rfl, HB7.out⟩
        by_cases k2 : u > 0
        · go_wp2_with fail
          refine (nan_any _).mono ?_
          rintro e w1 ⟨rfl, rfl⟩
          go_wp2_with fail
          refine (order_any 9221120237041090561 x (by decide) HX.out _).mono ?_
          rintro e w1 ⟨rfl, rfl⟩
          rw [← SL.out]
          go_wp2_with fail
          refine (awake_any _).mono ?_
          rintro e w7 ⟨rfl, hb7⟩
          have HB7 := Lib.hid hb7
          clear hb7
          go_wp2
          go_ret
          exact ⟨rfl, HB7.out⟩
        have k3 : v ≤ 0 := C8.out (by omega) (by omega)
        go_wp2_with fail
        refine (nan_any _).mono ?_
        rintro e w1 ⟨rfl, rfl⟩
        go_wp2_with fail
        refine (order_any 9221120237041090561 x (by decide) HX.out _).mono ?_
        rintro e w1 ⟨rfl, rfl⟩
        rw [← SL.out]
        go_wp2_with fail
        refine (awake_any _).mono ?_
        rintro e w7 ⟨rfl, hb7⟩
        have HB7 := Lib.hid hb7
        clear hb7
        go_wp2
        go_ret
        exact ⟨rfl, HB7.out⟩
      | true =>
        cases e2 with
        | false =>
          by_cases k1 : t > 0
          · go_wp2_with fail
            refine (nan_any _).mono ?_
            rintro e w1 ⟨rfl, rfl⟩
            go_wp2_with fail
            refine (order_any 9221120237041090561 x (by decide) HX.out _).mono ?_
            rintro e w1 ⟨rfl, rfl⟩
            rw [← SL.out]
            go_wp2_with fail
            refine (awake_any _).mono ?_
            rintro e w7 ⟨rfl, hb7⟩
            have HB7 := Lib.hid hb7
            clear hb7
            go_wp2
            go_ret
            exact ⟨rfl, HB7.out⟩
          by_cases k2 : u > 0
          · go_wp2_with fail
            refine (nan_any _).mono ?_
            rintro e w1 ⟨rfl, rfl⟩
            go_wp2_with fail
            refine (order_any 9221120237041090561 x (by decide) HX.out _).mono ?_
            rintro e w1 ⟨rfl, rfl⟩
            rw [← SL.out]
            go_wp2_with fail
            refine (awake_any _).mono ?_
            rintro e w7 ⟨rfl, hb7⟩
            have HB7 := Lib.hid hb7
            clear hb7
            go_wp2
            go_ret
            exact ⟨rfl, HB7.out⟩
          have k3 : v ≤ 0 := C8.out (by omega) (by omega)
          go_wp2_with fail
          refine (nan_any _).mono ?_
          rintro e w1 ⟨rfl, rfl⟩
          go_wp2_with fail
          refine (order_any 9221120237041090561 x (by decide) HX.out _).mono ?_
          rintro e w1 ⟨rfl, rfl⟩
          rw [← SL.out]
          go_wp2_with fail
          refine (awake_any _).mono ?_
          rintro e w7 ⟨rfl, hb7⟩
          have HB7 := Lib.hid hb7
          clear hb7
          go_wp2
          go_ret
          exact ⟨rfl, HB7.out⟩
        | true =>
          go_wp2_with fail
          refine (signbit_any x HX.out _).mono ?_
          rintro e w1 ⟨rfl, rfl⟩
          rw [← S1.out]
          cases s1 with
          | false =>
            by_cases k1 : t > 0
            · go_wp2_with fail
              refine (nan_any _).mono ?_
              rintro e w1 ⟨rfl, rfl⟩
              go_wp2_with fail
              refine (order_any 9221120237041090561 x (by decide) HX.out _).mono ?_
              rintro e w1 ⟨rfl, rfl⟩
              rw [← SL.out]
              go_wp2_with fail
              refine (awake_any _).mono ?_
              rintro e w7 ⟨rfl, hb7⟩
              have HB7 := Lib.hid hb7
              clear hb7
              go_wp2
              go_ret
              exact ⟨rfl, HB7.out⟩
            by_cases k2 : u > 0
            · go_wp2_with fail
              refine (nan_any _).mono ?_
              rintro e w1 ⟨rfl, rfl⟩
              go_wp2_with fail
              refine (order_any 9221120237041090561 x (by decide) HX.out _).mono ?_
              rintro e w1 ⟨rfl, rfl⟩
              rw [← SL.out]
              go_wp2_with fail
              refine (awake_any _).mono ?_
              rintro e w7 ⟨rfl, hb7⟩
              have HB7 := Lib.hid hb7
              clear hb7
              go_wp2
              go_ret
              exact ⟨rfl, HB7.out⟩
            have k3 : v ≤ 0 := C8.out (by omega) (by omega)
            go_wp2_with fail
            refine (nan_any _).mono ?_
            rintro e w1 ⟨rfl, rfl⟩
            go_wp2_with fail
            refine (order_any 9221120237041090561 x (by decide) HX.out _).mono ?_
            rintro e w1 ⟨rfl, rfl⟩
            rw [← SL.out]
            go_wp2_with fail
            refine (awake_any _).mono ?_
            rintro e w7 ⟨rfl, hb7⟩
            have HB7 := Lib.hid hb7
            clear hb7
            go_wp2
            go_ret
            exact ⟨rfl, HB7.out⟩
          | true =>
            go_wp2_with fail
            refine (signbit_any y HY.out _).mono ?_
            rintro e w1 ⟨rfl, rfl⟩
            rw [← S2.out]
            cases s2 with
            | true =>
              by_cases k1 : t > 0
              · go_wp2_with fail
                refine (nan_any _).mono ?_
                rintro e w1 ⟨rfl, rfl⟩
                go_wp2_with fail
                refine (order_any 9221120237041090561 x (by decide) HX.out _).mono ?_
                rintro e w1 ⟨rfl, rfl⟩
                rw [← SL.out]
                go_wp2_with fail
                refine (awake_any _).mono ?_
                rintro e w7 ⟨rfl, hb7⟩
                have HB7 := Lib.hid hb7
                clear hb7
                go_wp2
                go_ret
                exact ⟨rfl, HB7.out⟩
              by_cases k2 : u > 0
              · go_wp2_with fail
                refine (nan_any _).mono ?_
                rintro e w1 ⟨rfl, rfl⟩
                go_wp2_with fail
                refine (order_any 9221120237041090561 x (by decide) HX.out _).mono ?_
                rintro e w1 ⟨rfl, rfl⟩
                rw [← SL.out]
                go_wp2_with fail
                refine (awake_any _).mono ?_
                rintro e w7 ⟨rfl, hb7⟩
                have HB7 := Lib.hid hb7
                clear hb7
                go_wp2
                go_ret
                exact ⟨rfl, HB7.out⟩
              have k3 : v ≤ 0 := C8.out (by omega) (by omega)
              go_wp2_with fail
              refine (nan_any _).mono ?_
              rintro e w1 ⟨rfl, rfl⟩
              go_wp2_with fail
              refine (order_any 9221120237041090561 x (by decide) HX.out _).mono ?_
              rintro e w1 ⟨rfl, rfl⟩
              rw [← SL.out]
              go_wp2_with fail
              refine (awake_any _).mono ?_
              rintro e w7 ⟨rfl, hb7⟩
              have HB7 := Lib.hid hb7
              clear hb7
              go_wp2
              go_ret
              exact ⟨rfl, HB7.out⟩
            | false =>
              obtain rfl := C7.out (by first | rfl | trivial) (by first | rfl | trivial) (by first | rfl | trivial) (by first | rfl | trivial)
              by_cases k2 : u > 0
              · go_wp2_with fail
                refine (nan_any _).mono ?_
                rintro e w1 ⟨rfl, rfl⟩
                go_wp2_with fail
                refine (order_any 9221120237041090561 x (by decide) HX.out _).mono ?_
                rintro e w1 ⟨rfl, rfl⟩
                rw [← SL.out]
                go_wp2_with fail
                refine (awake_any _).mono ?_
                rintro e w7 ⟨rfl, hb7⟩
                have HB7 := Lib.hid hb7
                clear hb7
                go_wp2
                go_ret
                exact ⟨rfl, HB7.out⟩
              have k3 : v ≤ 0 := C8.out (by omega) (by omega)
              go_wp2_with fail
              refine (nan_any _).mono ?_
              rintro e w1 ⟨rfl, rfl⟩
              go_wp2_with fail
              refine (order_any 9221120237041090561 x (by decide) HX.out _).mono ?_
              rintro e w1 ⟨rfl, rfl⟩
              rw [← SL.out]
              go_wp2_with fail
              refine (awake_any _).mono ?_
              rintro e w7 ⟨rfl, hb7⟩
              have HB7 := Lib.hid hb7
              clear hb7
              go_wp2
              go_ret
              exact ⟨rfl, HB7.out⟩
    | true =>
      have hz1 : e1 = false := by cases e1; rfl; exact absurd (C6.out rfl) (by decide)
      subst hz1
      go_wp2_with fail
      refine (isNaN_any y _).mono ?_
      rintro e w1 ⟨rfl, rfl⟩
      rw [← N2.out]
      cases n2 with
      | true =>
        by_cases k1 : t > 0
        · go_wp2_with fail
          refine (nan_any _).mono ?_
          rintro e w1 ⟨rfl, rfl⟩
          go_wp2_with fail
          refine (order_any 9221120237041090561 x (by decide) HX.out _).mono ?_
          rintro e w1 ⟨rfl, rfl⟩
          rw [← SL.out]
          go_wp2_with fail
          refine (awake_any _).mono ?_
          rintro e w7 ⟨rfl, hb7⟩
          have HB7 := Lib.hid hb7
          clear hb7
          go_wp2
          go_ret
          exact ⟨rfl, HB7.out⟩
        by_cases k2 : u > 0
        · go_wp2_with fail
          refine (nan_any _).mono ?_
          rintro e w1 ⟨rfl, rfl⟩
          go_wp2_with fail
          refine (order_any 9221120237041090561 x (by decide) HX.out _).mono ?_
          rintro e w1 ⟨rfl, rfl⟩
          rw [← SL.out]
          go_wp2_with fail
          refine (awake_any _).mono ?_
          rintro e w7 ⟨rfl, hb7⟩
          have HB7 := Lib.hid hb7
          clear hb7
          go_wp2
          go_ret
          exact ⟨rfl, HB7.out⟩
        have k3 : v ≤ 0 := C8.out (by omega) (by omega)
        go_wp2_with fail
        refine (nan_any _).mono ?_
        rintro e w1 ⟨rfl, rfl⟩
        go_wp2_with fail
        refine (order_any 9221120237041090561 x (by decide) HX.out _).mono ?_
        rintro e w1 ⟨rfl, rfl⟩
        rw [← SL.out]
        go_wp2_with fail
        refine (awake_any _).mono ?_
        rintro e w7 ⟨rfl, hb7⟩
        have HB7 := Lib.hid hb7
        clear hb7
        go_wp2
        go_ret
        exact ⟨rfl, HB7.out⟩
      | false =>
        obtain rfl := C5.out (by first | rfl | trivial) (by first | rfl | trivial)
        go_wp2_with fail
        refine (nan_any _).mono ?_
        rintro e w1 ⟨rfl, rfl⟩
        go_wp2_with fail
        refine (order_any 9221120237041090561 x (by decide) HX.out _).mono ?_
        rintro e w1 ⟨rfl, rfl⟩
        rw [← SL.out]
        go_wp2_with fail
        refine (awake_any _).mono ?_
        rintro e w7 ⟨rfl, hb7⟩
        have HB7 := Lib.hid hb7
        clear hb7
        go_wp2
        go_ret
        exact ⟨rfl, HB7.out⟩
theorem scoreTotal_walk (x : Nat) (hx : (Lit.float .f64 x).wf = true) (y : Nat) (hy : (Lit.float .f64 y).wf = true) (z : Nat) (hz : (Lit.float .f64 z).wf = true) (w : World) :
    Calls Try.prog 7 #[.float .f64 x, .float .f64 y, .float .f64 z] w fun e w' => e = .returned (.bool true) ∧ Below w.heap.size w w' := total_any x y z (flt_wf hx) (flt_wf hy) (flt_wf hz) w
end Go.Proofs.Ytkapidcgonjbaaa
