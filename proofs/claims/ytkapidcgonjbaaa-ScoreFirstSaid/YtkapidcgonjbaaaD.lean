/- The walks of ScoreDivides, ScoreOrders. -/
import Derived.Test.YtkapidcgonjbaaaAw
import Derived.Laws.Cover2
namespace Go.Proofs.Ytkapidcgonjbaaa
open Go.RowKit
set_option linter.unusedVariables false

theorem isQ_lt {x y b : Nat} (h : isQ x y b) : b < 18446744073709551616 := h.1

set_option maxHeartbeats 2000000 in
set_option maxRecDepth 100000 in
theorem scoreDivides_walk (a : Int) (ha : (Lit.int .i64 a).wf = true) (b : Int) (hb : (Lit.int .i64 b).wf = true) (c : Int) (hc : (Lit.int .i64 c).wf = true) (w : World) :
    Calls Try.prog 3 #[.int .i64 a, .int .i64 b, .int .i64 c] w fun e w' => e = .returned (.bool true) ∧ Below w.heap.size w w' := by
  clear ha hb hc
  go_enter Try.func3, Try.ntmps3
  go_wp2_with fail
  refine (ratio_any a b _).mono ?_
  rintro e w1 ⟨q1, n1, rfl, h1, rfl⟩
  have H1 := Lib.hid h1
  clear h1
  go_wp2_with fail
  refine (rratio_any a b _).mono ?_
  rintro e w2 ⟨q2, n2, rfl, h2, rfl⟩
  have H2 := Lib.hid h2
  clear h2
  go_wp2_with fail
  refine (rorder_any q1 q2 (isQ_lt H1.out) (isQ_lt H2.out) _).mono ?_
  rintro e w3 ⟨rfl, hw3⟩
  rw [isQ_ord H1.out H2.out]
  have HB3 := Lib.hid (show Below w.heap.size w w3 by rw [← hw3]; exact below_drewN (Below.refl _ _) _)
  clear hw3
  go_wp2_with fail
  refine (like_any a b c _).mono ?_
  rintro e w4 ⟨q3, n3, rfl, h3, hw4⟩
  have H3 := Lib.hid h3
  have HB4 := Lib.hid (show Below w.heap.size w w4 by rw [hw4]; exact below_drewN HB3.out n3)
  clear h3 hw4
  go_wp2_with fail
  refine (rlike_any a b c _).mono ?_
  rintro e w5 ⟨q4, n4, rfl, h4, hw5⟩
  have H4 := Lib.hid h4
  have HB5 := Lib.hid (show Below w.heap.size w w5 by rw [hw5]; exact below_drewN HB4.out n4)
  clear h4 hw5
  go_wp2_with fail
  refine (rorder_any q3 q4 (likeQ_lt H3.out) (likeQ_lt H4.out) _).mono ?_
  rintro e w6 ⟨rfl, rfl⟩
  rw [likeQ_ord H3.out H4.out]
  go_wp2_with fail
  refine (awake_any _).mono ?_
  rintro e w7 ⟨rfl, hb7⟩
  have HB7 := Lib.hid (HB5.out.trans (hb7.mono HB5.out.size))
  clear hb7
  go_wp2
  go_ret
  exact ⟨rfl, HB7.out⟩

set_option maxHeartbeats 2000000 in
set_option maxRecDepth 100000 in
theorem orders_any (x y : Nat) (hx : x < 18446744073709551616) (hy : y < 18446744073709551616) (w : World) :
    Calls Try.prog 4 #[.float .f64 x, .float .f64 y] w fun e w' => e = .returned (.bool true) ∧ Below w.heap.size w w' := by
  have HX := Lib.hid hx
  have HY := Lib.hid hy
  clear hx hy
  go_enter Try.func4, Try.ntmps4
  go_wp2_with fail
  refine (order_any x y HX.out HY.out _).mono ?_
  rintro e w1 ⟨rfl, rfl⟩
  go_wp2_with fail
  refine (rorder_any x y HX.out HY.out _).mono ?_
  rintro e w1 ⟨rfl, rfl⟩
  generalize fOrd x y = t
  go_wp2_with fail
  refine (awake_any _).mono ?_
  rintro e w7 ⟨rfl, hb7⟩
  have HB7 := Lib.hid hb7
  clear hb7
  go_wp2
  go_ret
  exact ⟨rfl, HB7.out⟩
theorem flt_wf {x : Nat} (h : (Lit.float .f64 x).wf = true) : x < 18446744073709551616 := by
  have := of_decide_eq_true h
  exact this
theorem scoreOrders_walk (x : Nat) (hx : (Lit.float .f64 x).wf = true) (y : Nat) (hy : (Lit.float .f64 y).wf = true) (w : World) :
    Calls Try.prog 4 #[.float .f64 x, .float .f64 y] w fun e w' => e = .returned (.bool true) ∧ Below w.heap.size w w' := orders_any x y (flt_wf hx) (flt_wf hy) w
end Go.Proofs.Ytkapidcgonjbaaa
