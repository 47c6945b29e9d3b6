/- Like; pairs of numbers alike; cmp.Or of two. -/
import Derived.Test.YtkapidcgonjbaaaC
import Derived.Test.YtkapidcgonjbaaaRec
namespace Go.Proofs.Ytkapidcgonjbaaa
open Go.RowKit
set_option linter.unusedVariables false

theorem run_idx (a b c : Int) (i : Int) (w : World) (h : 0 ≤ i ∧ i < 3) : (Instr.index 49 (.agg #[.int .i64 a, .int .i64 b, .int .i64 c]) (.int .i64 i)).run Try.prog w = .ok (.int .i64 (if i = 0 then a else if i = 1 then b else c)) w := by
  have hp : Try.prog.plainKey 3 = true := by kernel_rfl
  have h3 : (Try.prog.info? 3).map (·.size) = some 1 := by kernel_rfl
  cases hq : Try.prog.info? 3 with
  | none => rw [hq] at h3; cases h3
  | some ti =>
    have hs : ti.size = 1 := by simpa [hq] using h3
    have hi : i = 0 ∨ i = 1 ∨ i = 2 := by omega
    rcases hi with rfl | rfl | rfl <;> simp [Instr.index, run_underlying Try.underlying49, asIntOf, part, isAgg, run_underlying Try.underlying3, sizeOf, typeInfo, hq, hs]
@[go_sem] theorem run_idx0 (a b c : Int) (w : World) : (Instr.index 49 (.agg #[.int .i64 a, .int .i64 b, .int .i64 c]) (.int .i64 0)).run Try.prog w = .ok (.int .i64 a) w := run_idx a b c 0 w (by omega)
@[go_sem] theorem run_idx1 (a b c : Int) (w : World) : (Instr.index 49 (.agg #[.int .i64 a, .int .i64 b, .int .i64 c]) (.int .i64 1)).run Try.prog w = .ok (.int .i64 b) w := run_idx a b c 1 w (by omega)
@[go_sem] theorem run_idx2 (a b c : Int) (w : World) : (Instr.index 49 (.agg #[.int .i64 a, .int .i64 b, .int .i64 c]) (.int .i64 2)).run Try.prog w = .ok (.int .i64 c) w := run_idx a b c 2 w (by omega)

set_option maxHeartbeats 2000000 in
set_option maxRecDepth 100000 in
theorem like_any (a b c : Int) (w : World) : Calls Try.prog 14 #[.int .i64 a, .int .i64 b, .int .i64 c] w fun e w' => ∃ q n, e = .returned (.float .f64 q) ∧ likeQ a b c q ∧ w' = w.drewN n := by
  have done : (mayB a && (mayB b && mayB c)) = false → likeQ a b c 9221120237041090561 := fun h => by unfold likeQ; rw [if_neg (by rw [h]; decide)]
  by_cases haneg : a < 0
  · have HD := Lib.hid (done (by simp [mayB]; omega))
    clear done
    go_enter Try.func14, Try.ntmps14
    go_wp2_with fail
    refine wp_loop_rounds 4 ?_
    rw [rounds_succ]
    go_wp2_with fail
    refine (nan_any _).mono ?_
    rintro e w1 ⟨rfl, rfl⟩
    go_wp2
    go_ret
    exact ⟨_, 0, rfl, HD.out, rfl⟩
  by_cases habig : 1099511627776 < a
  · have HD := Lib.hid (done (by simp [mayB]; omega))
    clear done
    go_enter Try.func14, Try.ntmps14
    go_wp2_with fail
    refine wp_loop_rounds 4 ?_
    rw [rounds_succ]
    go_wp2_with fail
    refine (nan_any _).mono ?_
    rintro e w1 ⟨rfl, rfl⟩
    go_wp2
    go_ret
    exact ⟨_, 0, rfl, HD.out, rfl⟩
  by_cases hbneg : b < 0
  · have HD := Lib.hid (done (by simp [mayB]; omega))
    clear done
    go_enter Try.func14, Try.ntmps14
    go_wp2_with fail
    refine wp_loop_rounds 4 ?_
    rw [rounds_succ]
    go_wp2_with fail
    rw [rounds_succ]
    go_wp2_with fail
    refine (nan_any _).mono ?_
    rintro e w1 ⟨rfl, rfl⟩
    go_wp2
    go_ret
    exact ⟨_, 0, rfl, HD.out, rfl⟩
  by_cases hbbig : 1099511627776 < b
  · have HD := Lib.hid (done (by simp [mayB]; omega))
    clear done
    go_enter Try.func14, Try.ntmps14
    go_wp2_with fail
    refine wp_loop_rounds 4 ?_
    rw [rounds_succ]
    go_wp2_with fail
    rw [rounds_succ]
    go_wp2_with fail
    refine (nan_any _).mono ?_
    rintro e w1 ⟨rfl, rfl⟩
    go_wp2
    go_ret
    exact ⟨_, 0, rfl, HD.out, rfl⟩
  by_cases hcneg : c < 0
  · have HD := Lib.hid (done (by simp [mayB]; omega))
    clear done
    go_enter Try.func14, Try.ntmps14
    go_wp2_with fail
    refine wp_loop_rounds 4 ?_
    rw [rounds_succ]
    go_wp2_with fail
    rw [rounds_succ]
    go_wp2_with fail
    rw [rounds_succ]
    go_wp2_with fail
    refine (nan_any _).mono ?_
    rintro e w1 ⟨rfl, rfl⟩
    go_wp2
    go_ret
    exact ⟨_, 0, rfl, HD.out, rfl⟩
  by_cases hcbig : 1099511627776 < c
  · have HD := Lib.hid (done (by simp [mayB]; omega))
    clear done
    go_enter Try.func14, Try.ntmps14
    go_wp2_with fail
    refine wp_loop_rounds 4 ?_
    rw [rounds_succ]
    go_wp2_with fail
    rw [rounds_succ]
    go_wp2_with fail
    rw [rounds_succ]
    go_wp2_with fail
    refine (nan_any _).mono ?_
    rintro e w1 ⟨rfl, rfl⟩
    go_wp2
    go_ret
    exact ⟨_, 0, rfl, HD.out, rfl⟩
  have HD := Lib.hid (fun q (h : isQ (floatOfInt .f64 (2 * a)) (floatOfInt .f64 (b + c)) q) => (show likeQ a b c q by unfold likeQ; rw [if_pos (by simp [mayB]; omega)]; exact h))
  have g1 : 0 ≤ a ∧ a ≤ 1099511627776 := by omega
  have g2 : 0 ≤ b ∧ b ≤ 1099511627776 := by omega
  have g3 : 0 ≤ c ∧ c ≤ 1099511627776 := by omega
  obtain ⟨a1, a2⟩ := g1
  obtain ⟨b1, b2⟩ := g2
  obtain ⟨c1, c2⟩ := g3
  clear done
  go_enter Try.func14, Try.ntmps14
  go_wp2_with fail
  refine wp_loop_rounds 4 ?_
  rw [rounds_succ]
  go_wp2_with fail
  rw [rounds_succ]
  go_wp2_with fail
  rw [rounds_succ]
  go_wp2_with fail
  rw [rounds_succ]
  go_wp2_with fail
  refine (ratio_any (2 * a) (b + c) _).mono ?_
  rintro e w1 ⟨q, n, rfl, hq, rfl⟩
  have HQ := Lib.hid hq
  clear hq
  go_wp2
  go_ret
  exact ⟨_, _, rfl, HD.out _ HQ.out, rfl⟩

theorem likeQ_ord {a b c : Int} {p q : Nat} (h1 : likeQ a b c p) (h2 : likeQ a b c q) : fOrd p q = 0 := by
  unfold likeQ at *
  split at h1
  · rename_i h; rw [if_pos h] at h2; exact isQ_ord h1 h2
  · rename_i h; rw [if_neg h] at h2; subst h1 h2; decide
theorem likeQ_lt {a b c : Int} {p : Nat} (h1 : likeQ a b c p) : p < 18446744073709551616 := by
  unfold likeQ at h1
  split at h1
  · exact h1.1
  · subst h1; decide

def or2 (a b : Int) : Int := if a ≠ 0 then a else b
def or3 (a b c : Int) : Int := if a ≠ 0 then a else if b ≠ 0 then b else c

set_option maxHeartbeats 1000000 in
set_option maxRecDepth 100000 in
theorem cmpOr2 (a b : Int) (g : Nat) (w : World) (h0 : w.cell? ⟨g, 0, none⟩ = some (.int .i64 a)) (h1 : w.cell? ⟨g, 1, none⟩ = some (.int .i64 b)) :
    Calls Try.prog 41 #[.slice (some ⟨g, 0, none⟩) 2 2] w fun e w' => e = .returned (.int .i64 (or2 a b)) ∧ w = w' := by
  unfold or2
  by_cases ha : a = 0
  · have da : (a != 0) = false := by simp [ha]
    rw [if_neg (by simp [ha])]
    clear ha
    by_cases hb : b = 0
    · have db : (b != 0) = false := by simp [hb]
      have HB := Lib.hid hb
      clear hb
      go_enter Try.func41, Try.ntmps41
      go_wp2_with fail
      refine wp_loop_rounds 3 ?_
      rw [rounds_succ]
      go_wp2_with fail
      rw [rounds_succ]
      go_wp2_with fail
      rw [rounds_succ]
      go_wp2_with fail
      go_ret
      exact ⟨ret_i HB.out.symm, rfl⟩
    · have db : (b != 0) = true := by simp [hb]
      clear hb
      go_enter Try.func41, Try.ntmps41
      go_wp2_with fail
      refine wp_loop_rounds 3 ?_
      rw [rounds_succ]
      go_wp2_with fail
      rw [rounds_succ]
      go_wp2_with fail
      go_ret
      exact ⟨rfl, rfl⟩
  · have da : (a != 0) = true := by simp [ha]
    rw [if_pos ha]
    clear ha
    go_enter Try.func41, Try.ntmps41
    go_wp2_with fail
    refine wp_loop_rounds 3 ?_
    rw [rounds_succ]
    go_wp2_with fail
    go_ret
    exact ⟨rfl, rfl⟩

set_option maxHeartbeats 1000000 in
set_option maxRecDepth 100000 in
theorem cmpOr3 (a b c : Int) (g : Nat) (w : World) (h0 : w.cell? ⟨g, 0, none⟩ = some (.int .i64 a)) (h1 : w.cell? ⟨g, 1, none⟩ = some (.int .i64 b)) (h2 : w.cell? ⟨g, 2, none⟩ = some (.int .i64 c)) :
    Calls Try.prog 41 #[.slice (some ⟨g, 0, none⟩) 3 3] w fun e w' => e = .returned (.int .i64 (or3 a b c)) ∧ w = w' := by
  unfold or3
  by_cases ha : a = 0
  · have da : (a != 0) = false := by simp [ha]
    rw [if_neg (by simp [ha])]
    clear ha
    by_cases hb : b = 0
    · have db : (b != 0) = false := by simp [hb]
      rw [if_neg (by simp [hb])]
      clear hb
      by_cases hc : c = 0
      · have dc : (c != 0) = false := by simp [hc]
        have HC := Lib.hid hc
        clear hc
        go_enter Try.func41, Try.ntmps41
        go_wp2_with fail
        refine wp_loop_rounds 4 ?_
        rw [rounds_succ]
        go_wp2_with fail
        rw [rounds_succ]
        go_wp2_with fail
        rw [rounds_succ]
        go_wp2_with fail
        rw [rounds_succ]
        go_wp2_with fail
        go_ret
        exact ⟨ret_i HC.out.symm, rfl⟩
      · have dc : (c != 0) = true := by simp [hc]
        clear hc
        go_enter Try.func41, Try.ntmps41
        go_wp2_with fail
        refine wp_loop_rounds 4 ?_
        rw [rounds_succ]
        go_wp2_with fail
        rw [rounds_succ]
        go_wp2_with fail
        rw [rounds_succ]
        go_wp2_with fail
        go_ret
        exact ⟨rfl, rfl⟩
    · have db : (b != 0) = true := by simp [hb]
      rw [if_pos hb]
      clear hb
      go_enter Try.func41, Try.ntmps41
      go_wp2_with fail
      refine wp_loop_rounds 4 ?_
      rw [rounds_succ]
      go_wp2_with fail
      rw [rounds_succ]
      go_wp2_with fail
      go_ret
      exact ⟨rfl, rfl⟩
  · have da : (a != 0) = true := by simp [ha]
    rw [if_pos ha]
    clear ha
    go_enter Try.func41, Try.ntmps41
    go_wp2_with fail
    refine wp_loop_rounds 4 ?_
    rw [rounds_succ]
    go_wp2_with fail
    go_ret
    exact ⟨rfl, rfl⟩

end Go.Proofs.Ytkapidcgonjbaaa
