/- The reference's Find; the law OrderFinds: walks. -/
import Derived.Test.YteielgdgmmeciaaRh
namespace Go.Proofs.Yteielgdgmmeciaa
open Go.RowKit
set_option linter.unusedVariables false

set_option maxHeartbeats 2000000 in
set_option maxRecDepth 100000 in
theorem rfind_any (a : Option Addr) (cap : Nat) (xs : List (List UInt8)) (x : List UInt8) (w : World) (hm : xs.length ≤ 1000000) (hin : IdsIn w a xs) (hx : x.length = 32) :
    Calls Try.prog 25 #[.slice a xs.length cap, .agg (idB x)] w fun e w' => e = .returned (.tuple #[.int .i64 (findN x xs), .bool (findB x xs)]) ∧ Below w.heap.size w w' := by
  have hb0 := (Below.refl w.heap.size w).alloc (Nat.le_refl _) (.cells (idB x) 23)
  have f1 := fits_new w (idB x) 23 32 (by rw [idB_size, hx])
  have f2 := aggAt_new w (idB x) 23 32 (by rw [idB_size, hx])
  have hin1 := hin.below hb0
  obtain ⟨W, hW⟩ : ∃ W, W = w.alloc (.cells (idB x) 23) := ⟨_, rfl⟩
  rw [← hW] at hb0 f1 f2 hin1
  have HIN := Lib.hid hin1
  have HB0 := Lib.hid hb0
  have F12 := Lib.hid (And.intro f1 f2)
  clear hin hin1 hb0 f1 f2
  go_enter Try.func25, Try.ntmps25
  go_upto_region 1 with fail
  rw [← hW]
  clear hW
  go_wp2_with fail
  refine (risSet_any a cap xs _ hm HIN.out).mono ?_
  rintro e w1 ⟨rfl, hb1⟩
  have HB1 := Lib.hid (HB0.out.trans (hb1.mono HB0.out.size))
  have HIN1 := Lib.hid (HIN.out.below hb1)
  have F34 := Lib.hid (IdAt.below F12.out hb1)
  clear hb1 HIN F12
  cases hs : isSetL xs with
  | false =>
    have HS := Lib.hid hs
    clear hs
    go_wp2
    go_ret2
    exact ⟨ret_two (by simp [findN, HS.out]) (by simp [findB, HS.out]), HB1.out⟩
  | true =>
    have HS := Lib.hid hs
    clear hs
    go_wp2_with fail
    go_loopg [6] xs.length (fun g i wr => ∃ k : Nat, g + k = xs.length ∧ i = .int .i64 k ∧ (∀ j, j < k → cmpB (xs.getD j []) x < 0) ∧ Below w1.heap.size w1 wr)
    case atStart => exact ⟨0, by omega, rfl, fun j hj => by omega, Below.refl _ _⟩
    case round =>
      obtain ⟨k, hg, rfl, hall, hbw⟩ := hrel
      have HG := Lib.hid hg
      have HA := Lib.hid hall
      have HB := Lib.hid hbw
      have hkl : k ≤ xs.length := by omega
      clear hg hall hbw
      by_cases hk : k < xs.length
      · rcases HIN1.out.2 with h | ⟨b, off, rfl, hc⟩
        · subst h; simp at hk
        obtain ⟨e1, e2⟩ := IdAt.below (hc k hk) HB.out
        obtain ⟨e3, e4⟩ := IdAt.below F34.out HB.out
        clear hc
        have hy := HIN1.out.1 _ (getD_mem hk)
        obtain ⟨y, hye⟩ : ∃ y, y = xs.getD k [] := ⟨_, rfl⟩
        rw [← hye] at e2 hy
        have HYE := Lib.hid hye
        clear hye
        have RC := Lib.hid (fun W => rcompare_any y x hy hx W)
        have HCM := Lib.hid (show cmpB (xs.getD k []) x = Lib.compareBytes y x by rw [← HYE.out])
        have HZ := Lib.hid (cmpB_zero y x)
        have HZ2 := Lib.hid (show Lib.compareBytes y x = cmpB y x from rfl)
        generalize Lib.compareBytes y x = r at *
        have i1 : (k : Int) < xs.length := by omega
        have i2 : decide ((k : Int) < xs.length) = true := by simpa using i1
        have i3 : decide (k < xs.length) = true := by simpa using hk
        by_cases hr : r < 0
        · have j7 : decide (r < 0) = true := by simpa using hr
          go_wp2_with fail
          refine wp_region_over (by kernel_rfl) (by kernel_rfl) ?_
          repeat (go_big_quiet_step ((go_at_call 12; exact Calls.over_of (RC.out _))))
          refine wpQuiet_nil ?_
          rintro _ ⟨x0, rfl⟩
          clear e1 e2 e3 e4 j7
          go_wp2
          go_roundg (gk - 1)
          case measure => have := HG.out; omega
          case rel => exact ⟨k + 1, by have := HG.out; omega, by go_num, fun j hj => by
            by_cases e : j = k
            · rw [e, HCM.out]; exact hr
            · exact HA.out j (by omega), HB.out.trans ((ov_below wr x0).mono HB.out.size)⟩
        · have j7 : decide (r < 0) = false := by simpa using hr
          have hp := Lib.hid (placeN_eq x xs k hkl HA.out (fun _ => by have := HCM.out; omega))
          go_wp2_with fail
          refine wp_region_over (by kernel_rfl) (by kernel_rfl) ?_
          repeat (go_big_quiet_step ((go_at_call 12; exact Calls.over_of (RC.out _))))
          refine wpQuiet_nil ?_
          rintro _ ⟨x0, rfl⟩
          have g1 := fits_ov wr x0 _ _ e1
          have g2 := (agg_ov wr x0 _ _ e1).trans e2
          have g3 := fits_ov wr x0 _ _ e3
          have g4 := (agg_ov wr x0 _ _ e3).trans e4
          have HBQ := Lib.hid (HB.out.trans ((ov_below wr x0).mono HB.out.size))
          clear e1 e2 e3 e4 j7
          generalize ov wr x0 = wq at *
          obtain ⟨q, hq⟩ : ∃ q, (y == x) = q := ⟨_, rfl⟩
          have HQ := Lib.hid hq
          clear hq
          go_wp2_with fail
          refine wp_region_over (by kernel_rfl) (by kernel_rfl) ?_
          repeat (go_big_quiet_step (fail))
          refine wpQuiet_nil ?_
          rintro _ ⟨x1, rfl⟩
          rw [show (y == x) = q from HQ.out]
          clear g1 g2 g3 g4
          go_wp2
          go_ret2
          exact ⟨ret_two (by simp [findN, HS.out, hp.out]) (by simp only [findB, HS.out, isAt, hp.out, Bool.true_and, hk, decide_true, ← HYE.out]; exact HQ.out.symm), HB1.out.trans ((HBQ.out.trans ((ov_below wq x1).mono HBQ.out.size)).mono HB1.out.size)⟩
      · have hp := Lib.hid (placeN_eq x xs k hkl HA.out (fun h => by omega))
        have i1 : ¬ (k : Int) < xs.length := by omega
        have i2 : decide ((k : Int) < xs.length) = false := by simpa using i1
        have i3 : decide (k < xs.length) = false := by simpa using hk
        go_wp2_with fail
        refine wp_region_over (by kernel_rfl) (by kernel_rfl) ?_
        repeat (go_big_quiet_step (fail))
        refine wpQuiet_nil ?_
        rintro _ ⟨x0, rfl⟩
        have HBQ := Lib.hid (HB.out.trans ((ov_below wr x0).mono HB.out.size))
        generalize ov wr x0 = wq at *
        go_wp2_with fail
        refine wp_region_over (by kernel_rfl) (by kernel_rfl) ?_
        repeat (go_big_quiet_step (fail))
        refine wpQuiet_nil ?_
        rintro _ ⟨x1, rfl⟩
        go_wp2
        go_ret2
        exact ⟨ret_two (by simp [findN, HS.out, hp.out]) (by simp [findB, HS.out, isAt, hp.out, hk]), HB1.out.trans ((HBQ.out.trans ((ov_below wq x1).mono HBQ.out.size)).mono HB1.out.size)⟩

end Go.Proofs.Yteielgdgmmeciaa
