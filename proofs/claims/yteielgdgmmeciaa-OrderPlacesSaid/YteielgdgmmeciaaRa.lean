/- The reference's IsSet, In, Find. -/
import Derived.Test.YteielgdgmmeciaaZa
namespace Go.Proofs.Yteielgdgmmeciaa
open Go.RowKit
set_option linter.unusedVariables false

set_option maxHeartbeats 1000000 in
set_option maxRecDepth 100000 in
theorem risSet_any (a : Option Addr) (cap : Nat) (xs : List (List UInt8)) (w : World) (hm : xs.length ≤ 1000000) (hin : IdsIn w a xs) :
    Calls Try.prog 23 #[.slice a xs.length cap] w fun e w' => e = .returned (.bool (isSetL xs)) ∧ Below w.heap.size w w' := by
  have HIN := Lib.hid hin
  clear hin
  go_enter Try.func23, Try.ntmps23
  go_wp2_with fail
  go_loopg [3] (xs.length + 1) (fun g i wr => ∃ j : Nat, g + j = xs.length + 2 ∧ 1 ≤ j ∧ (j ≤ xs.length ∨ j = 1) ∧ i = .int .i64 j ∧ isSetL (xs.take j) = true ∧ Below w.heap.size w wr)
  case atStart => exact ⟨1, by omega, by omega, .inr rfl, rfl, by cases xs <;> simp [isSetL], Below.refl _ _⟩
  case round =>
    obtain ⟨j, hg, h1, h2, rfl, hall, hbw⟩ := hrel
    have HG := Lib.hid hg
    have H2 := Lib.hid h2
    have HA := Lib.hid hall
    have HB := Lib.hid hbw
    clear hg hall hbw h2
    by_cases hk : j < xs.length
    · rcases HIN.out.2 with h | ⟨b, off, rfl, hc⟩
      · subst h; simp at hk
      obtain ⟨e1, e2⟩ := IdAt.below (hc (j - 1) (by omega)) HB.out
      obtain ⟨e3, e4⟩ := IdAt.below (hc j hk) HB.out
      clear hc
      have HS := isSet_snoc xs (j - 1) (by omega)
      rw [show j - 1 + 2 = j + 1 by omega, show j - 1 + 1 = j by omega] at HS
      have hx := HIN.out.1 _ (getD_mem (show j - 1 < xs.length by omega))
      have hy := HIN.out.1 _ (getD_mem hk)
      generalize xs.getD (j - 1) [] = x at *
      generalize xs.getD j [] = y at *
      have RC := Lib.hid (fun W => rcompare_any x y hx hy W)
      generalize Lib.compareBytes x y = r at *
      have HSS := Lib.hid HS
      clear HS
      have i1 : (j : Int) < xs.length := by omega
      have i2 : 0 < (j : Int) := by omega
      have i5 : ((j : Int) - 1).toNat = j - 1 := by omega
      have i6 : IntKind.i64.wrap ((j : Int) - 1) = (j : Int) - 1 := IntWalk.i64_in _ (by omega)
      by_cases hr : 0 ≤ r
      · go_wp2_with fail
        refine wp_region_over (by kernel_rfl) (by kernel_rfl) ?_
        repeat (go_big_quiet_step ((go_at_call 12; exact Calls.over_of (RC.out _))))
        refine wpQuiet_nil ?_
        rintro _ ⟨x0, rfl⟩
        clear e1 e2 e3 e4 i6
        go_wp2
        go_ret
        exact ⟨ret_bool (HSS.out.2 hr).symm, HB.out.trans ((ov_below wr x0).mono HB.out.size)⟩
      · go_wp2_with fail
        refine wp_region_over (by kernel_rfl) (by kernel_rfl) ?_
        repeat (go_big_quiet_step ((go_at_call 12; exact Calls.over_of (RC.out _))))
        refine wpQuiet_nil ?_
        rintro _ ⟨x0, rfl⟩
        clear e1 e2 e3 e4 i6
        go_wp2
        go_roundg (gk - 1)
        case measure => have := HG.out; omega
        case rel => exact ⟨j + 1, by have := HG.out; omega, by omega, .inl (by omega), by go_num, by rw [HSS.out.1, HA.out]; simpa using hr, HB.out.trans ((ov_below wr x0).mono HB.out.size)⟩
    · go_wp2
      go_ret
      have ha := HA.out
      rw [List.take_of_length_le (by omega)] at ha
      exact ⟨ret_bool ha.symm, HB.out⟩

set_option maxHeartbeats 1000000 in
set_option maxRecDepth 100000 in
theorem in_any (a : Option Addr) (cap : Nat) (xs : List (List UInt8)) (x : List UInt8) (w : World) (hm : xs.length ≤ 1000000) (hin : IdsIn w a xs) (hx : x.length = 32) :
    Calls Try.prog 26 #[.slice a xs.length cap, .agg (idB x)] w fun e w' => e = .returned (.bool (decide (x ∈ xs))) ∧ Below w.heap.size w w' := by
  have hb0 := (Below.refl w.heap.size w).alloc (Nat.le_refl _) (.cells (idB x) 23)
  have f1 := fits_new w (idB x) 23 32 (by rw [idB_size, hx])
  have f2 := aggAt_new w (idB x) 23 32 (by rw [idB_size, hx])
  have hin1 := hin.below hb0
  obtain ⟨W, hW⟩ : ∃ W, W = w.alloc (.cells (idB x) 23) := ⟨_, rfl⟩
  rw [← hW] at hb0 f1 f2 hin1
  have HIN := Lib.hid hin1
  have HB0 := Lib.hid hb0
  have F12 := Lib.hid (And.intro f1 f2)
  clear hin hin1 hb0 f1 f2
  go_enter Try.func26, Try.ntmps26
  go_wp2_with fail
  rw [← hW]
  clear hW
  go_loopg [5] xs.length (fun g i wr => ∃ k : Nat, g + k = xs.length ∧ i = .int .i64 k ∧ ¬ x ∈ xs.take k ∧ Below W.heap.size W wr)
  case atStart => exact ⟨0, by omega, rfl, by simp, Below.refl _ _⟩
  case round =>
    obtain ⟨k, hg, rfl, hall, hbw⟩ := hrel
    have HG := Lib.hid hg
    have HA := Lib.hid hall
    have HB := Lib.hid hbw
    clear hg hall hbw
    by_cases hk : k < xs.length
    · rcases HIN.out.2 with h | ⟨b, off, rfl, hc⟩
      · subst h; simp at hk
      obtain ⟨e1, e2⟩ := IdAt.below (hc k hk) HB.out
      obtain ⟨e3, e4⟩ := IdAt.below F12.out HB.out
      clear hc
      have hy := HIN.out.1 _ (getD_mem hk)
      have hmem := getD_mem hk
      have HT := Lib.hid (take_snoc [] xs k hk)
      have HM := Lib.hid hmem
      clear hmem
      generalize xs.getD k [] = y at *
      have i1 : (k : Int) < xs.length := by omega
      by_cases hxy : y = x
      · subst hxy
        have i2 : (y == y) = true := beq_self_eq_true _
        go_wp2_with fail
        refine wp_region_over (by kernel_rfl) (by kernel_rfl) ?_
        repeat (go_big_quiet_step (fail))
        refine wpQuiet_nil ?_
        rintro _ ⟨x0, rfl⟩
        clear e1 e2 e3 e4 i2
        go_wp2
        go_ret
        exact ⟨ret_bool (by simp [HM.out]), HB0.out.trans ((HB.out.trans ((ov_below wr x0).mono HB.out.size)).mono HB0.out.size)⟩
      · have i2 : (y == x) = false := beq_eq_false_iff_ne.2 hxy
        have HXY := Lib.hid hxy
        clear hxy
        go_wp2_with fail
        refine wp_region_over (by kernel_rfl) (by kernel_rfl) ?_
        repeat (go_big_quiet_step (fail))
        refine wpQuiet_nil ?_
        rintro _ ⟨x0, rfl⟩
        clear e1 e2 e3 e4 i2
        go_wp2
        go_roundg (gk - 1)
        case measure => have := HG.out; omega
        case rel => exact ⟨k + 1, by have := HG.out; omega, by go_num, by rw [HT.out]; simp only [List.mem_append, List.mem_singleton]; rintro (h | h); exact HA.out h; exact HXY.out h.symm, HB.out.trans ((ov_below wr x0).mono HB.out.size)⟩
    · go_wp2
      go_ret
      have ha := HA.out
      rw [List.take_of_length_le (by omega)] at ha
      exact ⟨ret_bool (by simp [ha]), HB0.out.trans (HB.out.mono HB0.out.size)⟩

end Go.Proofs.Yteielgdgmmeciaa
