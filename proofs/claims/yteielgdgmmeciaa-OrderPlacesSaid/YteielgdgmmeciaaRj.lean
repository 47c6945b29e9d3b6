/- The laws OrderFinds, OrderIn: walks. -/
import Derived.Test.YteielgdgmmeciaaRi
namespace Go.Proofs.Yteielgdgmmeciaa
open Go.RowKit
set_option linter.unusedVariables false

set_option maxHeartbeats 4000000 in
set_option maxRecDepth 100000 in
theorem finds_any (a : Option Addr) (cap : Nat) (xs : List (List UInt8)) (x : List UInt8) (w : World) (hcap : xs.length ≤ cap) (hcm : cap ≤ maxLen) (hin : IdsIn w a xs) (hn : a = none → xs = [] ∧ cap = 0) (hx : x.length = 32) :
    Calls Try.prog 5 #[.slice a xs.length cap, .agg (idB x)] w fun e w' => e = .returned (.bool true) ∧ Below w.heap.size w w' := by
  by_cases h1 : 300 < xs.length
  · go_enter Try.func5, Try.ntmps5
    go_wp2
    go_ret
    exact ⟨rfl, (Below.refl _ _).alloc (Nat.le_refl _) _⟩
  have A1 := Lib.hid hcap
  have A2 := Lib.hid hcm
  have A3 := Lib.hid hin
  have A4 := Lib.hid hn
  have A5 := Lib.hid hin.1
  have A6 := Lib.hid (show xs.length ≤ 1000 by omega)
  unfold maxLen at hcm
  clear hin hn
  have hb0 := (Below.refl w.heap.size w).alloc (Nat.le_refl _) (.cells (idB x) 23)
  have f1 := fits_new w (idB x) 23 32 (by rw [idB_size, hx])
  have f2 := aggAt_new w (idB x) 23 32 (by rw [idB_size, hx])
  have hin1 := A3.out.below hb0
  obtain ⟨W, hW⟩ : ∃ W, W = w.alloc (.cells (idB x) 23) := ⟨_, rfl⟩
  rw [← hW] at hb0 f1 f2 hin1
  have A3W := Lib.hid hin1
  have HB := Lib.hid hb0
  clear hin1 hb0
  go_enter Try.func5, Try.ntmps5
  go_upto_region 3 with fail
  rw [← hW]
  clear hW
  apply wp_region_specsL [[], [0], [], [1, 2], [3], [4], [4], [5], [6]] [some 13, some 14, some 15, some 16, some 12, some 17, some 18, some 5, some 6] [0, 1, 2, 3, 4, 5, 6, 7, 8]
    [eqv _, (fun v w => SlI w v xs), eqv _, eqv _, eqv _, eqv _, eqv _, eqv _, eqv _]
  case hm => kernel_rfl
  case hok => kernel_rfl
  case hop =>
    refine ⟨?_, ?_, ?_, ?_, ?_, ?_, ?_, ?_, ?_, trivial⟩
    · intro vs w1 hr _ hd
      obtain ⟨x1, rfl⟩ := ov_of hr
      clear hr
      simp only [putL]
      clear hd 
      go_wp2
      exact opEnds_mk rfl rfl rfl (Below.refl _ _) rfl
    · intro vs w1 hr _ hd
      obtain ⟨x1, rfl⟩ := ov_of hr
      clear hr
      have h0 := hd.get 0 rfl
      change vs 0 = _ at h0
      simp only [putL, h0]
      clear hd h0
      go_wp2_with fail
      refine (copy_any a cap xs _ (by have := A6.out; omega) (A3W.out.below (ov_below W x1)) A4.out).mono ?_
      rintro e w2 ⟨v, rfl, ho, hb2⟩
      have hsl := Lib.hid (SlI_row A5.out ho)
      clear ho
      go_wp2
      exact opEnds_mk rfl rfl rfl hb2 hsl.out
    · intro vs w1 hr _ hd
      obtain ⟨x1, rfl⟩ := ov_of hr
      clear hr
      simp only [putL]
      clear hd 
      go_wp2
      exact opEnds_mk rfl rfl rfl (Below.refl _ _) rfl
    · intro vs w1 hr _ hd
      obtain ⟨x1, rfl⟩ := ov_of hr
      clear hr
      have h1 := hd.get 1 rfl
      obtain ⟨a4, k4, e4, p4, q4, i4, n4⟩ := h1
      have h2 := hd.get 2 rfl
      change vs 2 = _ at h2
      have hI4 := Lib.hid i4
      clear i4 n4 p4 q4
      simp only [putL, e4, h2]
      clear hd e4 h2
      go_wp2_with fail
      refine (find_any a4 k4 xs x _ (by have := A6.out; omega) hI4.out hx).mono ?_
      rintro e w2 ⟨rfl, hb2⟩
      go_wp2
      exact opEnds_mk rfl rfl rfl (hb2) rfl
    · intro vs w1 hr _ hd
      obtain ⟨x1, rfl⟩ := ov_of hr
      clear hr
      have h3 := hd.get 3 rfl
      change vs 3 = _ at h3
      simp only [putL, h3]
      clear hd h3
      go_wp2
      exact opEnds_mk rfl rfl rfl (Below.refl _ _) rfl
    · intro vs w1 hr _ hd
      obtain ⟨x1, rfl⟩ := ov_of hr
      clear hr
      have h4 := hd.get 4 rfl
      change vs 4 = _ at h4
      simp only [putL, h4]
      clear hd h4
      go_wp2
      exact opEnds_mk rfl rfl rfl (Below.refl _ _) rfl
    · intro vs w1 hr _ hd
      obtain ⟨x1, rfl⟩ := ov_of hr
      clear hr
      have h4 := hd.get 4 rfl
      change vs 4 = _ at h4
      simp only [putL, h4]
      clear hd h4
      go_wp2
      exact opEnds_mk rfl rfl rfl (Below.refl _ _) rfl
    · intro vs w1 hr _ hd
      obtain ⟨x1, rfl⟩ := ov_of hr
      clear hr
      have h5 := hd.get 5 rfl
      change vs 5 = _ at h5
      simp only [putL, h5]
      clear hd h5
      go_wp2
      exact opEnds_mk rfl rfl rfl (Below.refl _ _) rfl
    · intro vs w1 hr _ hd
      obtain ⟨x1, rfl⟩ := ov_of hr
      clear hr
      have h6 := hd.get 6 rfl
      change vs 6 = _ at h6
      simp only [putL, h6]
      clear hd h6
      go_wp2
      exact opEnds_mk rfl rfl rfl (Below.refl _ _) rfl
  case hst => exact ⟨eqv_st _ _, slI_st _, eqv_st _ _, eqv_st _ _, eqv_st _ _, eqv_st _ _, eqv_st _ _, eqv_st _ _, eqv_st _ _, trivial⟩
  case hend =>
    intro vs w1 hr hd
    have h0 := hd.get 0 rfl
    change vs 0 = _ at h0
    have h1 := hd.get 1 rfl
    have h2 := hd.get 2 rfl
    change vs 2 = _ at h2
    have h3 := hd.get 3 rfl
    change vs 3 = _ at h3
    have h4 := hd.get 4 rfl
    change vs 4 = _ at h4
    have h5 := hd.get 5 rfl
    change vs 5 = _ at h5
    have h6 := hd.get 6 rfl
    change vs 6 = _ at h6
    have h7 := hd.get 7 rfl
    change vs 7 = _ at h7
    have h8 := hd.get 8 rfl
    change vs 8 = _ at h8
    obtain ⟨x1, rfl⟩ := ov_of hr
    simp only [putL, List.getD_cons_zero, List.getD_cons_succ, Act.put, List.setIfInBounds_toArray, List.set_cons_zero, List.set_cons_succ, h0, h2, h3, h4, h5, h6, h7, h8]
    clear hd hr h0 h2 h3 h4 h5 h6 h7 h8
    have HB2 := Lib.hid (HB.out.trans ((ov_below W x1).mono HB.out.size))
    have f3 := fits_ov W x1 _ _ f1
    have f4 := (agg_ov W x1 _ _ f1).trans f2
    have A3X := Lib.hid (A3W.out.below (ov_below W x1))
    clear f1 f2
    generalize ov W x1 = W at *
    go_wp2_with fail
    refine (rfind_any a cap xs x _ (by have := A6.out; omega) A3X.out hx).mono ?_
    rintro e w3 ⟨rfl, hb3⟩
    have HB3 := Lib.hid (HB2.out.trans (hb3.mono HB2.out.size))
    clear hb3 f3 f4
    generalize findN x xs = n at *
    generalize findB x xs = q at *
    have hqq : (q == q) = true := beq_self_eq_true _
    go_wp2_with fail
    refine (awake_any _).mono ?_
    rintro e w4 ⟨rfl, hb4⟩
    have HB4 := Lib.hid (HB3.out.trans (hb4.mono HB3.out.size))
    clear hb4
    go_wp2
    go_ret
    exact ⟨rfl, HB4.out⟩

theorem findB_set (x : List UInt8) (xs : List (List UInt8)) : findB x (setL xs) = decide (x ∈ xs) := by
  have h : isSetL (setL xs) = true := (strict_isSet _).2 (setL_strict xs)
  unfold findB
  rw [h, isAt_mem x h, Bool.true_and]
  simp only [setL_mem]
theorem findN_set (x : List UInt8) (xs : List (List UInt8)) (h : x ∈ xs) : findN x (setL xs) < (setL xs).length ∧ (setL xs).getD (findN x (setL xs)) [] = x := by
  have hs : isSetL (setL xs) = true := (strict_isSet _).2 (setL_strict xs)
  have ha := isAt_mem x hs
  simp only [setL_mem, h, decide_true, isAt, Bool.and_eq_true, decide_eq_true_eq, beq_iff_eq] at ha
  unfold findN
  rw [if_pos hs]
  exact ha

set_option maxHeartbeats 4000000 in
set_option maxRecDepth 100000 in
theorem ins_any (a : Option Addr) (cap : Nat) (xs : List (List UInt8)) (x : List UInt8) (w : World) (hcap : xs.length ≤ cap) (hcm : cap ≤ maxLen) (hin : IdsIn w a xs) (hn : a = none → xs = [] ∧ cap = 0) (hx : x.length = 32) :
    Calls Try.prog 7 #[.slice a xs.length cap, .agg (idB x)] w fun e w' => e = .returned (.bool true) ∧ Below w.heap.size w w' := by
  by_cases h1 : 300 < xs.length
  · go_enter Try.func7, Try.ntmps7
    go_wp2
    go_ret
    exact ⟨rfl, (Below.refl _ _).alloc (Nat.le_refl _) _⟩
  have A1 := Lib.hid hcap
  have A2 := Lib.hid hcm
  have A3 := Lib.hid hin
  have A4 := Lib.hid hn
  have A5 := Lib.hid hin.1
  have A6 := Lib.hid (show xs.length ≤ 1000 by omega)
  unfold maxLen at hcm
  clear hin hn
  have hb0 := (Below.refl w.heap.size w).alloc (Nat.le_refl _) (.cells (idB x) 23)
  have f1 := fits_new w (idB x) 23 32 (by rw [idB_size, hx])
  have f2 := aggAt_new w (idB x) 23 32 (by rw [idB_size, hx])
  have hin1 := A3.out.below hb0
  obtain ⟨W, hW⟩ : ∃ W, W = w.alloc (.cells (idB x) 23) := ⟨_, rfl⟩
  rw [← hW] at hb0 f1 f2 hin1
  have A3W := Lib.hid hin1
  have HB := Lib.hid hb0
  clear hin1 hb0
  go_enter Try.func7, Try.ntmps7
  go_upto_region 3 with fail
  rw [← hW]
  clear hW
  go_wp2_with fail
  refine (set_any a cap xs _ A1.out A2.out (by omega) A3W.out A4.out).mono ?_
  rintro e w1 ⟨v1, rfl, ho1, hb1⟩
  have FN := Lib.hid (fun z => findN_set z xs)
  have FB := Lib.hid (fun z => findB_set z xs)
  have X32 := Lib.hid (setL_32 A5.out)
  have NL := Lib.hid (show (setL xs).length ≤ 1000 by have := setL_length xs; omega)
  obtain ⟨s, hs⟩ : ∃ s, s = setL xs := ⟨_, rfl⟩
  rw [← hs] at ho1 FN FB X32 NL
  clear hs
  obtain ⟨a2, c2, rfl, q1, q2, q3, q4⟩ := SlI_row X32.out ho1
  have S3 := Lib.hid q3
  have HB1 := Lib.hid (HB.out.trans (hb1.mono HB.out.size))
  have A31 := Lib.hid (A3W.out.below hb1)
  obtain ⟨g1, g2⟩ := IdAt.below ⟨f1, f2⟩ hb1
  unfold maxLen at q2
  clear ho1 hb1 q3 q4 f1 f2
  have nl := NL.out
  go_wp2_with fail
  refine (find_any a2 c2 s x _ (by omega) S3.out hx).mono ?_
  rintro e w2 ⟨rfl, hb2⟩
  rw [FB.out x]
  have HB2 := Lib.hid (HB1.out.trans (hb2.mono HB1.out.size))
  have A32 := Lib.hid (A31.out.below hb2)
  have S32 := Lib.hid (S3.out.below hb2)
  have F2 := IdAt.below ⟨g1, g2⟩ hb2
  clear hb2 g1 g2
  obtain ⟨g1, g2⟩ := F2
  generalize findN x s = n0 at *
  obtain ⟨q, hq⟩ : ∃ q, decide (x ∈ xs) = q := ⟨_, rfl⟩
  rw [hq]
  have HQ := Lib.hid hq
  clear hq
  go_wp2_with fail
  refine (in_any a cap xs x _ (by omega) A32.out hx).mono ?_
  rintro e w3 ⟨rfl, hb3⟩
  rw [HQ.out]
  have HB3 := Lib.hid (HB2.out.trans (hb3.mono HB2.out.size))
  have A33 := Lib.hid (A32.out.below hb3)
  have S33 := Lib.hid (S32.out.below hb3)
  clear hb3 g1 g2
  have hqq : (q != q) = false := by cases q <;> rfl
  have hqq2 : (q == q) = true := by cases q <;> rfl
  go_wp2_with fail
  go_loopg [8] xs.length (fun g i wr => ∃ k : Nat, g + k = xs.length ∧ i = .int .i64 k ∧ Below w3.heap.size w3 wr)
  case atStart => exact ⟨0, by omega, rfl, Below.refl _ _⟩
  case round =>
    obtain ⟨k, hg, rfl, hbw⟩ := hrel
    have HG := Lib.hid hg
    have HBW := Lib.hid hbw
    clear hg hbw
    by_cases hk : k < xs.length
    · rcases A33.out.2 with h | ⟨b, off, rfl, hc⟩
      · subst h; simp at hk
      obtain ⟨e1, e2⟩ := IdAt.below (hc k hk) HBW.out
      clear hc
      have hy := A5.out _ (getD_mem hk)
      have hmem := getD_mem hk
      generalize xs.getD k [] = y at *
      obtain ⟨m1, m2⟩ := FN.out y hmem
      have HFB := Lib.hid (show findB y s = true by rw [FB.out y]; simpa using hmem)
      have i1 : (k : Int) < xs.length := by omega
      rcases S33.out.2 with h | ⟨b2, off2, rfl, hc2⟩
      · subst h; simp at m1
      obtain ⟨e3, e4⟩ := IdAt.below (hc2 _ m1) HBW.out
      rw [m2] at e4
      clear m2 hc2 hmem
      go_wp2_with fail
      refine (find_any (some ⟨b2, off2, none⟩) c2 s y _ (by omega) (S33.out.below HBW.out) hy).mono ?_
      rintro e w4 ⟨rfl, hb4⟩
      rw [HFB.out]
      obtain ⟨x0, rfl⟩ := ov_of hb4
      have HB4 := Lib.hid (HBW.out.trans ((ov_below wr x0).mono HBW.out.size))
      have g1 := fits_ov wr x0 _ _ e1
      have g2 := (agg_ov wr x0 _ _ e1).trans e2
      have g3 := fits_ov wr x0 _ _ e3
      have g4 := (agg_ov wr x0 _ _ e3).trans e4
      clear e1 e2 e3 e4 hb4
      generalize ov wr x0 = wq at *
      generalize findN y s = n at *
      have j1 : decide ((n : Int) < 0) = false := by simp
      have j2 : decide ((s.length : Int) ≤ (n : Int)) = false := by simp; omega
      have j3 : decide (s.length ≤ n) = false := by simp; omega
      have j4 : (n : Int) < s.length := by omega
      have j5 : (y == y) = true := beq_self_eq_true _
      go_upto_region 11 with fail
      refine wp_region_over (by kernel_rfl) (by kernel_rfl) ?_
      repeat (go_big_quiet_step (fail))
      refine wpQuiet_nil ?_
      rintro _ ⟨x1, rfl⟩
      clear g1 g2 g3 g4 j1 j2 j3 j5
      go_wp2
      go_roundg (gk - 1)
      case measure => have := HG.out; omega
      case rel => exact ⟨k + 1, by have := HG.out; omega, by go_num, HB4.out.trans ((ov_below wq x1).mono HB4.out.size)⟩
    · go_wp2_with fail
      refine (awake_any _).mono ?_
      rintro e w4 ⟨rfl, hb4⟩
      have HB4 := Lib.hid (HBW.out.trans (hb4.mono HBW.out.size))
      clear hb4
      go_wp2
      go_ret
      exact ⟨rfl, HB3.out.trans (HB4.out.mono HB3.out.size)⟩

end Go.Proofs.Yteielgdgmmeciaa
