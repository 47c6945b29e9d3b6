/- The law OrderSets: walk. -/
import Derived.Test.YteielgdgmmeciaaLw
namespace Go.Proofs.Yteielgdgmmeciaa
open Go.RowKit Go.WideShapes Go.ChangeShapes Go.ChangeMaps
set_option linter.unusedVariables false

theorem three_count (p q r : List UInt8 → Bool) : ∀ u : List (List UInt8), (∀ z ∈ u, (p z = true ∧ q z = false ∧ r z = false) ∨ (p z = false ∧ q z = true ∧ r z = false) ∨ (p z = false ∧ q z = false ∧ r z = true)) →
    u.length = (u.filter p).length + (u.filter q).length + (u.filter r).length
  | [], _ => by simp
  | z :: u, h => by
    have ih := three_count p q r u (fun y hy => h y (by simp [hy]))
    rcases h z (by simp) with ⟨a, b, c⟩ | ⟨a, b, c⟩ | ⟨a, b, c⟩ <;> simp [a, b, c] <;> omega
theorem sets_count (xs ys : List (List UInt8)) : (setL (xs ++ ys)).length = (setL (xs.filter fun z => !decide (z ∈ ys))).length + (setL (ys.filter fun z => !decide (z ∈ xs))).length + (setL (xs.filter fun z => decide (z ∈ ys))).length := by
  have hu := setL_strict (xs ++ ys)
  have e1 : setL (xs.filter fun z => !decide (z ∈ ys)) = (setL (xs ++ ys)).filter (fun z => decide (z ∈ xs) && !decide (z ∈ ys)) :=
    (setL_eq (filter_strict hu _) (fun x => by simp only [List.mem_filter, setL_mem, List.mem_append, Bool.and_eq_true, decide_eq_true_eq, Bool.not_eq_true', decide_eq_false_iff_not]; constructor; exact fun h => ⟨h.2.1, h.2.2⟩; exact fun h => ⟨.inl h.1, h.1, h.2⟩)).symm
  have e2 : setL (ys.filter fun z => !decide (z ∈ xs)) = (setL (xs ++ ys)).filter (fun z => !decide (z ∈ xs) && decide (z ∈ ys)) :=
    (setL_eq (filter_strict hu _) (fun x => by simp only [List.mem_filter, setL_mem, List.mem_append, Bool.and_eq_true, decide_eq_true_eq, Bool.not_eq_true', decide_eq_false_iff_not]; constructor; exact fun h => ⟨h.2.2, h.2.1⟩; exact fun h => ⟨.inr h.1, h.2, h.1⟩)).symm
  have e3 : setL (xs.filter fun z => decide (z ∈ ys)) = (setL (xs ++ ys)).filter (fun z => decide (z ∈ xs) && decide (z ∈ ys)) :=
    (setL_eq (filter_strict hu _) (fun x => by simp only [List.mem_filter, setL_mem, List.mem_append, Bool.and_eq_true, decide_eq_true_eq]; constructor; exact fun h => ⟨h.2.1, h.2.2⟩; exact fun h => ⟨.inl h.1, h.1, h.2⟩)).symm
  rw [e1, e2, e3]
  refine three_count _ _ _ _ fun z hz => ?_
  have : z ∈ xs ∨ z ∈ ys := by simpa [setL_mem] using hz
  by_cases h1 : z ∈ xs <;> by_cases h2 : z ∈ ys <;> simp_all
theorem mk_union (xs ys : List (List UInt8)) : setL (setL (xs.filter fun z => !decide (z ∈ ys)) ++ setL (xs.filter fun z => decide (z ∈ ys))) = setL xs :=
  setL_congr fun x => by
    simp only [List.mem_append, setL_mem, List.mem_filter, Bool.not_eq_true', decide_eq_false_iff_not, decide_eq_true_eq]
    by_cases h : x ∈ ys <;> simp [h]
theorem union_comm (xs ys : List (List UInt8)) : setL (ys ++ xs) = setL (xs ++ ys) := setL_congr fun x => by simp only [List.mem_append]; exact Or.comm

set_option maxHeartbeats 4000000 in
set_option maxRecDepth 100000 in
theorem sets_any (a : Option Addr) (cap : Nat) (xs : List (List UInt8)) (a' : Option Addr) (cap' : Nat) (ys : List (List UInt8)) (w : World) (hcap : xs.length ≤ cap) (hcm : cap ≤ maxLen) (hin : IdsIn w a xs) (hn : a = none → xs = [] ∧ cap = 0) (hcap' : ys.length ≤ cap') (hcm' : cap' ≤ maxLen) (hin' : IdsIn w a' ys) (hn' : a' = none → ys = [] ∧ cap' = 0) :
    Calls Try.prog 10 #[.slice a xs.length cap, .slice a' ys.length cap'] w fun e w' => e = .returned (.bool true) ∧ Below w.heap.size w w' := by
  by_cases h1 : 200 < xs.length
  · go_enter Try.func10, Try.ntmps10
    go_wp2
    go_ret
    exact ⟨rfl, Below.refl _ _⟩
  by_cases h2 : 200 < ys.length
  · go_enter Try.func10, Try.ntmps10
    go_wp2
    go_ret
    exact ⟨rfl, Below.refl _ _⟩
  have A1 := Lib.hid hcap
  have A2 := Lib.hid hcm
  have A3 := Lib.hid hin
  have A4 := Lib.hid hn
  have A5 := Lib.hid hin.1
  have A6 := Lib.hid (show xs.length ≤ 1000 by omega)
  unfold maxLen at hcm
  clear hin hn
  have A1' := Lib.hid hcap'
  have A2' := Lib.hid hcm'
  have A3' := Lib.hid hin'
  have A4' := Lib.hid hn'
  have A5' := Lib.hid hin'.1
  have A6' := Lib.hid (show ys.length ≤ 1000 by omega)
  unfold maxLen at hcm'
  clear hin' hn'
  go_enter Try.func10, Try.ntmps10
  have J1 := Lib.hid (show xs.length ≤ 200 by omega)
  have J2 := Lib.hid (show ys.length ≤ 200 by omega)
  go_wp2_with fail
  refine (sort_any a cap xs _ A1.out A2.out (by have := A6.out; omega) A3.out A4.out).mono ?_
  rintro e w1 ⟨v1, rfl, ho1, hb1⟩
  have HB1 := Lib.hid hb1
  have HA1 := HB1
  clear hb1
  obtain ⟨l1, hl1⟩ : ∃ l1, l1 = msort xs := ⟨_, rfl⟩
  rw [← hl1] at ho1
  have Hl1 := Lib.hid hl1
  have Xl1 := Lib.hid (show ∀ z ∈ l1, z.length = 32 by rw [hl1]; exact msort_32 A5.out)
  have Nl1 := Lib.hid (show l1.length ≤ 1000 by rw [hl1]; rw [msort_length]; exact A6.out)
  obtain ⟨al1, cl1, rfl, q1, q2, q3, q4⟩ := SlI_row Xl1.out ho1
  have P1l1 := Lib.hid q1
  have P2l1 := Lib.hid q2
  have P3l1 := Lib.hid q3
  have P4l1 := Lib.hid q4
  unfold maxLen at q2
  clear q3 q4 ho1 hl1
  have L1 := Lib.hid (show l1.length = xs.length by rw [Hl1.out, msort_length])
  have SRT := Lib.hid (show l1.Pairwise (fun a b => leB a b = true) by rw [Hl1.out]; exact msort_sorted xs)
  have nl1 := Nl1.out
  go_wp2_with fail
  go_loopg [6] (l1.length + 1) (fun g i wr => ∃ j : Nat, g + j = l1.length + 2 ∧ 1 ≤ j ∧ (j ≤ l1.length ∨ j = 1) ∧ i = .int .i64 j ∧ Below w1.heap.size w1 wr)
  case atStart => exact ⟨1, by omega, by omega, .inr rfl, rfl, Below.refl _ _⟩
  case round =>
    obtain ⟨j, hg, hj1, hj2, rfl, hbw⟩ := hrel
    have HG := Lib.hid hg
    have H2 := Lib.hid hj2
    have HB2 := Lib.hid hbw
    clear hg hbw hj2
    by_cases hk : j < l1.length
    · rcases P3l1.out.2 with h | ⟨b, off, rfl, hc⟩
      · subst h; simp at hk
      obtain ⟨e1, e2⟩ := IdAt.below (hc (j - 1) (by omega)) HB2.out
      obtain ⟨e3, e4⟩ := IdAt.below (hc j hk) HB2.out
      clear hc
      have hz := List.pairwise_iff_getElem.1 SRT.out (j - 1) j (by omega) hk (by omega)
      have g1 : l1.getD (j - 1) [] = l1[j - 1]'(by omega) := by rw [List.getD_eq_getElem?_getD, List.getElem?_eq_getElem (by omega)]; rfl
      have g2 : l1.getD j [] = l1[j] := by rw [List.getD_eq_getElem?_getD, List.getElem?_eq_getElem hk]; rfl
      rw [← g1, ← g2] at hz
      clear g1 g2
      have hx := Xl1.out _ (getD_mem (show j - 1 < l1.length by omega))
      have hy := Xl1.out _ (getD_mem hk)
      generalize l1.getD (j - 1) [] = x at *
      generalize l1.getD j [] = y at *
      have RC := Lib.hid (fun W => compare_any x y hx hy W)
      have hr : ¬ 0 < Lib.compareBytes x y := by simp only [leB, decide_eq_true_eq, cmpB] at hz; omega
      clear hz
      generalize Lib.compareBytes x y = r at *
      have i1 : (j : Int) < l1.length := by omega
      have i2 : 0 < (j : Int) := by omega
      have i5 : ((j : Int) - 1).toNat = j - 1 := by omega
      have i6 : IntKind.i64.wrap ((j : Int) - 1) = (j : Int) - 1 := IntWalk.i64_in _ (by omega)
      have i7 : decide (0 < r) = false := by simpa using hr
      go_wp2_with fail
      refine wp_region_over (by kernel_rfl) (by kernel_rfl) ?_
      repeat (go_big_quiet_step ((go_at_call 11; exact Calls.over_of (RC.out _))))
      refine wpQuiet_nil ?_
      rintro _ ⟨x0, rfl⟩
      clear e1 e2 e3 e4 i6 i7
      go_wp2
      go_roundg (gk - 1)
      case measure => have := HG.out; omega
      case rel => exact ⟨j + 1, by have := HG.out; omega, by omega, .inl (by omega), by go_num, HB2.out.trans ((ov_below wr x0).mono HB2.out.size)⟩
    · have HA2 := Lib.hid (HA1.out.trans (HB2.out.mono HA1.out.size))
      clear H2 HG
      go_wp2_with fail
      refine (union_any a a' cap cap' xs ys _ A1.out A2.out A6.out (IdsIn.below (IdsIn.below A3.out HB1.out) HB2.out) A4.out A1'.out A2'.out A6'.out (IdsIn.below (IdsIn.below A3'.out HB1.out) HB2.out) A4'.out).mono ?_
      rintro e w3 ⟨v3, rfl, ho3, hb3⟩
      have HB3 := Lib.hid hb3
      have HA3 := Lib.hid (HA2.out.trans (HB3.out.mono HA2.out.size))
      clear hb3
      obtain ⟨u, hu⟩ : ∃ u, u = setL (xs ++ ys) := ⟨_, rfl⟩
      rw [← hu] at ho3
      have Hu := Lib.hid hu
      have Xu := Lib.hid (show ∀ z ∈ u, z.length = 32 by rw [hu]; exact setL_32 (fun z hz => (List.mem_append.1 hz).elim (A5.out z) (A5'.out z)))
      have Nu := Lib.hid (show u.length ≤ 1000 by rw [hu]; have := setL_length (xs ++ ys); have := J1.out; have := J2.out; rw [List.length_append] at *; omega)
      obtain ⟨au, cu, rfl, q1, q2, q3, q4⟩ := SlI_row Xu.out ho3
      have P1u := Lib.hid q1
      have P2u := Lib.hid q2
      have P3u := Lib.hid q3
      have P4u := Lib.hid q4
      unfold maxLen at q2
      clear q3 q4 ho3 hu
      go_wp2_with fail
      refine (minus_any a a' cap cap' xs ys _ A1.out A2.out A6.out (IdsIn.below (IdsIn.below (IdsIn.below A3.out HB1.out) HB2.out) HB3.out) A4.out A1'.out A2'.out A6'.out (IdsIn.below (IdsIn.below (IdsIn.below A3'.out HB1.out) HB2.out) HB3.out) A4'.out).mono ?_
      rintro e w4 ⟨v4, rfl, ho4, hb4⟩
      have HB4 := Lib.hid hb4
      have HA4 := Lib.hid (HA3.out.trans (HB4.out.mono HA3.out.size))
      clear hb4
      obtain ⟨m, hm⟩ : ∃ m, m = setL (xs.filter fun z => !decide (z ∈ ys)) := ⟨_, rfl⟩
      rw [← hm] at ho4
      have Hm := Lib.hid hm
      have Xm := Lib.hid (show ∀ z ∈ m, z.length = 32 by rw [hm]; exact setL_32 (fun z hz => A5.out z (List.mem_filter.1 hz).1))
      have Nm := Lib.hid (show m.length ≤ 1000 by rw [hm]; have := setL_length (xs.filter fun z => !decide (z ∈ ys)); have := List.length_filter_le (fun z => !decide (z ∈ ys)) xs; have := J1.out; omega)
      obtain ⟨am, cm, rfl, q1, q2, q3, q4⟩ := SlI_row Xm.out ho4
      have P1m := Lib.hid q1
      have P2m := Lib.hid q2
      have P3m := Lib.hid q3
      have P4m := Lib.hid q4
      unfold maxLen at q2
      clear q3 q4 ho4 hm
      go_wp2_with fail
      refine (minus_any a' a cap' cap ys xs _ A1'.out A2'.out A6'.out (IdsIn.below (IdsIn.below (IdsIn.below (IdsIn.below A3'.out HB1.out) HB2.out) HB3.out) HB4.out) A4'.out A1.out A2.out A6.out (IdsIn.below (IdsIn.below (IdsIn.below (IdsIn.below A3.out HB1.out) HB2.out) HB3.out) HB4.out) A4.out).mono ?_
      rintro e w5 ⟨v5, rfl, ho5, hb5⟩
      have HB5 := Lib.hid hb5
      have HA5 := Lib.hid (HA4.out.trans (HB5.out.mono HA4.out.size))
      clear hb5
      obtain ⟨n, hn⟩ : ∃ n, n = setL (ys.filter fun z => !decide (z ∈ xs)) := ⟨_, rfl⟩
      rw [← hn] at ho5
      have Hn := Lib.hid hn
      have Xn := Lib.hid (show ∀ z ∈ n, z.length = 32 by rw [hn]; exact setL_32 (fun z hz => A5'.out z (List.mem_filter.1 hz).1))
      have Nn := Lib.hid (show n.length ≤ 1000 by rw [hn]; have := setL_length (ys.filter fun z => !decide (z ∈ xs)); have := List.length_filter_le (fun z => !decide (z ∈ xs)) ys; have := J2.out; omega)
      obtain ⟨an, cn, rfl, q1, q2, q3, q4⟩ := SlI_row Xn.out ho5
      have P1n := Lib.hid q1
      have P2n := Lib.hid q2
      have P3n := Lib.hid q3
      have P4n := Lib.hid q4
      unfold maxLen at q2
      clear q3 q4 ho5 hn
      go_wp2_with fail
      refine (both_any a a' cap cap' xs ys _ A1.out A2.out A6.out (IdsIn.below (IdsIn.below (IdsIn.below (IdsIn.below (IdsIn.below A3.out HB1.out) HB2.out) HB3.out) HB4.out) HB5.out) A4.out A1'.out A2'.out A6'.out (IdsIn.below (IdsIn.below (IdsIn.below (IdsIn.below (IdsIn.below A3'.out HB1.out) HB2.out) HB3.out) HB4.out) HB5.out) A4'.out).mono ?_
      rintro e w6 ⟨v6, rfl, ho6, hb6⟩
      have HB6 := Lib.hid hb6
      have HA6 := Lib.hid (HA5.out.trans (HB6.out.mono HA5.out.size))
      clear hb6
      obtain ⟨k, hk⟩ : ∃ k, k = setL (xs.filter fun z => decide (z ∈ ys)) := ⟨_, rfl⟩
      rw [← hk] at ho6
      have Hk := Lib.hid hk
      have Xk := Lib.hid (show ∀ z ∈ k, z.length = 32 by rw [hk]; exact setL_32 (fun z hz => A5.out z (List.mem_filter.1 hz).1))
      have Nk := Lib.hid (show k.length ≤ 1000 by rw [hk]; have := setL_length (xs.filter fun z => decide (z ∈ ys)); have := List.length_filter_le (fun z => decide (z ∈ ys)) xs; have := J1.out; omega)
      obtain ⟨ak, ck, rfl, q1, q2, q3, q4⟩ := SlI_row Xk.out ho6
      have P1k := Lib.hid q1
      have P2k := Lib.hid q2
      have P3k := Lib.hid q3
      have P4k := Lib.hid q4
      unfold maxLen at q2
      clear q3 q4 ho6 hk
      have hsum : u.length = m.length + n.length + k.length := by rw [Hu.out, Hm.out, Hn.out, Hk.out]; exact sets_count xs ys
      have HSUM := Lib.hid hsum
      have nm := Nm.out
      have nn := Nn.out
      have nk := Nk.out
      have hl := L1.out
      have t1 : ((l1.length : Int) == (xs.length : Int)) = true := by rw [hl]; exact beq_self_eq_true _
      have t2 : (l1.length == xs.length) = true := by rw [hl]; exact beq_self_eq_true _
      have t3 : decide (l1.length = xs.length) = true := by rw [hl]; simp
      have s1 : ((u.length : Int) == (m.length : Int) + n.length + k.length) = true := by simp; omega
      have s2 : (u.length == m.length + n.length + k.length) = true := by simp; omega
      have s3 : decide (u.length = m.length + n.length + k.length) = true := by simp; omega
      have MK := Lib.hid (show (m ++ k).length ≤ 1000 by have := J1.out; have := setL_length (xs.filter fun z => !decide (z ∈ ys)); have := List.length_filter_le (fun z => !decide (z ∈ ys)) xs; have := setL_length (xs.filter fun z => decide (z ∈ ys)); have := List.length_filter_le (fun z => decide (z ∈ ys)) xs; rw [List.length_append, Hm.out, Hk.out]; omega)
      clear hsum hl
      go_wp2_with fail
      refine (isSet_any au cu u _ (by have := Nu.out; omega) (IdsIn.below (IdsIn.below (IdsIn.below P3u.out HB4.out) HB5.out) HB6.out)).mono ?_
      rintro e w7 ⟨rfl, hb7⟩
      have HB7 := Lib.hid hb7
      have HA7 := Lib.hid (HA6.out.trans (HB7.out.mono HA6.out.size))
      clear hb7
      rw [show isSetL u = true from by rw [Hu.out]; exact (strict_isSet _).2 (setL_strict _)]
      go_wp2_with fail
      refine (isSet_any am cm m _ (by have := Nm.out; omega) (IdsIn.below (IdsIn.below (IdsIn.below P3m.out HB5.out) HB6.out) HB7.out)).mono ?_
      rintro e w8 ⟨rfl, hb8⟩
      have HB8 := Lib.hid hb8
      have HA8 := Lib.hid (HA7.out.trans (HB8.out.mono HA7.out.size))
      clear hb8
      rw [show isSetL m = true from by rw [Hm.out]; exact (strict_isSet _).2 (setL_strict _)]
      go_wp2_with fail
      refine (isSet_any ak ck k _ (by have := Nk.out; omega) (IdsIn.below (IdsIn.below P3k.out HB7.out) HB8.out)).mono ?_
      rintro e w9 ⟨rfl, hb9⟩
      have HB9 := Lib.hid hb9
      have HA9 := Lib.hid (HA8.out.trans (HB9.out.mono HA8.out.size))
      clear hb9
      rw [show isSetL k = true from by rw [Hk.out]; exact (strict_isSet _).2 (setL_strict _)]
      go_wp2_with fail
      refine (union_any am ak cm ck m k _ P1m.out P2m.out Nm.out (IdsIn.below (IdsIn.below (IdsIn.below (IdsIn.below (IdsIn.below P3m.out HB5.out) HB6.out) HB7.out) HB8.out) HB9.out) P4m.out P1k.out P2k.out Nk.out (IdsIn.below (IdsIn.below (IdsIn.below P3k.out HB7.out) HB8.out) HB9.out) P4k.out).mono ?_
      rintro e w10 ⟨v10, rfl, ho10, hb10⟩
      have HB10 := Lib.hid hb10
      have HA10 := Lib.hid (HA9.out.trans (HB10.out.mono HA9.out.size))
      clear hb10
      obtain ⟨u2, hu2⟩ : ∃ u2, u2 = setL (m ++ k) := ⟨_, rfl⟩
      rw [← hu2] at ho10
      have Hu2 := Lib.hid hu2
      have Xu2 := Lib.hid (show ∀ z ∈ u2, z.length = 32 by rw [hu2]; exact setL_32 (fun z hz => (List.mem_append.1 hz).elim (Xm.out z) (Xk.out z)))
      have Nu2 := Lib.hid (show u2.length ≤ 1000 by rw [hu2]; have := setL_length (m ++ k); have := MK.out; omega)
      obtain ⟨au2, cu2, rfl, q1, q2, q3, q4⟩ := SlI_row Xu2.out ho10
      have P1u2 := Lib.hid q1
      have P2u2 := Lib.hid q2
      have P3u2 := Lib.hid q3
      have P4u2 := Lib.hid q4
      unfold maxLen at q2
      clear q3 q4 ho10 hu2
      go_wp2_with fail
      refine (set_any a cap xs _ A1.out A2.out (by have := A6.out; omega) (IdsIn.below (IdsIn.below (IdsIn.below (IdsIn.below (IdsIn.below (IdsIn.below (IdsIn.below (IdsIn.below (IdsIn.below (IdsIn.below A3.out HB1.out) HB2.out) HB3.out) HB4.out) HB5.out) HB6.out) HB7.out) HB8.out) HB9.out) HB10.out) A4.out).mono ?_
      rintro e w11 ⟨v11, rfl, ho11, hb11⟩
      have HB11 := Lib.hid hb11
      have HA11 := Lib.hid (HA10.out.trans (HB11.out.mono HA10.out.size))
      clear hb11
      obtain ⟨sx, hsx⟩ : ∃ sx, sx = setL xs := ⟨_, rfl⟩
      rw [← hsx] at ho11
      have Hsx := Lib.hid hsx
      have Xsx := Lib.hid (show ∀ z ∈ sx, z.length = 32 by rw [hsx]; exact setL_32 A5.out)
      have Nsx := Lib.hid (show sx.length ≤ 1000 by rw [hsx]; have := setL_length xs; have := A6.out; omega)
      obtain ⟨asx, csx, rfl, q1, q2, q3, q4⟩ := SlI_row Xsx.out ho11
      have P1sx := Lib.hid q1
      have P2sx := Lib.hid q2
      have P3sx := Lib.hid q3
      have P4sx := Lib.hid q4
      unfold maxLen at q2
      clear q3 q4 ho11 hsx
      go_wp2_with fail
      refine (same_any au2 asx cu2 csx u2 sx _ (by have := Nu2.out; omega) (by have := Nsx.out; omega) (IdsIn.below P3u2.out HB11.out) P3sx.out).mono ?_
      rintro e w12 ⟨rfl, hb12⟩
      have HB12 := Lib.hid hb12
      have HA12 := Lib.hid (HA11.out.trans (HB12.out.mono HA11.out.size))
      clear hb12
      rw [show (u2 == sx) = true from by rw [show u2 = sx from by rw [Hu2.out, Hsx.out, Hm.out, Hk.out]; exact mk_union xs ys]; exact beq_self_eq_true _]
      go_wp2_with fail
      refine (union_any a' a cap' cap ys xs _ A1'.out A2'.out A6'.out (IdsIn.below (IdsIn.below (IdsIn.below (IdsIn.below (IdsIn.below (IdsIn.below (IdsIn.below (IdsIn.below (IdsIn.below (IdsIn.below (IdsIn.below (IdsIn.below A3'.out HB1.out) HB2.out) HB3.out) HB4.out) HB5.out) HB6.out) HB7.out) HB8.out) HB9.out) HB10.out) HB11.out) HB12.out) A4'.out A1.out A2.out A6.out (IdsIn.below (IdsIn.below (IdsIn.below (IdsIn.below (IdsIn.below (IdsIn.below (IdsIn.below (IdsIn.below (IdsIn.below (IdsIn.below (IdsIn.below (IdsIn.below A3.out HB1.out) HB2.out) HB3.out) HB4.out) HB5.out) HB6.out) HB7.out) HB8.out) HB9.out) HB10.out) HB11.out) HB12.out) A4.out).mono ?_
      rintro e w13 ⟨v13, rfl, ho13, hb13⟩
      have HB13 := Lib.hid hb13
      have HA13 := Lib.hid (HA12.out.trans (HB13.out.mono HA12.out.size))
      clear hb13
      obtain ⟨u3, hu3⟩ : ∃ u3, u3 = setL (ys ++ xs) := ⟨_, rfl⟩
      rw [← hu3] at ho13
      have Hu3 := Lib.hid hu3
      have Xu3 := Lib.hid (show ∀ z ∈ u3, z.length = 32 by rw [hu3]; exact setL_32 (fun z hz => (List.mem_append.1 hz).elim (A5'.out z) (A5.out z)))
      have Nu3 := Lib.hid (show u3.length ≤ 1000 by rw [hu3]; have := setL_length (ys ++ xs); have := J2.out; have := J1.out; rw [List.length_append] at *; omega)
      obtain ⟨au3, cu3, rfl, q1, q2, q3, q4⟩ := SlI_row Xu3.out ho13
      have P1u3 := Lib.hid q1
      have P2u3 := Lib.hid q2
      have P3u3 := Lib.hid q3
      have P4u3 := Lib.hid q4
      unfold maxLen at q2
      clear q3 q4 ho13 hu3
      go_wp2_with fail
      refine (same_any au3 au cu3 cu u3 u _ (by have := Nu3.out; omega) (by have := Nu.out; omega) P3u3.out (IdsIn.below (IdsIn.below (IdsIn.below (IdsIn.below (IdsIn.below (IdsIn.below (IdsIn.below (IdsIn.below (IdsIn.below (IdsIn.below P3u.out HB4.out) HB5.out) HB6.out) HB7.out) HB8.out) HB9.out) HB10.out) HB11.out) HB12.out) HB13.out)).mono ?_
      rintro e w14 ⟨rfl, hb14⟩
      have HB14 := Lib.hid hb14
      have HA14 := Lib.hid (HA13.out.trans (HB14.out.mono HA13.out.size))
      clear hb14
      rw [show (u3 == u) = true from by rw [show u3 = u from by rw [Hu3.out, Hu.out]; exact union_comm xs ys]; exact beq_self_eq_true _]
      go_wp2_with fail
      refine (awake_any _).mono ?_
      rintro e w15 ⟨rfl, hb15⟩
      have HB15 := Lib.hid hb15
      have HA15 := Lib.hid (HA14.out.trans (HB15.out.mono HA14.out.size))
      clear hb15
      go_wp2
      go_ret
      exact ⟨rfl, HA15.out⟩

theorem orderSets_walk {H : Type} {enc : TypeId × Value → H} {W : World} {b0 : Nat} {v0 v1 : Value} {d0 d1 : DataW H} {p0 p1 : List MemPlace}
    (k0 : Value.okWide Try.prog W .any b0 30 v0) (h0 : DataW.Trod enc Try.prog W 0 (fun _ => true) true 30 v0 d0 p0) (k1 : Value.okWide Try.prog W .any b0 30 v1) (t1 : DataW.Trod enc Try.prog W 0 (fun _ => true) true 30 v1 d1 p1) :
    Calls Try.prog 10 #[v0, v1] W fun e w' => e = .returned (.bool true) ∧ Below W.heap.size W w' := by
  obtain ⟨a, cap, xs, rfl, h1, h2, h3, h4⟩ := reads_ids (okWide_slice Try.underlying30 k0) h0
  obtain ⟨a', cap', ys, rfl, h1', h2', h3', h4'⟩ := reads_ids (okWide_slice Try.underlying30 k1) t1
  exact sets_any a cap xs a' cap' ys W h1 h2 h3 h4 h1' h2' h3' h4'

end Go.Proofs.Yteielgdgmmeciaa
