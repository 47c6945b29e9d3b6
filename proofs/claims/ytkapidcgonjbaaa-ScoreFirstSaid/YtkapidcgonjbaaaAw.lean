/- awake. -/
import Derived.Test.YtkapidcgonjbaaaAi
namespace Go.Proofs.Ytkapidcgonjbaaa
open Go.RowKit
open Go.Sort hiding Below
set_option linter.unusedVariables false

@[go_sem ↓] theorem run_quo_1inf (t : TypeId) (w : World) : (binOp .quo t (.float .f64 13830554455654793216) (.float .f64 9218868437227405312)).run Try.prog w = .ok (.float .f64 9223372036854775808) w := by
  rw [run_quo0]
  have h : Ieee.double.div 13830554455654793216 9218868437227405312 = some 9223372036854775808 := by kernel_rfl
  unfold quoV quoN
  rw [h]
  rfl
def l3 : List Nat := [9221120237041090561, 9223372036854775808, 0]
def m22 : List (List Nat) := [[4607182418800017408, 4613937818241073152], [4613937818241073152, 4611686018427387904]]
theorem rank3 : rankL l3 2 = [2, 1, 0] := by
  have h1 : allP 2 = #[0, 1, 2] := by kernel_rfl
  have e1 : Sort.insInner (ltOf (rkF l3 2)) 0 1 #[0, 1, 2] = #[1, 0, 2] := by kernel_rfl
  have e2 : Sort.insInner (ltOf (rkF l3 2)) 0 2 #[1, 0, 2] = #[2, 1, 0] := by kernel_rfl
  unfold rankL Sort.insertionSort
  rw [h1]
  unfold Sort.insOuter
  rw [if_pos (by decide), e1]
  unfold Sort.insOuter
  rw [if_pos (by decide), e2]
  unfold Sort.insOuter
  rw [if_neg (by decide)]
  exact (rfl : ((#[2, 1, 0] : Array (Fin (2 + 1))).toList.map fun i => (i.val : Int)) = [2, 1, 0])
theorem match22 : matchL m22 4611686018427387904 = [(0, 1), (1, 0)] := by
  have h1 : allPs 4611686018427387904 m22 2 = [(0, 1, 4613937818241073152), (1, 0, 4613937818241073152), (1, 1, 4611686018427387904)] := by kernel_rfl
  have h2 : sortPs [(0, 1, 4613937818241073152), (1, 0, 4613937818241073152), (1, 1, 4611686018427387904)] = [(0, 1, 4613937818241073152), (1, 0, 4613937818241073152), (1, 1, 4611686018427387904)] := by
    unfold sortPs
    apply List.mergeSort_of_pairwise
    refine List.Pairwise.cons ?_ (List.Pairwise.cons ?_ (List.Pairwise.cons ?_ List.Pairwise.nil))
    · intro a ha
      simp only [List.mem_cons, List.not_mem_nil, or_false] at ha
      rcases ha with rfl | rfl <;> kernel_rfl
    · intro a ha
      simp only [List.mem_cons, List.not_mem_nil, or_false] at ha
      subst ha; kernel_rfl
    · intro a ha; cases ha
  unfold matchL
  rw [show m22.length = 2 from rfl, h1, h2]
  have h3 : (gRun 2 (colsOf m22 2) [(0, 1, 4613937818241073152), (1, 0, 4613937818241073152), (1, 1, 4611686018427387904)]).2.2 = [(0, 1), (1, 0)] := by kernel_rfl
  exact h3
theorem like000 (q : Nat) (h : likeQ 0 0 0 q) : isN q = true := by
  unfold likeQ at h
  rw [if_pos (by decide)] at h
  have hd : Ieee.double.div (floatOfInt .f64 (2 * 0)) (floatOfInt .f64 (0 + 0)) = none := by kernel_rfl
  unfold isQ at h
  rw [hd] at h
  exact h.2
theorem ratio12 (q : Nat) (h : isQ (floatOfInt .f64 1) (floatOfInt .f64 2) q) : q = 4602678819172646912 := by
  have hd : Ieee.double.div (floatOfInt .f64 1) (floatOfInt .f64 2) = some 4602678819172646912 := by kernel_rfl
  unfold isQ at h
  rw [hd] at h
  exact h.2

theorem mat22 (w1 : World) : MatW (((w1.alloc (.cells #[.float .f64 4607182418800017408, .float .f64 4613937818241073152] 23)).alloc (.cells #[.float .f64 4613937818241073152, .float .f64 4611686018427387904] 23)).alloc (.cells #[.slice (some ⟨w1.heap.size, 0, none⟩) 2 2, .slice (some ⟨w1.heap.size + 1, 0, none⟩) 2 2] 30))
    (some ⟨w1.heap.size + 1 + 1, 0, none⟩) m22 := by
  obtain ⟨D, hD⟩ : ∃ D, D = w1.alloc (.cells #[.float .f64 4607182418800017408, .float .f64 4613937818241073152] 23) := ⟨_, rfl⟩
  obtain ⟨E, hE⟩ : ∃ E, E = D.alloc (.cells #[.float .f64 4613937818241073152, .float .f64 4611686018427387904] 23) := ⟨_, rfl⟩
  have sD : D.heap.size = w1.heap.size + 1 := by rw [hD]; simp
  have sE : E.heap.size = w1.heap.size + 1 + 1 := by rw [hE]; simp [sD]
  have i1 : fltR.In D (some ⟨w1.heap.size, 0, none⟩) [4607182418800017408, 4613937818241073152] := by
    rw [hD]; exact Rec.In.new w1 23 _ (by intro x hx; simp at hx; rcases hx with rfl | rfl <;> (unfold fltR; simp))
  have i2 : fltR.In E (some ⟨D.heap.size, 0, none⟩) [4613937818241073152, 4611686018427387904] := by
    rw [hE]; exact Rec.In.new D 23 _ (by intro x hx; simp at hx; rcases hx with rfl | rfl <;> (unfold fltR; simp))
  have bE : Below D.heap.size D E := by rw [hE]; exact (Below.refl _ _).alloc (Nat.le_refl _) _
  rw [← hD, ← hE, ← sE]
  have bF := (Below.refl E.heap.size E).alloc (Nat.le_refl _) (.cells #[.slice (some ⟨w1.heap.size, 0, none⟩) 2 2, .slice (some ⟨w1.heap.size + 1, 0, none⟩) 2 2] 30)
  rw [sD] at i2
  refine ⟨[(some (⟨w1.heap.size, 0, none⟩ : Addr), 2, 2), (some (⟨w1.heap.size + 1, 0, none⟩ : Addr), 2, 2)], Rec.In.new E 30 [(some (⟨w1.heap.size, 0, none⟩ : Addr), 2, 2), (some (⟨w1.heap.size + 1, 0, none⟩ : Addr), 2, 2)] (fun _ _ => trivial), rfl, ?_⟩
  intro i h r hi hr
  match i with
  | 0 =>
    cases hi; cases hr
    exact ⟨_, _, rfl, (by decide : 2 ≤ 2), (by decide : 2 ≤ maxLen), (i1.below bE).below bF, fun h => by cases h⟩
  | 1 =>
    cases hi; cases hr
    exact ⟨_, _, rfl, (by decide : 2 ≤ 2), (by decide : 2 ≤ maxLen), i2.below bF, fun h => by cases h⟩
  | i + 2 => simp at hi

set_option maxHeartbeats 4000000 in
set_option maxRecDepth 100000 in
theorem awake_any (w : World) : Calls Try.prog 16 #[] w fun e w' => e = .returned (.bool true) ∧ Below w.heap.size w w' := by
  go_enter Try.func16, Try.ntmps16
  go_wp2_with fail
  refine (nan_any _).mono ?_
  rintro e w1 ⟨rfl, rfl⟩
  go_wp2_with fail
  refine (inf_any _).mono ?_
  rintro e w1 ⟨rfl, rfl⟩
  obtain ⟨A, hA⟩ : ∃ A, A = w.alloc (.cells #[.float .f64 9221120237041090561, .float .f64 9223372036854775808, .float .f64 0] 23) := ⟨_, rfl⟩
  have hab : Below w.heap.size w A := by rw [hA]; exact (Below.refl _ _).alloc (Nat.le_refl _) _
  have hin : fltR.In A (some ⟨w.heap.size, 0, none⟩) l3 := by rw [hA]; exact Rec.In.new w 23 l3 (by intro x hx; simp [l3] at hx; rcases hx with rfl | rfl | rfl <;> (unfold fltR; simp))
  have hq := rankF_any 2 w.heap.size 0 3 l3 A rfl (by decide) hin (by decide) (by decide)
  rw [rank3] at hq
  have HQ := Lib.hid hq
  have HAB := Lib.hid hab
  have HA := Lib.hid hA
  clear hA hin hq hab
  go_upto_region 2 with fail
  go_wp2_with fail
  rw [← HA.out]
  refine HQ.out.mono ?_
  rintro e w1 ⟨v, rfl, hr1, hb1⟩
  obtain ⟨a1, c1, rfl, hc1, hm1, hin1, hn1⟩ := hr1.sl
  have HR1 := Lib.hid hr1
  have HI1 := Lib.hid hin1
  have HB1 := Lib.hid (HAB.out.trans (hb1.mono HAB.out.size))
  clear hr1 hin1 hb1 HQ HA HAB hn1
  obtain ⟨F, hF⟩ : ∃ F, F = (((w1.alloc (.cells #[.float .f64 4607182418800017408, .float .f64 4613937818241073152] 23)).alloc (.cells #[.float .f64 4613937818241073152, .float .f64 4611686018427387904] 23)).alloc (.cells #[.slice (some ⟨w1.heap.size, 0, none⟩) 2 2, .slice (some ⟨w1.heap.size + 1, 0, none⟩) 2 2] 30)) := ⟨_, rfl⟩
  have hbF : Below w1.heap.size w1 F := by rw [hF]; exact (((Below.refl _ _).alloc (Nat.le_refl _) _).alloc (by simp) _).alloc (by simp only [World.size_alloc]; omega) _
  have hmF := mat22 w1
  rw [← hF] at hmF
  have hq := match_any (some ⟨w1.heap.size + 1 + 1, 0, none⟩) 2 m22 4611686018427387904 (by decide) F hmF ⟨by decide, by intro r hr; simp [m22] at hr; rcases hr with rfl | rfl <;> decide⟩
  rw [match22] at hq
  have HQ := Lib.hid hq
  have HF := Lib.hid hF
  have HBF := Lib.hid (HB1.out.trans (hbF.mono HB1.out.size))
  have HIF := Lib.hid (HI1.out.below hbF)
  clear hq hF hbF hmF
  go_upto_region 3 with fail
  go_wp2_with fail
  rw [← HF.out]
  refine HQ.out.mono ?_
  rintro e w2 ⟨v, rfl, hr2, hb2⟩
  obtain ⟨a2, c2, rfl, hc2, hm2, hin2, hn2⟩ := hr2.sl
  have HI2 := Lib.hid hin2
  have HJ2 := Lib.hid (HIF.out.below hb2)
  have HB2 := Lib.hid (HBF.out.trans (hb2.mono HBF.out.size))
  clear hr2 hin2 hb2 hn2 HQ HF HBF HIF HI1 HB1 HR1
  go_wp2_with fail
  refine (like_any 0 0 0 _).mono ?_
  rintro e w3 ⟨q, n, rfl, hq, hw3⟩
  have hnq := like000 q hq
  have HNQ := Lib.hid hnq
  have hb3 : Below w2.heap.size w2 w3 := by rw [hw3]; exact below_drewN (Below.refl _ _) n
  have HI3 := Lib.hid (HI2.out.below hb3)
  have HJ3 := Lib.hid (HJ2.out.below hb3)
  have HB3 := Lib.hid (HB2.out.trans (hb3.mono HB2.out.size))
  clear hq hnq hw3 hb3 HI2 HJ2 HB2
  go_wp2_with fail
  refine (isNaN_any q _).mono ?_
  rintro e w4 ⟨rfl, rfl⟩
  rw [HNQ.out]
  obtain ⟨W4, hW4⟩ : ∃ W4, W4 = w3.alloc (.cells #[.int .i64 2, .int .i64 1, .int .i64 0] 3) := ⟨_, rfl⟩
  have hb4 : Below w3.heap.size w3 W4 := by rw [hW4]; exact (Below.refl _ _).alloc (Nat.le_refl _) _
  have hn4 : intR.In W4 (some ⟨w3.heap.size, 0, none⟩) [2, 1, 0] := by rw [hW4]; exact Rec.In.new w3 3 [2, 1, 0] (fun _ _ => trivial)
  have HQ4 := Lib.hid (ints_any a1 (some ⟨w3.heap.size, 0, none⟩) c1 3 [2, 1, 0] [2, 1, 0] W4 (by decide) (by decide) (HJ3.out.below hb4) hn4)
  have HI4 := Lib.hid (HI3.out.below hb4)
  have HB4 := Lib.hid (HB3.out.trans (hb4.mono HB3.out.size))
  have HW4 := Lib.hid hW4
  clear hW4 hb4 hn4 HI3 HJ3 HB3
  go_wp2_with fail
  rw [← HW4.out]
  refine HQ4.out.mono ?_
  rintro e w5 ⟨rfl, hb5⟩
  rw [show (([2, 1, 0] : List Int) == [2, 1, 0]) = true from by decide]
  have HI5 := Lib.hid (HI4.out.below hb5)
  have HB5 := Lib.hid (HB4.out.trans (hb5.mono HB4.out.size))
  clear hb5 HQ4 HI4 HB4 HW4
  obtain ⟨W6, hW6⟩ : ∃ W6, W6 = w5.alloc (.cells #[.int .i64 0, .int .i64 1, .int .i64 1, .int .i64 0] 36) := ⟨_, rfl⟩
  have hb6 : Below w5.heap.size w5 W6 := by rw [hW6]; exact (Below.refl _ _).alloc (Nat.le_refl _) _
  have hn6 : ijR.In W6 (some ⟨w5.heap.size, 0, none⟩) [(0, 1), (1, 0)] := by rw [hW6]; exact Rec.In.new w5 36 [(0, 1), (1, 0)] (fun _ _ => trivial)
  have HQ6 := Lib.hid (pairs_any a2 (some ⟨w5.heap.size, 0, none⟩) c2 2 [(0, 1), (1, 0)] [(0, 1), (1, 0)] W6 (by decide) (by decide) (HI5.out.below hb6) hn6)
  have HB6 := Lib.hid (HB5.out.trans (hb6.mono HB5.out.size))
  have HW6 := Lib.hid hW6
  clear hW6 hb6 hn6 HI5 HB5
  go_wp2_with fail
  rw [← HW6.out]
  refine HQ6.out.mono ?_
  rintro e w7 ⟨rfl, hb7⟩
  rw [show (([(0, 1), (1, 0)] : List (Int × Int)) == [(0, 1), (1, 0)]) = true from by decide]
  have HB7 := Lib.hid (HB6.out.trans (hb7.mono HB6.out.size))
  clear hb7 HQ6 HB6 HW6
  go_wp2_with fail
  refine (ratio_any 1 2 _).mono ?_
  rintro e w8 ⟨r, n8, rfl, hr8, rfl⟩
  obtain rfl := ratio12 r hr8
  have hfe : (FloatKind.f64.format.order 4602678819172646912 4602678819172646912 == some Ordering.eq) = true := by decide
  clear hr8
  go_wp2
  go_ret
  exact ⟨rfl, below_drewN HB7.out n8⟩
end Go.Proofs.Ytkapidcgonjbaaa
