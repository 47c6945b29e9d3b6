/- The walk of the reference's Moves. -/
import Derived.Test.YtipoifokcnbfnaaKi
import Derived.Test.YtipoifokcnbfnaaKm
namespace Go.Proofs.Ytipoifokcnbfnaa
open Go.RowKit
set_option linter.unusedVariables false

set_option maxHeartbeats 400000 in
set_option maxRecDepth 100000 in
theorem rmoves_long (pa pb : Option Addr) (ca cb : Nat) (a b : List Int) (w : World) (h : 4096 < a.length ∨ 4096 < b.length) :
    Calls Try.prog 11 #[.slice pa a.length ca, .slice pb b.length cb] w fun e w' => e = .returned (.tuple #[.slice none 0 0, .int .i64 2]) ∧ w' = w := by
  by_cases ha : 4096 < a.length
  · go_enter Try.func11, Try.ntmps11
    go_wp2
    go_ret2
    exact ⟨rfl, rfl⟩
  · have hb : 4096 < b.length := by omega
    clear h
    go_enter Try.func11, Try.ntmps11
    go_wp2
    go_ret2
    exact ⟨rfl, rfl⟩

set_option maxHeartbeats 8000000 in
set_option maxRecDepth 100000 in
theorem rmoves_any (pa pb : Option Addr) (ca cb : Nat) (a b : List Int) (w : World) (ha : a.length ≤ 4096) (hb : b.length ≤ 4096) (hia : (numR .i32).In w pa a) (hib : (numR .i32).In w pb b) :
    Calls Try.prog 11 #[.slice pa a.length ca, .slice pb b.length cb] w fun e w' => ∃ v, e = .returned (.tuple #[v, .int .i64 0]) ∧ (numR .u8).row 5 w.heap.size (script a b) v w' ∧ Below w.heap.size w w' := by
  have HCO := Lib.hid (costs_any pa pb ca cb a b w ha hb hia hib)
  have HIA := Lib.hid hia
  have HIB := Lib.hid hib
  have hna : ¬ 4096 < a.length := by omega
  have hnb : ¬ 4096 < b.length := by omega
  clear hia hib
  go_enter Try.func11, Try.ntmps11
  go_wp2_with fail
  refine HCO.out.mono ?_
  rintro e W2 ⟨go, hs, rfl, hsl, hhr, hcm, hb2⟩
  have HSL := Lib.hid hsl
  have HHR := Lib.hid hhr
  have HCM := Lib.hid hcm
  have HB2 := Lib.hid hb2
  clear hsl hhr hcm hb2 HCO hna hnb
  go_wp2_with fail
  go_loopg [7, 8, 9] (a.length + b.length) (fun g v7 v8 v9 wr => ∃ (i j : Nat) (O : List Int), g + i + j = a.length + b.length ∧ i ≤ a.length ∧ j ≤ b.length ∧ v8 = .int .i64 i ∧ v9 = .int .i64 j ∧
    O ++ SC a b i j = SC a b 0 0 ∧ (numR .u8).row 5 W2.heap.size O v7 wr ∧ Below W2.heap.size W2 wr)
  case atStart => exact ⟨0, 0, [], by omega, by omega, by omega, rfl, rfl, rfl, Rec.row.nil, Below.refl _ _⟩
  case round =>
    obtain ⟨i, j, O, hg, hi, hj, rfl, rfl, hO, hrow, hbw⟩ := hrel
    have HG := Lib.hid hg
    have HO := Lib.hid hO
    have HOL := Lib.hid (show O.length ≤ 8192 by
      have h1 := script_len _ a b rfl
      have h2 := congrArg List.length hO
      unfold SC at h2
      simp only [List.drop_zero, List.length_append] at h2
      omega)
    have HROW := Lib.hid hrow
    have HB := Lib.hid hbw
    have HBWW := Lib.hid (HB2.out.trans (hbw.mono HB2.out.size))
    clear hg hO hrow hbw
    by_cases hend : i = a.length ∧ j = b.length
    · have g1 : decide ((i : Int) < a.length) = false := decide_eq_false (by omega)
      have g2 : decide ((j : Int) < b.length) = false := decide_eq_false (by omega)
      have HE := Lib.hid (show O = script a b by
        have h1 := HO.out
        rw [hend.1, hend.2, SC_end] at h1
        unfold SC at h1
        simpa using h1)
      have hn1 : ¬ i < a.length := by omega
      have hn2 : ¬ j < b.length := by omega
      clear hend
      go_wp2
      go_ret2
      exact ⟨_, rfl, by rw [← HE.out]; exact HROW.out.base HB2.out.size, HBWW.out⟩
    · have HND := Lib.hid hend
      go_upto_region 6 with fail
      go_cut [30] (fun v30 wx => v30 = .bool true ∧ wr = wx)
      case first =>
        by_cases hin : i < a.length
        · have g1 : decide ((i : Int) < a.length) = true := decide_eq_true (by omega)
          go_wp2_with fail
          go_meet
          exact ⟨rfl, rfl⟩
        · have g1 : decide ((i : Int) < a.length) = false := decide_eq_false (by omega)
          have g2n : j < b.length := by have := HND.out; omega
          have g2 : decide ((j : Int) < b.length) = true := decide_eq_true (by omega)
          go_wp2_with fail
          go_meet
          exact ⟨rfl, rfl⟩
      case rest =>
      obtain ⟨rfl, rfl⟩ := hcut
      obtain ⟨B, hB⟩ : ∃ B : Bool, B = decide (i < a.length ∧ j < b.length ∧ a.getD i 0 = b.getD j 0) := ⟨_, rfl⟩
      have HBE := Lib.hid hB
      clear hB
      go_upto_region 7 with fail
      go_cut [51] (fun v51 wx => v51 = .bool B ∧ Below wr.heap.size wr wx)
      case first =>
        by_cases hin : i < a.length
        · have g1 : decide ((i : Int) < a.length) = true := decide_eq_true (by omega)
          have g1z : (i : Int) < a.length := by omega
          by_cases hjm : j < b.length
          · have g2 : decide ((j : Int) < b.length) = true := decide_eq_true (by omega)
            have g2z : (j : Int) < b.length := by omega
            have h1 := HIA.out.below HBWW.out
            have h2 := HIB.out.below HBWW.out
            rcases h1.2 with h0 | ⟨ba, oa, rfl, hla, hca⟩
            · subst h0; simp at hin
            rcases h2.2 with h0 | ⟨bb, ob, rfl, hlb, hcb⟩
            · subst h0; simp at hjm
            have e1 := num_cell (hca i _ (show a[i]? = some (a.getD i 0) by simp [List.getD_eq_getElem?_getD, hin]))
            have e2 := num_cell (hcb j _ (show b[j]? = some (b.getD j 0) by simp [List.getD_eq_getElem?_getD, hjm]))
            have hBB : B = decide (a.getD i 0 = b.getD j 0) := by rw [HBE.out]; simp [hin, hjm]
            clear h1 h2 hca hcb
            generalize a.getD i 0 = x at *
            generalize b.getD j 0 = y at *
            have g3 : (x == y) = B := by rw [hBB]; rfl
            clear hBB
            refine wp_region_over (by kernel_rfl) (by kernel_rfl) ?_
            repeat (go_big_quiet_step (fail))
            refine wpQuiet_nil ?_
            rintro _ ⟨x0, rfl⟩
            go_wp2_with fail
            go_meet
            exact ⟨rfl, ov_below wr x0⟩
          · have g2 : decide ((j : Int) < b.length) = false := decide_eq_false (by omega)
            have HBF := Lib.hid (show B = false by rw [HBE.out]; exact decide_eq_false (fun h => hjm h.2.1))
            refine wp_region_over (by kernel_rfl) (by kernel_rfl) ?_
            repeat (go_big_quiet_step (fail))
            refine wpQuiet_nil ?_
            rintro _ ⟨x0, rfl⟩
            go_wp2_with fail
            go_meet
            exact ⟨by rw [HBF.out], ov_below wr x0⟩
        · have g1 : decide ((i : Int) < a.length) = false := decide_eq_false (by omega)
          have HBF := Lib.hid (show B = false by rw [HBE.out]; exact decide_eq_false (fun h => hin h.1))
          refine wp_region_over (by kernel_rfl) (by kernel_rfl) ?_
          repeat (go_big_quiet_step (fail))
          refine wpQuiet_nil ?_
          rintro _ ⟨x0, rfl⟩
          go_wp2_with fail
          go_meet
          exact ⟨by rw [HBF.out], ov_below wr x0⟩
      case rest =>
      obtain ⟨rfl, hbw⟩ := hcut
      obtain ⟨W, hW⟩ : ∃ W, W = wc := ⟨_, rfl⟩
      rw [← hW] at hbw ⊢
      have HOW := Lib.hid (HROW.out.below hbw)
      have HBW := Lib.hid (HB.out.trans (hbw.mono HB.out.size))
      clear hbw hW
      cases B with
      | true =>
        have hb1 := of_decide_eq_true HBE.out.symm
        have HB1 := Lib.hid hb1
        have HSC := Lib.hid (SC_keep a b i j hb1.1 hb1.2.1 hb1.2.2)
        clear hb1
        have hbn := (Below.refl W.heap.size W).alloc (Nat.le_refl _) (.cells #[.int .u8 1] 5)
        have HRN := Lib.hid (HOW.out.below hbn)
        have HBN := Lib.hid (HBW.out.trans (hbn.mono HBW.out.size))
        have HNEW := Lib.hid (show (numR .u8).In (W.alloc (.cells #[.int .u8 1] 5)) (some ⟨W.heap.size, 0, none⟩) [1] from Rec.In.one W 5 (1 : Int) trivial)
        have HCN := Lib.hid (show O.length + [(1 : Int)].length ≤ 100000000 by have := HOL.out; simp only [List.length_cons, List.length_nil]; omega)
        obtain ⟨O1, hO1⟩ : ∃ O1, O1 = O ++ [(1 : Int)] := ⟨_, rfl⟩
        have HO1 := Lib.hid hO1
        clear hbn hO1
        go_wp2_with (at_builtin; refine Rec.wpList_app byte23 rfl _ _ rfl W2.heap.size _ O [(1 : Int)] O1 HO1.out rfl HRN.out _ 1 rfl HNEW.out (fun e => by cases e) HCN.out HBN.out.size ?_)
        rintro v' w7 ho7 _ hb7
        have HO7 := Lib.hid ho7
        have HB7 := Lib.hid (HBN.out.trans hb7)
        clear ho7 hb7
        go_wp2
        go_roundg (gk - 2)
        case measure => have := HG.out; have := HB1.out; omega
        case rel => exact ⟨i + 1, j + 1, O1, by have := HG.out; have := HB1.out; omega, by have := HB1.out; omega, by have := HB1.out; omega, by go_num, by go_num, by rw [HO1.out, List.append_assoc]; have h1 := HO.out; rw [HSC.out] at h1; exact h1, HO7.out, HB7.out⟩
      | false =>
        have hb1 := of_decide_eq_false HBE.out.symm
        have HB1 := Lib.hid hb1
        obtain ⟨B2, hB2⟩ : ∃ B2 : Bool, B2 = decide (i < a.length ∧ (j = b.length ∨ C a b (i + 1) j ≤ C a b i (j + 1))) := ⟨_, rfl⟩
        have HB2E := Lib.hid hB2
        clear hb1 hB2
        go_upto_region 11 with fail
        go_cut [87] (fun v87 wx => v87 = .bool B2 ∧ Below W.heap.size W wx)
        case first =>
          by_cases hin : i < a.length
          · have g1 : decide ((i : Int) < a.length) = true := decide_eq_true (by omega)
            by_cases hjm : j = b.length
            · have g2 : ((j : Int) == b.length) = true := beq_iff_eq.2 (by omega)
              have HBF := Lib.hid (show B2 = true by rw [HB2E.out]; exact decide_eq_true ⟨hin, .inl hjm⟩)
              clear hjm
              refine wp_region_over (by kernel_rfl) (by kernel_rfl) ?_
              repeat (go_big_quiet_step (fail))
              refine wpQuiet_nil ?_
              rintro _ ⟨x0, rfl⟩
              go_wp2_with fail
              go_meet
              exact ⟨by rw [HBF.out], ov_below W x0⟩
            · have g2 : ((j : Int) == b.length) = false := beq_eq_false_iff_ne.2 (by omega)
              obtain ⟨I1, hI1⟩ : ∃ I1, I1 = i + 1 := ⟨_, rfl⟩
              obtain ⟨J1, hJ1⟩ : ∃ J1, J1 = j + 1 := ⟨_, rfl⟩
              have q1 : IntKind.i64.wrap ((i : Int) + 1) = (I1 : Int) := by rw [IntWalk.i64_in _ (by omega)]; omega
              have q2 : IntKind.i64.wrap ((j : Int) + 1) = (J1 : Int) := by rw [IntWalk.i64_in _ (by omega)]; omega
              have q3 : (I1 : Int) < (a.length + 1 : Nat) := by omega
              have q3' : (i : Int) < (a.length + 1 : Nat) := by omega
              have q3n : I1 < a.length + 1 := by omega
              have q3n' : i < a.length + 1 := by omega
              have q4 : (J1 : Int) < (b.length + 1 : Nat) := by omega
              have q4' : (j : Int) < (b.length + 1 : Nat) := by omega
              have q4n : J1 < b.length + 1 := by omega
              have q4n' : j < b.length + 1 := by omega
              obtain ⟨ga, ha1, ha2⟩ := HCM.out i (by omega) hi
              obtain ⟨gb, hb3, hb4⟩ := HCM.out I1 (by omega) (by omega)
              have c1 := hdr_at ha1 HHR.out
              have c2 := hdr_at hb3 HHR.out
              have d1 := num_at (k := J1) (by rw [crow_len]; omega) ha2
              have d2 := num_at (k := j) (by rw [crow_len]; omega) hb4
              rw [crow_at a b i J1 (by omega)] at d1
              rw [crow_at a b I1 j hj] at d2
              have hl0 : go < W2.heap.size := cell_lt c1
              have hl1 : ga < W2.heap.size := cell_lt d1
              have hl2 : gb < W2.heap.size := cell_lt d2
              replace c1 := (HBW.out.cell (p := ⟨go, i, none⟩) hl0).trans c1
              replace c2 := (HBW.out.cell (p := ⟨go, I1, none⟩) hl0).trans c2
              replace d1 := (HBW.out.cell (p := ⟨ga, J1, none⟩) hl1).trans d1
              replace d2 := (HBW.out.cell (p := ⟨gb, j, none⟩) hl2).trans d2
              have hl0' : go < W.heap.size := Nat.lt_of_lt_of_le hl0 HBW.out.size
              have hl1' : ga < W.heap.size := Nat.lt_of_lt_of_le hl1 HBW.out.size
              have hl2' : gb < W.heap.size := Nat.lt_of_lt_of_le hl2 HBW.out.size
              have hBB : B2 = decide (C a b I1 j ≤ C a b i J1) := by rw [HB2E.out, hI1, hJ1]; simp [hin, hjm]
              clear ha1 ha2 hb3 hb4 hI1 hJ1
              generalize C a b I1 j = x at *
              generalize C a b i J1 = y at *
              have g3 : decide ((x : Int) ≤ (y : Int)) = B2 := by rw [hBB]; exact decide_eq_decide.2 (by omega)
              have g3n : decide (x ≤ y) = B2 := hBB.symm
              clear hBB hjm hl0 hl1 hl2
              refine wp_region_over (by kernel_rfl) (by kernel_rfl) ?_
              repeat (go_big_quiet_step (fail))
              refine wpQuiet_nil ?_
              rintro _ ⟨x0, rfl⟩
              go_wp2_with fail
              go_meet
              exact ⟨rfl, ov_below W x0⟩
          · have g1 : decide ((i : Int) < a.length) = false := decide_eq_false (by omega)
            have HBF := Lib.hid (show B2 = false by rw [HB2E.out]; exact decide_eq_false (fun h => hin h.1))
            refine wp_region_over (by kernel_rfl) (by kernel_rfl) ?_
            repeat (go_big_quiet_step (fail))
            refine wpQuiet_nil ?_
            rintro _ ⟨x0, rfl⟩
            go_wp2_with fail
            go_meet
            exact ⟨by rw [HBF.out], ov_below W x0⟩
        case rest =>
        obtain ⟨rfl, hbx⟩ := hcut
        replace HOW := Lib.hid (HOW.out.below hbx)
        replace HBW := Lib.hid (HBW.out.trans (hbx.mono HBW.out.size))
        clear hbx
        obtain ⟨W9, hW9⟩ : ∃ W9, W9 = wc := ⟨_, rfl⟩
        rw [← hW9] at HOW HBW ⊢
        clear hW9
        cases B2 with
        | true =>
          have hb2 := of_decide_eq_true HB2E.out.symm
          have HSC := Lib.hid (SC_drop a b i j hb2.1 (by
            rcases hb2.2 with h | h
            · exact .inl h
            · by_cases hjm : j < b.length
              · have hne : a.getD i 0 ≠ b.getD j 0 := fun h => HB1.out ⟨hb2.1, hjm, h⟩
                have := C_ne a b i j hb2.1 hjm hne
                exact .inr ⟨hjm, hne, by omega⟩
              · exact .inl (by omega)))
          have HIN := Lib.hid hb2.1
          clear hb2
          have hbn := (Below.refl W9.heap.size W9).alloc (Nat.le_refl _) (.cells #[.int .u8 2] 5)
          have HRN := Lib.hid (HOW.out.below hbn)
          have HBN := Lib.hid (HBW.out.trans (hbn.mono HBW.out.size))
          have HNEW := Lib.hid (show (numR .u8).In (W9.alloc (.cells #[.int .u8 2] 5)) (some ⟨W9.heap.size, 0, none⟩) [2] from Rec.In.one W9 5 (2 : Int) trivial)
          have HCN := Lib.hid (show O.length + [(2 : Int)].length ≤ 100000000 by have := HOL.out; simp only [List.length_cons, List.length_nil]; omega)
          obtain ⟨O1, hO1⟩ : ∃ O1, O1 = O ++ [(2 : Int)] := ⟨_, rfl⟩
          have HO1 := Lib.hid hO1
          clear hbn hO1
          go_wp2_with (at_builtin; refine Rec.wpList_app byte23 rfl _ _ rfl W2.heap.size _ O [(2 : Int)] O1 HO1.out rfl HRN.out _ 1 rfl HNEW.out (fun e => by cases e) HCN.out HBN.out.size ?_)
          rintro v' w7 ho7 _ hb7
          have HO7 := Lib.hid ho7
          have HB7 := Lib.hid (HBN.out.trans hb7)
          clear ho7 hb7
          go_wp2
          go_roundg (gk - 1)
          case measure => have := HG.out; have := HIN.out; omega
          case rel => exact ⟨i + 1, j, O1, by have := HG.out; have := HIN.out; omega, by have := HIN.out; omega, hj, by go_num, rfl, by rw [HO1.out, List.append_assoc]; have h1 := HO.out; rw [HSC.out] at h1; exact h1, HO7.out, HB7.out⟩
        | false =>
          have hb2 := of_decide_eq_false HB2E.out.symm
          have hjm : j < b.length := by
            apply Classical.byContradiction
            intro hn
            have := HND.out
            exact hb2 ⟨by omega, .inl (by omega)⟩
          have HSC := Lib.hid (SC_add a b i j hi hjm (by
            by_cases hin : i < a.length
            · have hne : a.getD i 0 ≠ b.getD j 0 := fun h => HB1.out ⟨hin, hjm, h⟩
              have := C_ne a b i j hin hjm hne
              have h3 : ¬ C a b (i + 1) j ≤ C a b i (j + 1) := fun h => hb2 ⟨hin, .inr h⟩
              exact .inr ⟨hin, hne, by omega⟩
            · exact .inl (by omega)))
          clear hb2
          have hbn := (Below.refl W9.heap.size W9).alloc (Nat.le_refl _) (.cells #[.int .u8 3] 5)
          have HRN := Lib.hid (HOW.out.below hbn)
          have HBN := Lib.hid (HBW.out.trans (hbn.mono HBW.out.size))
          have HNEW := Lib.hid (show (numR .u8).In (W9.alloc (.cells #[.int .u8 3] 5)) (some ⟨W9.heap.size, 0, none⟩) [3] from Rec.In.one W9 5 (3 : Int) trivial)
          have HCN := Lib.hid (show O.length + [(3 : Int)].length ≤ 100000000 by have := HOL.out; simp only [List.length_cons, List.length_nil]; omega)
          obtain ⟨O1, hO1⟩ : ∃ O1, O1 = O ++ [(3 : Int)] := ⟨_, rfl⟩
          have HO1 := Lib.hid hO1
          clear hbn hO1
          go_wp2_with (at_builtin; refine Rec.wpList_app byte23 rfl _ _ rfl W2.heap.size _ O [(3 : Int)] O1 HO1.out rfl HRN.out _ 1 rfl HNEW.out (fun e => by cases e) HCN.out HBN.out.size ?_)
          rintro v' w7 ho7 _ hb7
          have HO7 := Lib.hid ho7
          have HB7 := Lib.hid (HBN.out.trans hb7)
          clear ho7 hb7
          go_wp2
          go_roundg (gk - 1)
          case measure => have := HG.out; omega
          case rel => exact ⟨i, j + 1, O1, by have := HG.out; omega, hi, by omega, rfl, by go_num, by rw [HO1.out, List.append_assoc]; have h1 := HO.out; rw [HSC.out.1] at h1; exact h1, HO7.out, HB7.out⟩
end Go.Proofs.Ytipoifokcnbfnaa
