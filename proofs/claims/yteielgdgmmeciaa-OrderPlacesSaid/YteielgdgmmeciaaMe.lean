/- The reference's SortKeys; the law OrderPlaces: walks. -/
import Derived.Test.YteielgdgmmeciaaMd
namespace Go.Proofs.Yteielgdgmmeciaa
open Go.RowKit
set_option linter.unusedVariables false

set_option maxHeartbeats 4000000 in
set_option maxRecDepth 100000 in
theorem rsortKeys_any (a : Option Addr) (cap : Nat) (ks : List Key) (w : World) (hm : ks.length ≤ 1000000) (hin : keyR.In w a ks) :
    Calls Try.prog 29 #[.slice a ks.length cap] w fun e w' => ∃ v, e = .returned v ∧ intR.row 3 w.heap.size (mergeI (leK (plCmp ks)) (places ks.length)) v w' ∧ Below w.heap.size w w' := by
  have HIN := Lib.hid hin
  have HM := Lib.hid hm
  clear hin hm
  go_enter Try.func29, Try.ntmps29
  go_wp2_with fail
  go_loopg [3, 4] ks.length (fun g vo i wr => ∃ (k : Nat) (O : List Int), g + k = ks.length ∧ i = .int .i64 k ∧ intR.row 3 w.heap.size O vo wr ∧ O.Perm (places k) ∧ O.Pairwise (fun a b => plLe ks a b = true) ∧ Below w.heap.size w wr)
  case atStart => exact ⟨0, [], by omega, rfl, Rec.row.nil, by simp [places], List.Pairwise.nil, Below.refl _ _⟩
  case round =>
    obtain ⟨k, O, hg, rfl, hrow, hp, hs, hb⟩ := hrel
    have HG := Lib.hid hg
    have HR := Lib.hid hrow
    have HP := Lib.hid hp
    have HS := Lib.hid hs
    have HB := Lib.hid hb
    have hlen : O.length = k := by rw [hp.length_eq, places_length]
    clear hg hrow hp hs hb
    by_cases hk : k < ks.length
    · rcases HIN.out.2 with h | ⟨b, off, rfl, hlt, hc⟩
      · subst h; simp at hk
      have HKC := Lib.hid (fun j (hj : j < ks.length) => hc j _ (keyAt_nat ks j hj))
      have HK32 := Lib.hid (fun j (hj : j < ks.length) => keyAt_32 HIN.out j hj)
      clear hc
      have HOK := Lib.hid hlen
      have hk6 : k ≤ 1000000 := by have := HM.out; omega
      have i1 : (k : Int) < ks.length := by omega
      obtain ⟨O1, hO1⟩ : ∃ O1, O1 = O ++ [(k : Int)] := ⟨_, rfl⟩
      have HO1 := Lib.hid hO1
      have HC := Lib.hid (show (O : List Int).length + [(k : Int)].length ≤ 100000000 by simp only [List.length_cons, List.length_nil]; omega)
      have hl1 : O1.length = k + 1 := by rw [hO1]; simp [hlen]
      have HL1 := Lib.hid hl1
      obtain ⟨a2, c2, rfl, p1, p2, p3, p4⟩ := HR.out.sl
      unfold maxLen at p2
      have hbn := (Below.refl wr.heap.size wr).alloc (Nat.le_refl _) (.cells #[.int .i64 (k : Int)] 3)
      have HNEW := Lib.hid (show intR.In (wr.alloc (.cells #[.int .i64 (k : Int)] 3)) (some ⟨wr.heap.size, 0, none⟩) [(k : Int)] from Rec.In.one wr 3 (k : Int) trivial)
      have HRN := Lib.hid (HR.out.below hbn)
      have HBN := Lib.hid (HB.out.trans (hbn.mono HB.out.size))
      clear hbn hO1 hl1 hlen p3 p4
      go_wp2_with (at_builtin; refine Rec.wpList_app int40 rfl _ _ rfl w.heap.size _ O [(k : Int)] O1 HO1.out rfl HRN.out _ 1 rfl HNEW.out (fun e => by cases e) HC.out HBN.out.size ?_)
      rintro v1 w1 ho1 _ hb1
      have HR1 := Lib.hid ho1
      have HB1 := Lib.hid (HBN.out.trans hb1)
      obtain ⟨g1, c1, rfl, q1, q2, q3, q4⟩ := HR1.out.some (by intro h; have := HL1.out; rw [h] at this; simp at this)
      rw [HL1.out] at q1 HR1 ⊢
      rw [HOK.out]
      clear ho1 hb1 q3 q4
      go_wp2_with fail
      go_loopg [5] k (fun g kk wr2 => ∃ (m : Nat) (A : List Int), g = m ∧ kk = .int .i64 m ∧ m ≤ k ∧ intR.row 3 w.heap.size A (.slice (some ⟨g1, 0, none⟩) (k + 1) c1) wr2 ∧ A.length = k + 1 ∧ A.take m = O.take m ∧ A.drop (m + 1) = O.drop m ∧
        (∀ j, m ≤ j → j < O.length → plLe ks (k : Int) (O.getD j default) = true) ∧ Below w.heap.size w wr2)
      case atStart => exact ⟨k, O1, rfl, rfl, Nat.le_refl _, HR1.out, HL1.out, by rw [HO1.out, List.take_append_of_le_length (by rw [HOK.out]; exact Nat.le_refl _)], by rw [HO1.out, List.drop_of_length_le (by simp [HOK.out]), List.drop_of_length_le (by rw [HOK.out]; exact Nat.le_refl _)], fun j h1 h2 => by rw [HOK.out] at h2; omega, HB1.out⟩
      case round =>
        obtain ⟨m, A, hgm, rfl, hmk, hra, hla, htk, hdr, hgt, hb2⟩ := hrel
        have HGM := Lib.hid hgm
        have HRA := Lib.hid hra
        have HLA := Lib.hid hla
        have HTK := Lib.hid htk
        have HDR := Lib.hid hdr
        have HGT := Lib.hid hgt
        have HB2 := Lib.hid hb2
        have hmA : m < A.length := by omega
        have HSET := Lib.hid (show A.set m (k : Int) = O.take m ++ (k : Int) :: O.drop m by
          rw [List.set_eq_take_append_cons_drop, if_pos (by omega), HTK.out, HDR.out])
        have i3 : (m : Int) < ((k + 1 : Nat) : Int) := by omega
        have i4 : (m : Int) < (k : Int) + 1 := by omega
        have HMA := Lib.hid hmA
        clear hgm hra htk hdr hgt hb2 hla hmA
        by_cases hm0 : m = 0
        · have j1 : decide (0 < (m : Int)) = false := by simp; omega
          have j2 : ¬ (0 < m) := by omega
          have LOW := Lib.hid (show m = 0 ∨ plLe ks (O.getD (m - 1) default) (k : Int) = true from .inl hm0)
          clear hm0
          go_wp2_with fail
          refine wp_region_over (by kernel_rfl) (by kernel_rfl) ?_
          repeat (go_big_quiet_step (fail))
          refine wpQuiet_nil ?_
          rintro _ ⟨x0, rfl⟩
          have HBQ := Lib.hid (HB2.out.trans ((ov_below wr x0).mono HB2.out.size))
          have HRQ := Lib.hid (HRA.out.below (ov_below wr x0))
          have z0 := int_frozen HMA.out HRQ.out
          have z1 : (ov wr x0).cell? ⟨g1, m, none⟩ = some (.int .i64 (A[m]'HMA.out)) := by
            have := int_cell (b := g1) (o := 0) (k := m) (x := A[m]'HMA.out) (by rw [Nat.zero_add]; exact HRQ.out.at (by simp))
            rwa [Nat.zero_add] at this
          have HFIN := Lib.hid (int_set (k : Int) HMA.out HRQ.out)
          generalize ov wr x0 = wq at *
          go_wp2
          go_roundg (ks.length - k - 1)
          case measure => have := HG.out; omega
          case rel => exact ⟨k + 1, A.set m k, by omega, by go_num, HFIN.out.1, by rw [HSET.out, places_succ]; exact (insG_perm O (k : Int) m).trans (HP.out.append_right _), by rw [HSET.out]; exact insG_sorted (fun a b c => plLe_trans ks a b c) (by rw [HOK.out]; exact hmk) HS.out LOW.out HGT.out, HBQ.out.trans HFIN.out.2⟩
        · have hmp : 0 < m := by omega
          have hyO : m - 1 < O.length := by rw [HOK.out]; omega
          have hAO : A[m - 1]? = some (O.getD (m - 1) default) := by
            have h1 : (A.take m)[m - 1]? = A[m - 1]? := by rw [List.getElem?_take, if_pos (by omega)]
            have h2 : (O.take m)[m - 1]? = O[m - 1]? := by rw [List.getElem?_take, if_pos (by omega)]
            rw [← h1, HTK.out, h2, List.getD_eq_getElem?_getD, List.getElem?_eq_getElem hyO]; rfl
          have hym : O.getD (m - 1) default ∈ places k := HP.out.mem_iff.1 (by rw [List.getD_eq_getElem?_getD, List.getElem?_eq_getElem hyO]; exact List.getElem_mem hyO)
          obtain ⟨jy, hjy, hye⟩ := List.mem_map.1 hym
          have hjk := List.mem_range.1 hjy
          have HYE := Lib.hid hye
          rw [← hye] at hAO
          have e1 := int_cell (b := g1) (o := 0) (k := m - 1) (by rw [Nat.zero_add]; exact HRA.out.at hAO)
          rw [Nat.zero_add] at e1
          have e0 : g1 < wr.heap.size := by obtain ⟨g', c', he, _, _, _, hh⟩ := HRA.out.some (by intro h; have := HLA.out; rw [h] at this; simp at this); injection he with u1 u2 u3; injection u1 with u1; injection u1 with u1 u4 u5; rw [u1]; exact hh
          obtain ⟨f1, f2⟩ := key_at ((HKC.out jy (by omega)).below HB2.out)
          obtain ⟨f3, f4⟩ := key_at ((HKC.out k hk).below HB2.out)
          have hka := HK32.out jy (by omega)
          have hkb := HK32.out k hk
          have HKK := Lib.hid (show plCmp ks jy k = keysCmp (keyAt ks jy).1 (keyAt ks jy).2.1 (keyAt ks jy).2.2 (keyAt ks k).1 (keyAt ks k).2.1 (keyAt ks k).2.2 from rfl)
          have HANTI := Lib.hid (plCmp_anti ks jy k)
          have HLEy := Lib.hid (plLe_iff ks (k : Int) (jy : Int))
          have HLEx := Lib.hid (plLe_iff ks (jy : Int) (k : Int))
          generalize keyAt ks (jy : Int) = ka at *
          generalize keyAt ks (k : Int) = kb at *
          obtain ⟨t1, y1, z1⟩ := ka
          obtain ⟨t2, y2, z2⟩ := kb
          simp only at hka hkb f2 f4 HKK
          have RC := Lib.hid (fun W => rkeys_any t1 y1 z1 t2 y2 z2 hka hkb W)
          rw [← HKK.out] at RC
          generalize plCmp ks jy k = r at *
          have j1 : decide (0 < (m : Int)) = true := by simp; omega
          have j5 : ((m : Int) - 1).toNat = m - 1 := by omega
          have j6 : IntKind.i64.wrap ((m : Int) - 1) = (m : Int) - 1 := IntWalk.i64_in _ (by omega)
          have j8 : (jy : Int) < ks.length := by omega
          clear hym hjy hye hAO hyO HKK
          by_cases hr : 0 < r
          · have j7 : decide (0 < r) = true := by simpa using hr
            go_wp2_with fail
            refine wp_region_over (by kernel_rfl) (by kernel_rfl) ?_
            repeat (go_big_quiet_step ((go_at_call 14; exact Calls.over_of (RC.out _))))
            refine wpQuiet_nil ?_
            rintro _ ⟨x0, rfl⟩
            have HBQ := Lib.hid (HB2.out.trans ((ov_below wr x0).mono HB2.out.size))
            have HRQ := Lib.hid (HRA.out.below (ov_below wr x0))
            have g2 := (cell_ov wr x0 ⟨g1, m - 1, none⟩ e0).trans e1
            have z0 := int_frozen HMA.out HRQ.out
            have z1 : (ov wr x0).cell? ⟨g1, m, none⟩ = some (.int .i64 (A[m]'HMA.out)) := by
              have := int_cell (b := g1) (o := 0) (k := m) (x := A[m]'HMA.out) (by rw [Nat.zero_add]; exact HRQ.out.at (by simp))
              rwa [Nat.zero_add] at this
            have HPUT := Lib.hid (int_set (jy : Int) HMA.out HRQ.out)
            clear e0 e1 f1 f2 f3 f4
            generalize ov wr x0 = wq at *
            go_wp2
            go_roundg (m - 1)
            case measure => have := HGM.out; omega
            case rel => exact ⟨m - 1, A.set m jy, rfl, congrArg (Value.int .i64) (by omega), by omega, HPUT.out.1, by rw [List.length_set, HLA.out], by
                have h1 := congrArg (List.take (m - 1)) HTK.out
                rw [List.take_take, List.take_take, Nat.min_eq_left (by omega)] at h1
                rw [List.take_set_of_le (by omega), h1], by
                rw [show m - 1 + 1 = m by omega, List.drop_set, if_neg (by omega), Nat.sub_self]
                have h1 : A.drop m = A.getD m default :: A.drop (m + 1) := by
                  rw [List.drop_eq_getElem_cons (by rw [HLA.out]; omega), List.getD_eq_getElem?_getD, List.getElem?_eq_getElem (by rw [HLA.out]; omega)]; rfl
                have h2 : O.drop (m - 1) = O.getD (m - 1) default :: O.drop m := by
                  rw [List.drop_eq_getElem_cons (by rw [HOK.out]; omega), List.getD_eq_getElem?_getD, List.getElem?_eq_getElem (by rw [HOK.out]; omega)]; simp only [Option.getD_some]; rw [show m - 1 + 1 = m by omega]
                rw [h1, h2, List.set_cons_zero, HDR.out, HYE.out], fun j hj1 hj2 => by
                by_cases hj : j = m - 1
                · rw [hj, ← HYE.out]; exact HLEy.out.2 (.inl (by rw [HANTI.out]; omega))
                · exact HGT.out j (by omega) hj2, HBQ.out.trans HPUT.out.2⟩
          · have j7 : decide (0 < r) = false := by simpa using hr
            have LOW := Lib.hid (show m = 0 ∨ plLe ks (O.getD (m - 1) default) (k : Int) = true from .inr (by rw [← HYE.out]; exact HLEx.out.2 (by omega)))
            go_wp2_with fail
            refine wp_region_over (by kernel_rfl) (by kernel_rfl) ?_
            repeat (go_big_quiet_step ((go_at_call 14; exact Calls.over_of (RC.out _))))
            refine wpQuiet_nil ?_
            rintro _ ⟨x0, rfl⟩
            clear e0 e1 f1 f2 f3 f4
            have HBQ := Lib.hid (HB2.out.trans ((ov_below wr x0).mono HB2.out.size))
            have HRQ := Lib.hid (HRA.out.below (ov_below wr x0))
            have z0 := int_frozen HMA.out HRQ.out
            have z1 : (ov wr x0).cell? ⟨g1, m, none⟩ = some (.int .i64 (A[m]'HMA.out)) := by
              have := int_cell (b := g1) (o := 0) (k := m) (x := A[m]'HMA.out) (by rw [Nat.zero_add]; exact HRQ.out.at (by simp))
              rwa [Nat.zero_add] at this
            have HFIN := Lib.hid (int_set (k : Int) HMA.out HRQ.out)
            generalize ov wr x0 = wq at *
            go_wp2
            go_roundg (ks.length - k - 1)
            case measure => have := HG.out; omega
            case rel => exact ⟨k + 1, A.set m k, by omega, by go_num, HFIN.out.1, by rw [HSET.out, places_succ]; exact (insG_perm O (k : Int) m).trans (HP.out.append_right _), by rw [HSET.out]; exact insG_sorted (fun a b c => plLe_trans ks a b c) (by rw [HOK.out]; exact hmk) HS.out LOW.out HGT.out, HBQ.out.trans HFIN.out.2⟩
    · have HKE := Lib.hid (show k = ks.length by have := HG.out; omega)
      go_wp2
      go_ret
      have hOe : O = mergeI (leK (plCmp ks)) (places ks.length) := places_unique (by have := HP.out; rwa [HKE.out] at this) HS.out
      exact ⟨_, rfl, by rw [← hOe]; exact HR.out, HB.out⟩

end Go.Proofs.Yteielgdgmmeciaa
