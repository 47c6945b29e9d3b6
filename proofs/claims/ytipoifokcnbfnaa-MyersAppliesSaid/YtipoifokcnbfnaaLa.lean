/- The reference's Apply, for text. -/
import Derived.Test.YtipoifokcnbfnaaKz
namespace Go.Proofs.Ytipoifokcnbfnaa
open Go.RowKit
set_option linter.unusedVariables false

theorem slice22_mid {w : World} {p : Option Addr} {c : Nat} {xs : List Int} (i n : Nat) (hn : i + n ≤ xs.length) (hc : xs.length ≤ c) (h : IntsIn .i32 w p xs) :
    ∃ pb, (∀ wx, (Instr.slice 22 (.slice p xs.length c) (some (.int .i64 (i : Int))) (some (.int .i64 ((i : Int) + n))) none).run Try.prog wx = .ok (.slice pb n (c - i)) wx) ∧ IntsIn .i32 w pb ((xs.drop i).take n) := by
  have hsz : ∀ wx, (sizeOf (Try.prog.elem 22)).run Try.prog wx = .ok 1 wx := fun wx => by simp [sizeOf, typeInfo, show Try.prog.info? (Try.prog.elem 22) = Try.prog.info? 21 from rfl, Sem.run_bind]; rfl
  have e1 : ((i : Int) + n).toNat - i = n := by omega
  by_cases h0 : c = i
  · refine ⟨p, fun wx => ?_, .inl (List.length_eq_zero_iff.1 (by rw [List.length_take, List.length_drop]; omega))⟩
    rw [run_slice_lh wx 22 p xs.length c (by kernel_rfl) .i64 .i64 i (i + n) (by omega) (by omega) (by omega), hsz]
    simp [sliced, h0]; omega
  · refine ⟨p.map (·.add i), fun wx => ?_, (h.dropP i).takeP n⟩
    rw [run_slice_lh wx 22 p xs.length c (by kernel_rfl) .i64 .i64 i (i + n) (by omega) (by omega) (by omega), hsz]
    simp [sliced, h0]; omega
theorem rec_cells {w : World} {b o : Nat} {x : Ed} (h : edR.At w ⟨b, o, none⟩ x) : w.cell? ⟨b, o, none⟩ = some (.int .i64 x.1) ∧ w.cell? ⟨b, o + 1, none⟩ = some (.int .i64 x.2.1) ∧ w.cell? ⟨b, o + 2, none⟩ = some (.string ⟨x.2.2.toArray⟩) := by
  have q0 := aggAt_get (j := 0) h.1 (by decide)
  have q1 := aggAt_get (j := 1) h.1 (by decide)
  have q2 := aggAt_get (j := 2) h.1 (by decide)
  rw [h.2] at q0 q1 q2
  exact ⟨by simpa [edR, edB] using q0, by simpa [edR, edB] using q1, by simpa [edR, edB] using q2⟩

set_option maxHeartbeats 4000000 in
set_option maxRecDepth 100000 in
theorem rapply_text (s : ByteArray) (hs : s.size ≤ 4096) (a : Option Addr) (cap : Nat) (E : List Ed) (w : World) (hEl : E.length ≤ 10000) (hEt : ∀ e ∈ E, e.2.2.length ≤ 40000) (hin : edR.In w a E) (h0 : chkE s.data.toList = 0) :
    Calls Try.prog 19 #[.string s, .slice a E.length cap] w fun e w' => e = .returned (.tuple #[.string ⟨(applyL s.data.toList E).1.toArray⟩, .int .i64 (applyL s.data.toList E).2]) ∧ Below w.heap.size w w' := by
  have HX := Lib.hid hin
  have HT := Lib.hid hEt
  have H0 := Lib.hid h0
  have H1 := Lib.hid (rrunes_any s (by unfold maxLen; omega) (by omega) w)
  obtain ⟨RT, hRT⟩ : ∃ RT, RT = applyL s.data.toList E := ⟨_, rfl⟩
  rw [← hRT]
  have HRT := Lib.hid hRT
  clear hin hEt h0 hRT
  go_enter Try.func19, Try.ntmps19
  go_wp2_with fail
  refine H1.out.mono ?_
  rintro e w1 ⟨v1, rfl, hr1, hb1⟩
  rw [H0.out]
  have HR1 := Lib.hid hr1
  obtain ⟨p1, c1, rfl⟩ := owns_slice hr1
  have HB1 := Lib.hid hb1
  clear hr1 hb1
  go_wp2_with fail
  go_loopg [9] E.length (fun g v9 wr => ∃ (k : Nat), g + k = E.length ∧ v9 = .int .i64 k ∧ (∀ e ∈ E.take k, chkE e.2.2 = 0) ∧ Below w1.heap.size w1 wr)
  case atStart => exact ⟨0, by omega, rfl, by simp, Below.refl _ _⟩
  case round =>
    obtain ⟨k, hg, rfl, hc, hbw⟩ := hrel
    have HG := Lib.hid hg
    have HC := Lib.hid hc
    have HB := Lib.hid hbw
    clear hg hc hbw
    by_cases hk : k < E.length
    · rcases HX.out.2 with h | ⟨b, off, rfl, hlt, hcl⟩
      · subst h; simp at hk
      have hxk : E[k]? = some (E.getD k ed0) := by simp [List.getD_eq_getElem?_getD, hk]
      obtain ⟨q0, q1, q2⟩ := rec_cells (((hcl k _ hxk).below HB1.out).below HB.out)
      rw [show edR.sz = 3 from rfl] at q0 q1 q2
      have i1 : (k : Int) < E.length := by omega
      have hb2 := HT.out _ (List.mem_of_getElem? hxk)
      have HTK := Lib.hid (take_snocB ed0 E k hk)
      have HMEM := Lib.hid (List.mem_of_getElem? hxk)
      clear hcl hxk
      obtain ⟨⟨x0, x1, x2⟩, hx⟩ : ∃ x, x = E.getD k ed0 := ⟨_, rfl⟩
      rw [← hx] at q0 q1 q2 HTK hb2 HMEM
      simp only at hb2 q0 q1 q2
      have HCK := Lib.hid (fun w' => ris_any ⟨x2.toArray⟩ (by show x2.toArray.size ≤ _; simp; omega) w')
      have HCC := Lib.hid (chkE_cases x2)
      clear hx
      rcases HCC.out with hcc | hcc
      · have HCE := Lib.hid hcc
        rw [show (chkE (⟨x2.toArray⟩ : ByteArray).data.toList == 0) = true from by rw [show chkE (⟨x2.toArray⟩ : ByteArray).data.toList = 0 from hcc]; rfl] at HCK
        clear hcc
        go_wp2_with fail
        refine (HCK.out _).mono ?_
        rintro e w2 ⟨rfl, hb2⟩
        have HB2 := Lib.hid (HB.out.trans (hb2.mono HB.out.size))
        clear hb2
        go_wp2
        go_roundg (gk - 1)
        case measure => have := HG.out; omega
        case rel => exact ⟨k + 1, by have := HG.out; omega, by go_num, (by rw [HTK.out]; intro e he; rcases List.mem_append.1 he with he | he; exact HC.out e he; rw [List.mem_singleton] at he; subst he; exact HCE.out), HB2.out⟩
      · have HCE := Lib.hid (show RT = ([], 5) by
          rw [HRT.out]; unfold applyL
          rw [if_pos (.inr (List.any_eq_true.2 ⟨_, HMEM.out, by simp [hcc]⟩))])
        rw [show (chkE (⟨x2.toArray⟩ : ByteArray).data.toList == 0) = false from by rw [show chkE (⟨x2.toArray⟩ : ByteArray).data.toList = 5 from hcc]; rfl] at HCK
        clear hcc
        go_wp2_with fail
        refine (HCK.out _).mono ?_
        rintro e w2 ⟨rfl, hb2⟩
        have HB2 := Lib.hid (HB.out.trans (hb2.mono HB.out.size))
        clear hb2
        go_wp2
        go_ret2
        exact ⟨by rw [HCE.out]; rfl, HB1.out.trans (HB2.out.mono HB1.out.size)⟩
    · have HCA := Lib.hid (show ∀ e ∈ E, chkE e.2.2 = 0 by
        have := HC.out; rw [List.take_of_length_le (by omega)] at this; exact this)
      obtain ⟨x, hx⟩ : ∃ x, x = runesL s.data.toList := ⟨_, rfl⟩
      have HFN := Lib.hid (fun (h : E.foldl (apStep x) (some (0, [])) = none) => (show RT = ([], 1) by rw [HRT.out]; exact applyL_none (hx ▸ h) H0.out HCA.out))
      have HFS := Lib.hid (fun (i : Nat) (out : List UInt8) (h : E.foldl (apStep x) (some (0, [])) = some (i, out)) => (show RT = if i = x.length then (out, 0) else ([], 1) by rw [HRT.out, hx]; exact applyL_some (hx ▸ h) H0.out HCA.out))
      have HGX := Lib.hid (show Good x by rw [hx]; exact runesL_good _)
      have hxl : x.length ≤ 4096 := by
        have h1 := runesL_le s.data.toList
        have h2 : s.data.toList.length = s.size := by simp
        rw [hx]; omega
      rw [← hx] at HR1
      have hri := IntsIn.of_row HR1.out
      have HP1 := Lib.hid (hri.1.below HB.out)
      have hc1 := hri.2.1
      have hc2 := hri.2.2
      have hc2 : c1 ≤ 9223372036854775807 := by unfold maxLen at hc2; omega
      rw [← hx]
      have HBA := Lib.hid (HB1.out.trans (HB.out.mono HB1.out.size))
      clear hx HR1 HRT HC hri
      rename World => w5
      go_wp2_with fail
      go_loopg [10, 11, 12] E.length (fun g v10 v11 v12 wr => ∃ (k i : Nat) (out : List UInt8), g + k = E.length ∧ v12 = .int .i64 k ∧ v11 = .string ⟨out.toArray⟩ ∧ v10 = .int .i64 i ∧ i ≤ x.length ∧ 
        out.length ≤ k * 60000 ∧ (E.take k).foldl (apStep x) (some (0, [])) = some (i, out) ∧ Below w5.heap.size w5 wr)
      case atStart => exact ⟨0, 0, [], by omega, rfl, rfl, rfl, by omega, by simp, rfl, Below.refl _ _⟩
      case round =>
        obtain ⟨k, i, out, hg, rfl, rfl, rfl, hix, hol, hfo, hbq⟩ := hrel
        have HG := Lib.hid hg
        have HFO := Lib.hid hfo
        have HBQ := Lib.hid hbq
        clear hg hfo hbq
        by_cases hk2 : k < E.length
        · rcases HX.out.2 with h | ⟨b, off, rfl, hlt, hcl⟩
          · subst h; simp at hk2
          have hxk : E[k]? = some (E.getD k ed0) := by simp [List.getD_eq_getElem?_getD, hk2]
          have HAT := Lib.hid ((((hcl k _ hxk).below HB1.out).below HB.out).below HBQ.out)
          obtain ⟨q0, q1, q2⟩ := rec_cells HAT.out
          rw [show edR.sz = 3 from rfl] at q0 q1 q2 HAT
          have i1 : (k : Int) < E.length := by omega
          have e3 : b < wr.heap.size := Nat.lt_of_lt_of_le hlt (Nat.le_trans HB1.out.size (Nat.le_trans HB.out.size HBQ.out.size))
          have hb2 := HT.out _ (List.mem_of_getElem? hxk)
          have hfk := fold_snoc (xs := x) hk2
          rw [HFO.out] at hfk
          clear hcl hxk
          obtain ⟨⟨x0, x1, x2⟩, hx⟩ : ∃ x, x = E.getD k ed0 := ⟨_, rfl⟩
          rw [← hx] at q0 q1 q2 hb2 hfk HAT
          have HFK := Lib.hid hfk
          have HYL := Lib.hid (show (x.drop i).length + i = x.length by rw [List.length_drop]; omega)
          have hyn : ((x.drop i).length : Int) = x.length - i := by rw [List.length_drop]; omega
          simp only at hb2 q0 q1 q2
          clear hx hfk
          have f9 : IntKind.i64.wrap ((x.length : Int) - i) = x.length - i := IntWalk.i64_in _ (by omega)
          by_cases b1 : x0 < 0
          · have HRE := Lib.hid (HFN.out (fold_none (k := k + 1) (by rw [HFK.out]; exact apStep_bad HYL.out (.inl b1))))
            clear HFK
            go_wp2_with fail
            refine wp_region_over (by kernel_rfl) (by kernel_rfl) ?_
            repeat (go_big_quiet_step (fail))
            refine wpQuiet_nil ?_
            rintro _ ⟨z0, rfl⟩
            have HBN := Lib.hid (HBQ.out.trans ((ov_below wr z0).mono HBQ.out.size))
            clear q0 q1 q2
            go_wp2
            go_ret2
            exact ⟨by rw [HRE.out]; rfl, HBA.out.trans (HBN.out.mono HBA.out.size)⟩
          have d1 : decide (x0 < 0) = false := decide_eq_false b1
          by_cases b2 : x1 < 0
          · have HRE := Lib.hid (HFN.out (fold_none (k := k + 1) (by rw [HFK.out]; exact apStep_bad HYL.out (.inr (.inl b2)))))
            clear HFK
            go_wp2_with fail
            refine wp_region_over (by kernel_rfl) (by kernel_rfl) ?_
            repeat (go_big_quiet_step (fail))
            refine wpQuiet_nil ?_
            rintro _ ⟨z0, rfl⟩
            have HBN := Lib.hid (HBQ.out.trans ((ov_below wr z0).mono HBQ.out.size))
            clear q0 q1 q2
            go_wp2
            go_ret2
            exact ⟨by rw [HRE.out]; rfl, HBA.out.trans (HBN.out.mono HBA.out.size)⟩
          have d2 : decide (x1 < 0) = false := decide_eq_false b2
          by_cases b3 : (x.length : Int) - i < x0
          · have HRE := Lib.hid (HFN.out (fold_none (k := k + 1) (by rw [HFK.out]; exact apStep_bad HYL.out (.inr (.inr (.inl (by simp only; omega)))))))
            clear HFK
            go_wp2_with fail
            refine wp_region_over (by kernel_rfl) (by kernel_rfl) ?_
            repeat (go_big_quiet_step (fail))
            refine wpQuiet_nil ?_
            rintro _ ⟨z0, rfl⟩
            have HBN := Lib.hid (HBQ.out.trans ((ov_below wr z0).mono HBQ.out.size))
            clear q0 q1 q2
            go_wp2
            go_ret2
            exact ⟨by rw [HRE.out]; rfl, HBA.out.trans (HBN.out.mono HBA.out.size)⟩
          have d3 : decide ((x.length : Int) - i < x0) = false := decide_eq_false b3
          have f0 : IntKind.i64.wrap ((x.length : Int) - i - x0) = x.length - i - x0 := IntWalk.i64_in _ (by omega)
          by_cases b4 : (x.length : Int) - i - x0 < x1
          · have HRE := Lib.hid (HFN.out (fold_none (k := k + 1) (by rw [HFK.out]; exact apStep_bad HYL.out (.inr (.inr (.inr (by simp only; omega)))))))
            clear HFK
            go_wp2_with fail
            refine wp_region_over (by kernel_rfl) (by kernel_rfl) ?_
            repeat (go_big_quiet_step (fail))
            refine wpQuiet_nil ?_
            rintro _ ⟨z0, rfl⟩
            have HBN := Lib.hid (HBQ.out.trans ((ov_below wr z0).mono HBQ.out.size))
            clear q0 q1 q2
            go_wp2
            go_ret2
            exact ⟨by rw [HRE.out]; rfl, HBA.out.trans (HBN.out.mono HBA.out.size)⟩
          have d4 : decide ((x.length : Int) - i - x0 < x1) = false := decide_eq_false b4
          obtain ⟨n0, rfl⟩ := Int.eq_ofNat_of_zero_le (show 0 ≤ x0 by omega)
          obtain ⟨n1, rfl⟩ := Int.eq_ofNat_of_zero_le (show 0 ≤ x1 by omega)
          have g0 : i + (n0 + n1) ≤ x.length := by omega
          have f1 : IntKind.i64.wrap ((n0 : Int) + n1) = n0 + n1 := IntWalk.i64_in _ (by omega)
          have f2 : IntKind.i64.wrap ((i : Int) + n0) = i + n0 := IntWalk.i64_in _ (by omega)
          have f3 : IntKind.i64.wrap ((i : Int) + ((n0 : Int) + n1)) = i + (n0 + n1) := IntWalk.i64_in _ (by omega)
          obtain ⟨pb, hs1, hpb⟩ := slice22_mid i n0 (by omega) hc1 (HP1.out.below HBQ.out)
          have HTX := Lib.hid (fun w' (hb : Below wr.heap.size wr w') => rtext_any pb (c1 - i) ((x.drop i).take n0) w' (by rw [List.length_take, List.length_drop]; omega) (hpb.below hb))
          obtain ⟨ht1, ht2⟩ := good_text (show Good ((x.drop i).take n0) from fun r hr => HGX.out r (List.mem_of_mem_drop (List.mem_of_mem_take hr)))
          rw [ht1, ht2, List.length_take, Nat.min_eq_left (by rw [List.length_drop]; omega)] at HTX
          have hal := encs_take_le (x.drop i) n0
          obtain ⟨A, hA⟩ : ∃ A, A = encs ((x.drop i).take n0) := ⟨_, rfl⟩
          rw [← hA] at HTX hal
          have HA := Lib.hid hA
          have hadd1 : ∀ w, (Op.stringOp .add (⟨A.toArray⟩ : ByteArray) ⟨x2.toArray⟩).run Try.prog w = .ok (.string ⟨(A ++ x2).toArray⟩) w := fun w => by
            rw [← add_bytes2]; exact run_string_add_sum w _ _ (by show A.toArray.size + x2.toArray.size ≤ _; simp; omega)
          have hadd2 : ∀ w, (Op.stringOp .add (⟨out.toArray⟩ : ByteArray) ⟨(A ++ x2).toArray⟩).run Try.prog w = .ok (.string ⟨(out ++ (A ++ x2)).toArray⟩) w := fun w => by
            rw [← add_bytes2]; exact run_string_add_sum w _ _ (by show out.toArray.size + (A ++ x2).toArray.size ≤ _; simp; omega)
          have HOB := Lib.hid (show (out ++ (A ++ x2)).length ≤ (k + 1) * 60000 by simp; omega)
          obtain ⟨out2, hout2⟩ : ∃ o, o = out ++ (A ++ x2) := ⟨_, rfl⟩
          rw [← hout2] at hadd2 HOB
          have HFT := Lib.hid (show (E.take (k + 1)).foldl (apStep x) (some (0, [])) = some (i + (n0 + n1), out2) by rw [HFK.out, apStep_good (ys := x.drop i) HYL.out rfl (by omega), hout2, HA.out])
          clear hA hout2 hpb hal ht1 ht2 hol HFK HYL hyn
          go_wp2_with fail
          refine wp_region_over (by kernel_rfl) (by kernel_rfl) ?_
          repeat (go_big_quiet_step (fail))
          refine wpQuiet_nil ?_
          rintro _ ⟨z0, rfl⟩
          have HBZ := Lib.hid (ov_below wr z0)
          obtain ⟨q0', q1', q2'⟩ := rec_cells (HAT.out.below HBZ.out)
          simp only at q0' q1' q2'
          generalize ov wr z0 = wz at *
          clear q0 q1 q2
          go_wp2_with fail
          refine (HTX.out _ HBZ.out).mono ?_
          rintro e w2 ⟨rfl, hb2⟩
          have HBE := Lib.hid (HBZ.out.trans (hb2.mono HBZ.out.size))
          obtain ⟨q0, q1, q2⟩ := rec_cells (HAT.out.below HBE.out)
          simp only at q0 q1 q2
          have e4 : b < w2.heap.size := Nat.lt_of_lt_of_le e3 HBE.out.size
          clear q0' q1' q2' hb2
          go_wp2_with fail
          refine wp_region_over (by kernel_rfl) (by kernel_rfl) ?_
          repeat (go_big_quiet_step (fail))
          refine wpQuiet_nil ?_
          rintro _ ⟨z1, rfl⟩
          have HB2 := Lib.hid (HBQ.out.trans ((HBE.out.trans ((ov_below w2 z1).mono HBE.out.size)).mono HBQ.out.size))
          clear q0 q1 q2
          go_wp2
          go_roundg (gk - 1)
          case measure => have := HG.out; omega
          case rel => exact ⟨k + 1, i + (n0 + n1), out2, by have := HG.out; omega, by go_num, rfl, by go_num, g0, HOB.out, HFT.out, HB2.out⟩
        · have HFE := Lib.hid (show RT = if i = x.length then (out, 0) else ([], 1) from HFS.out i out (by have := HFO.out; rwa [List.take_of_length_le (by omega)] at this))
          by_cases hz : i = x.length
          · have HRE := Lib.hid (show RT = (out, 0) by rw [HFE.out, if_pos hz])
            have g1 : ((i : Int) != x.length) = false := by rw [hz]; simp
            go_wp2
            go_ret2
            exact ⟨by rw [HRE.out]; rfl, HBA.out.trans (HBQ.out.mono HBA.out.size)⟩
          · have HRE := Lib.hid (show RT = ([], 1) by rw [HFE.out, if_neg hz])
            have g1 : ((i : Int) != x.length) = true := by simp; omega
            go_wp2
            go_ret2
            exact ⟨by rw [HRE.out]; rfl, HBA.out.trans (HBQ.out.mono HBA.out.size)⟩
end Go.Proofs.Ytipoifokcnbfnaa
