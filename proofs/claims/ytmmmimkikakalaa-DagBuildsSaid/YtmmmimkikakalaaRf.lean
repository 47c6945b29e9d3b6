/- The reference's Sort. -/
import Derived.Test.YtmmmimkikakalaaRc
namespace Go.Proofs.Ytmmmimkikakalaa
open Go.RowKit
set_option linter.unusedVariables false

theorem row_some {w : World} {base : Nat} {v : Value} {O : List (List UInt8)} (h0 : O ≠ []) (h : rowI base O v w) : ∃ g cap, v = .slice (some ⟨g, 0, none⟩) O.length cap ∧ O.length ≤ cap ∧ cap ≤ 9223372036854775807 := by
  obtain ⟨_, ⟨_, hn⟩ | ⟨g, cap, cur, rfl, hg, hh, hc, hm, hs, ht⟩⟩ := h
  · exact absurd (List.length_eq_zero_iff.1 hn) h0
  · exact ⟨g, cap, rfl, hc, by unfold maxLen at hm; omega⟩
theorem rowI_at {w : World} {base g l c : Nat} {O : List (List UInt8)} {k : Nat} (h32 : ∀ z ∈ O, z.length = 32) (hk : k < O.length) (h : rowI base O (.slice (some ⟨g, 0, none⟩) l c) w) :
    fits w ⟨g, k * 32, none⟩ 32 ∧ aggAt w ⟨g, k * 32, none⟩ 32 = idB (O.getD k []) := by
  obtain ⟨a, cap, he, _, hin, _⟩ := row_ids h32 h
  cases he
  rcases hin.2 with rfl | ⟨b, off, he, hc⟩
  · simp at hk
  · cases he
    have := hc k hk
    rwa [Nat.zero_add] at this

set_option maxHeartbeats 2000000 in
set_option maxRecDepth 100000 in
theorem rsort_any (a : Option Addr) (cap : Nat) (xs : List (List UInt8)) (w : World) (hm : xs.length ≤ 1000000) (hin : IdsIn w a xs) :
    Calls Try.prog 52 #[.slice a xs.length cap] w fun e w' => ∃ v, e = .returned v ∧ rowI w.heap.size (msort xs) v w' ∧ Below w.heap.size w w' := by
  have HIN := Lib.hid hin
  have HM := Lib.hid hm
  clear hin hm
  go_enter Try.func52, Try.ntmps52
  go_wp2_with fail
  go_loopg [3, 4] xs.length (fun g vo i wr => ∃ (k : Nat) (O : List (List UInt8)), g + k = xs.length ∧ i = .int .i64 k ∧ rowI w.heap.size O vo wr ∧ O.Perm (xs.take k) ∧ O.Pairwise (fun a b => leB a b = true) ∧ Below w.heap.size w wr)
  case atStart => exact ⟨0, [], by omega, rfl, ⟨by simp [idsC], .inl ⟨rfl, rfl⟩⟩, by simp, List.Pairwise.nil, Below.refl _ _⟩
  case round =>
    obtain ⟨k, O, hg, rfl, hrow, hp, hs, hb⟩ := hrel
    have HG := Lib.hid hg
    have HR := Lib.hid hrow
    have HP := Lib.hid hp
    have HS := Lib.hid hs
    have HB := Lib.hid hb
    have hlen : O.length = min k xs.length := by rw [hp.length_eq, List.length_take]
    have H32 := Lib.hid (show ∀ z ∈ O, z.length = 32 from fun z hz => HIN.out.1 z (List.mem_of_mem_take (hp.mem_iff.1 hz)))
    clear hg hrow hp hs hb
    by_cases hk : k < xs.length
    · rcases HIN.out.2 with h | ⟨b, off, rfl, hc⟩
      · subst h; simp at hk
      obtain ⟨e1, e2⟩ := IdAt.below (hc k hk) HB.out
      have E := Lib.hid (hc k hk)
      clear hc
      have hx := HIN.out.1 _ (getD_mem hk)
      have HT := Lib.hid (take_snoc [] xs k hk)
      generalize xs.getD k [] = x at *
      have hOk : O.length = k := by omega
      have HOK := Lib.hid hOk
      have hk6 : k ≤ 1000000 := by have := HM.out; omega
      have i1 : (k : Int) < xs.length := by omega
      obtain ⟨O1, hO1⟩ : ∃ O1, O1 = O ++ [x] := ⟨_, rfl⟩
      have HO1 := Lib.hid hO1
      have HC := Lib.hid (show (O : List (List UInt8)).length + [x].length ≤ 4000000 by simp only [List.length_cons, List.length_nil]; omega)
      have H321 := Lib.hid (show ∀ z ∈ O1, z.length = 32 from fun z hz => by rw [hO1] at hz; rcases List.mem_append.1 hz with h | h; exact H32.out z h; rw [List.mem_singleton.1 h]; exact hx)
      have hl1 : O1.length = k + 1 := by rw [hO1]; simp [hOk]
      have HL1 := Lib.hid hl1
      obtain ⟨a2, c2, rfl, p1, p2, p3, p4⟩ := SlI_row H32.out HR.out
      unfold maxLen at p2
      have hbn := (Below.refl wr.heap.size wr).alloc (Nat.le_refl _) (.cells (idB x) 24)
      have HNEW := Lib.hid (one_new (w := wr) hx)
      have HRN := Lib.hid (rowI_st _ _ _ _ _ HR.out hbn)
      have HBN := Lib.hid (HB.out.trans (hbn.mono HB.out.size))
      clear hbn hO1 hl1 hlen hOk p3 p4
      go_wp2_with (at_builtin; refine wpList_append_to rfl _ _ rfl w.heap.size _ O [x] O1 HO1.out rfl HRN.out _ 1 rfl HNEW.out (fun e => by cases e) HC.out HBN.out.size ?_)
      rintro v1 w1 ho1 hb1
      have HR1 := Lib.hid (show rowI w.heap.size O1 v1 w1 from ho1)
      have HB1 := Lib.hid (HBN.out.trans hb1)
      obtain ⟨g1, c1, rfl, q1, q2⟩ := row_some (by intro h; have := HL1.out; rw [h] at this; simp at this) HR1.out
      rw [HL1.out] at q1 HR1 ⊢
      rw [HOK.out]
      clear ho1 hb1 e1 e2
      go_wp2_with fail
      go_loopg [5] k (fun g kk wr2 => ∃ (m : Nat) (A : List (List UInt8)), g = m ∧ kk = .int .i64 m ∧ m ≤ k ∧ rowI w.heap.size A (.slice (some ⟨g1, 0, none⟩) (k + 1) c1) wr2 ∧ A.length = k + 1 ∧ A.take m = O.take m ∧ A.drop (m + 1) = O.drop m ∧
        (∀ j, m ≤ j → j < O.length → leB x (O.getD j []) = true) ∧ (∀ z ∈ A, z.length = 32) ∧ Below w.heap.size w wr2)
      case atStart => exact ⟨k, O1, rfl, rfl, Nat.le_refl _, HR1.out, HL1.out, by rw [HO1.out, List.take_append_of_le_length (by rw [HOK.out]; exact Nat.le_refl _)], by rw [HO1.out, List.drop_of_length_le (by simp [HOK.out]), List.drop_of_length_le (by rw [HOK.out]; exact Nat.le_refl _)], fun j h1 h2 => by rw [HOK.out] at h2; omega, H321.out, HB1.out⟩
      case round =>
        clear i1
        obtain ⟨m, A, hgm, rfl, hmk, hra, hla, htk, hdr, hgt, h32a, hb2⟩ := hrel
        have HGM := Lib.hid hgm
        have HRA := Lib.hid hra
        have HLA := Lib.hid hla
        have HTK := Lib.hid htk
        have HDR := Lib.hid hdr
        have HGT := Lib.hid hgt
        have H32A := Lib.hid h32a
        have HB2 := Lib.hid hb2
        clear hgm hra htk hdr hgt h32a hb2
        obtain ⟨e1, e2⟩ := IdAt.below E.out HB2.out
        have z0 := rowI_fitsZ (k := m) (by omega) HRA.out
        have HFIN := Lib.hid (rowI_put (x := x) (k := m) H32A.out hx (by omega) HRA.out)
        have HSET := Lib.hid (show A.set m x = O.take m ++ x :: O.drop m by
          rw [List.set_eq_take_append_cons_drop, if_pos (by omega), HTK.out, HDR.out])
        have i1 : (k : Int) < xs.length := by omega
        have i3 : (m : Int) < ((k + 1 : Nat) : Int) := by omega
        have i4 : (m : Int) < (k : Int) + 1 := by omega
        clear hla
        by_cases hm0 : m = 0
        · have j1 : decide (0 < (m : Int)) = false := by simp; omega
          have j2 : ¬ (0 < m) := by omega
          have LOW := Lib.hid (show m = 0 ∨ leB (O.getD (m - 1) []) x = true from .inl hm0)
          clear hm0
          go_wp2_with fail
          refine wp_region_over (by kernel_rfl) (by kernel_rfl) ?_
          repeat (go_big_quiet_step (fail))
          refine wpQuiet_nil ?_
          rintro _ ⟨x0, rfl⟩
          have HBQ := Lib.hid (HB2.out.trans ((ov_below wr x0).mono HB2.out.size))
          have HRQ := Lib.hid (rowI_st _ _ _ _ _ HRA.out (ov_below wr x0))
          have z1 := rowI_fitsZ (k := m) (by rw [HLA.out]; omega) HRQ.out
          have f1 := fits_ov wr x0 _ _ e1
          have f2 := (agg_ov wr x0 _ _ e1).trans e2
          have HFIN := Lib.hid (rowI_put (x := x) (k := m) H32A.out hx (by rw [HLA.out]; omega) HRQ.out)
          clear e1 e2 z0 j1 j2
          generalize ov wr x0 = wq at *
          go_wp2
          go_roundg (xs.length - k - 1)
          case measure => have := HG.out; omega
          case rel => exact ⟨k + 1, A.set m x, by omega, by go_num, by unfold rowI; rw [List.length_set, HLA.out]; have := HFIN.out.1; unfold rowI at this; rwa [List.length_set, HLA.out] at this, by rw [HSET.out, HT.out]; exact (ins_perm O x m).trans (HP.out.append_right _), by rw [HSET.out]; exact ins_sorted (by rw [HOK.out]; exact hmk) HS.out LOW.out HGT.out, HBQ.out.trans HFIN.out.2⟩
        · have hmp : 0 < m := by omega
          obtain ⟨e3, e4⟩ := rowI_at (k := m - 1) H32A.out (by rw [HLA.out]; omega) HRA.out
          have hyA : A.getD (m - 1) [] = O.getD (m - 1) [] := by
            have h1 : (A.take m).getD (m - 1) [] = A.getD (m - 1) [] := by simp only [List.getD_eq_getElem?_getD]; rw [List.getElem?_take, if_pos (by omega)]
            have h2 : (O.take m).getD (m - 1) [] = O.getD (m - 1) [] := by simp only [List.getD_eq_getElem?_getD]; rw [List.getElem?_take, if_pos (by omega)]
            rw [← h1, ← h2, HTK.out]
          rw [hyA] at e4
          have hy := H32.out _ (getD_mem (show m - 1 < O.length by rw [HOK.out]; omega))
          obtain ⟨y, hye⟩ : ∃ y, y = O.getD (m - 1) [] := ⟨_, rfl⟩
          rw [← hye] at e4 hy
          have HYE := Lib.hid hye
          clear hyA hye
          have RC := Lib.hid (fun W => rcompare_any y x hy hx W)
          have HLE := Lib.hid (show leB y x = decide (Lib.compareBytes y x ≤ 0) from rfl)
          have HLE2 := Lib.hid (show 0 < Lib.compareBytes y x → leB x y = true from fun h => by simp only [leB, decide_eq_true_eq]; rw [cmpB_anti y x]; unfold cmpB; omega)
          generalize Lib.compareBytes y x = r at *
          have j1 : decide (0 < (m : Int)) = true := by simp; omega
          have j5 : ((m : Int) - 1).toNat = m - 1 := by omega
          have j6 : IntKind.i64.wrap ((m : Int) - 1) = (m : Int) - 1 := IntWalk.i64_in _ (by omega)
          by_cases hr : 0 < r
          · have j7 : decide (0 < r) = true := by simpa using hr
            go_wp2_with fail
            refine wp_region_over (by kernel_rfl) (by kernel_rfl) ?_
            repeat (go_big_quiet_step ((go_at_call 58; exact Calls.over_of (RC.out _))))
            refine wpQuiet_nil ?_
            rintro _ ⟨x0, rfl⟩
            have HBQ := Lib.hid (HB2.out.trans ((ov_below wr x0).mono HB2.out.size))
            have HRQ := Lib.hid (rowI_st _ _ _ _ _ HRA.out (ov_below wr x0))
            have z1 := rowI_fitsZ (k := m) (by rw [HLA.out]; omega) HRQ.out
            have f3 := fits_ov wr x0 _ _ e3
            have f4 := (agg_ov wr x0 _ _ e3).trans e4
            have HPUT := Lib.hid (rowI_put (x := y) (k := m) H32A.out hy (by rw [HLA.out]; omega) HRQ.out)
            clear e1 e2 e3 e4 z0
            generalize ov wr x0 = wq at *
            go_wp2
            go_roundg (m - 1)
            case measure => have := HGM.out; omega
            case rel => exact ⟨m - 1, A.set m y, rfl, congrArg (Value.int .i64) (by omega), by omega, by unfold rowI; rw [List.length_set, HLA.out]; have := HPUT.out.1; unfold rowI at this; rwa [List.length_set, HLA.out] at this, by rw [List.length_set, HLA.out], by
                have h1 := congrArg (List.take (m - 1)) HTK.out
                rw [List.take_take, List.take_take, Nat.min_eq_left (by omega)] at h1
                rw [List.take_set_of_le (by omega), h1], by
                rw [show m - 1 + 1 = m by omega, List.drop_set, if_neg (by omega), Nat.sub_self]
                have h1 : A.drop m = A.getD m [] :: A.drop (m + 1) := by
                  rw [List.drop_eq_getElem_cons (by rw [HLA.out]; omega), List.getD_eq_getElem?_getD, List.getElem?_eq_getElem (by rw [HLA.out]; omega)]; rfl
                have h2 : O.drop (m - 1) = O.getD (m - 1) [] :: O.drop m := by
                  rw [List.drop_eq_getElem_cons (by rw [HOK.out]; omega), List.getD_eq_getElem?_getD, List.getElem?_eq_getElem (by rw [HOK.out]; omega)]; simp only [Option.getD_some]; rw [show m - 1 + 1 = m by omega]
                rw [h1, h2, List.set_cons_zero, HDR.out, HYE.out], fun j hj1 hj2 => by
                by_cases hj : j = m - 1
                · rw [hj, ← HYE.out]; exact HLE2.out hr
                · exact HGT.out j (by omega) hj2, fun z hz => by rcases List.mem_or_eq_of_mem_set hz with h | h; exact H32A.out z h; rw [h]; exact hy, HBQ.out.trans HPUT.out.2⟩
          · have j7 : decide (0 < r) = false := by simpa using hr
            have LOW := Lib.hid (show m = 0 ∨ leB (O.getD (m - 1) []) x = true from .inr (by rw [← HYE.out, HLE.out]; simp; omega))
            go_wp2_with fail
            refine wp_region_over (by kernel_rfl) (by kernel_rfl) ?_
            repeat (go_big_quiet_step ((go_at_call 58; exact Calls.over_of (RC.out _))))
            refine wpQuiet_nil ?_
            rintro _ ⟨x0, rfl⟩
            have HBQ := Lib.hid (HB2.out.trans ((ov_below wr x0).mono HB2.out.size))
            have HRQ := Lib.hid (rowI_st _ _ _ _ _ HRA.out (ov_below wr x0))
            have z1 := rowI_fitsZ (k := m) (by rw [HLA.out]; omega) HRQ.out
            have f1 := fits_ov wr x0 _ _ e1
            have f2 := (agg_ov wr x0 _ _ e1).trans e2
            have HFIN := Lib.hid (rowI_put (x := x) (k := m) H32A.out hx (by rw [HLA.out]; omega) HRQ.out)
            clear e1 e2 z0 e3 e4 j1 j5 j6 j7
            generalize ov wr x0 = wq at *
            go_wp2
            go_roundg (xs.length - k - 1)
            case measure => have := HG.out; omega
            case rel => exact ⟨k + 1, A.set m x, by omega, by go_num, by unfold rowI; rw [List.length_set, HLA.out]; have := HFIN.out.1; unfold rowI at this; rwa [List.length_set, HLA.out] at this, by rw [HSET.out, HT.out]; exact (ins_perm O x m).trans (HP.out.append_right _), by rw [HSET.out]; exact ins_sorted (by rw [HOK.out]; exact hmk) HS.out LOW.out HGT.out, HBQ.out.trans HFIN.out.2⟩
    · have HKE := Lib.hid (show k = xs.length by have := HG.out; omega)
      go_wp2
      go_ret
      have hOe : O = msort xs := sort_unique (by have := HP.out; rwa [HKE.out, List.take_length] at this) HS.out
      exact ⟨_, rfl, by rw [← hOe]; exact HR.out, HB.out⟩

end Go.Proofs.Ytmmmimkikakalaa

namespace Go.Proofs.Ytmmmimkikakalaa
open Go.RowKit
set_option linter.unusedVariables false

set_option maxHeartbeats 2000000 in
set_option maxRecDepth 100000 in
theorem rset_any (a : Option Addr) (cap : Nat) (xs : List (List UInt8)) (w : World) (hm : xs.length ≤ 1000000) (hin : IdsIn w a xs) :
    Calls Try.prog 39 #[.slice a xs.length cap] w fun e w' => ∃ v, e = .returned v ∧ rowI w.heap.size (setL xs) v w' ∧ Below w.heap.size w w' := by
  have HIN := Lib.hid hin
  have HM := Lib.hid hm
  clear hin hm
  go_enter Try.func39, Try.ntmps39
  go_wp2_with fail
  go_loopg [3, 4] xs.length (fun g vo i wr => ∃ (k : Nat) (O : List (List UInt8)), g + k = xs.length ∧ i = .int .i64 k ∧ rowI w.heap.size O vo wr ∧ O.length ≤ k ∧ (∀ z ∈ O, z.length = 32) ∧ (O.Nodup ∧ ∀ z, z ∈ O ↔ z ∈ xs.take k) ∧ Below w.heap.size w wr)
  case atStart => exact ⟨0, [], by omega, rfl, ⟨by simp [idsC], .inl ⟨rfl, rfl⟩⟩, by simp, by simp, ⟨List.nodup_nil, by simp⟩, Below.refl _ _⟩
  case round =>
    obtain ⟨k, O, hg, rfl, hrow, hle, h32, hinv, hb⟩ := hrel
    have HG := Lib.hid hg
    have HR := Lib.hid hrow
    have HLE := Lib.hid hle
    have H32 := Lib.hid h32
    have HI := Lib.hid hinv
    have HB := Lib.hid hb
    clear hg hrow hle h32 hinv hb
    by_cases hk : k < xs.length
    · rcases HIN.out.2 with h | ⟨b, off, rfl, hc⟩
      · subst h; simp at hk
      obtain ⟨e1, e2⟩ := IdAt.below (hc k hk) HB.out
      clear hc
      have hx := HIN.out.1 _ (getD_mem hk)
      have HT := Lib.hid (take_snoc [] xs k hk)
      generalize xs.getD k [] = x at *
      have HCL := Lib.hid (show O.length ≤ 1000000 by have := HLE.out; have := HM.out; omega)
      have i1 : (k : Int) < xs.length := by omega
      have hk6 : k < 1000000 := by have := HM.out; omega
      obtain ⟨a2, c2, rfl, p1, p2, p3, p4⟩ := SlI_row H32.out HR.out
      have P3 := Lib.hid p3
      unfold maxLen at p2
      clear p3 p4
      go_wp2_with fail
      refine (in_any a2 c2 O x _ HCL.out P3.out hx).mono ?_
      rintro e w1 ⟨rfl, hb1⟩
      obtain ⟨x0, rfl⟩ := ov_of hb1
      clear hb1
      have HBQ := Lib.hid (HB.out.trans ((ov_below wr x0).mono HB.out.size))
      have HRQ := Lib.hid (rowI_st _ _ _ _ _ HR.out (ov_below wr x0))
      have f1 := fits_ov wr x0 _ _ e1
      have f2 := (agg_ov wr x0 _ _ e1).trans e2
      clear e1 e2
      generalize ov wr x0 = wq at *
      by_cases ht : x ∈ O
      · have HTE := Lib.hid ht
        rw [show decide (x ∈ O) = true from by simpa using ht]
        clear ht
        go_wp2
        go_roundg (gk - 1)
        case measure => have := HG.out; omega
        case rel => exact ⟨k + 1, O, by have := HG.out; omega, by go_num, HRQ.out, by have := HLE.out; omega, H32.out, ⟨HI.out.1, fun z => by rw [HT.out, List.mem_append, HI.out.2, List.mem_singleton]; exact ⟨.inl, fun h => h.elim id fun h => by subst h; exact (HI.out.2 z).1 HTE.out⟩⟩, HBQ.out⟩
      · have HTE := Lib.hid ht
        rw [show decide (x ∈ O) = false from by simpa using ht]
        clear ht
        obtain ⟨O1, hO1⟩ : ∃ O1, O1 = O ++ [x] := ⟨_, rfl⟩
        have HO1 := Lib.hid hO1
        have HC := Lib.hid (show (O : List (List UInt8)).length + [x].length ≤ 4000000 by have := HCL.out; simp only [List.length_cons, List.length_nil]; omega)
        have hbn := (Below.refl wq.heap.size wq).alloc (Nat.le_refl _) (.cells (idB x) 24)
        have HNEW := Lib.hid (one_new (w := wq) hx)
        have HRN := Lib.hid (rowI_st _ _ _ _ _ HRQ.out hbn)
        have HBN := Lib.hid (HBQ.out.trans (hbn.mono HBQ.out.size))
        clear hbn hO1
        go_wp2_with (at_builtin; refine wpList_append_to rfl _ _ rfl w.heap.size _ O [x] O1 HO1.out rfl HRN.out _ 1 rfl HNEW.out (fun e => by cases e) HC.out HBN.out.size ?_)
        rintro v1 w1 ho1 hb1
        have HR1 := Lib.hid (show rowI w.heap.size O1 v1 w1 from ho1)
        have HB1 := Lib.hid (HBN.out.trans hb1)
        clear ho1 hb1
        go_wp2
        go_roundg (gk - 1)
        case measure => have := HG.out; omega
        case rel => exact ⟨k + 1, O1, by have := HG.out; omega, by go_num, HR1.out, by rw [HO1.out]; have := HLE.out; simp only [List.length_append, List.length_cons, List.length_nil]; omega, (fun z hz => by rw [HO1.out] at hz; rcases List.mem_append.1 hz with h | h; exact H32.out z h; rw [List.mem_singleton.1 h]; exact hx), ⟨by rw [HO1.out]; exact List.nodup_append.2 ⟨HI.out.1, by simp, fun u hu v hv e => by rw [List.mem_singleton.1 hv] at e; subst e; exact HTE.out hu⟩, fun z => by rw [HO1.out, HT.out, List.mem_append, List.mem_append, HI.out.2]⟩, HB1.out⟩
    · have HKE := Lib.hid (show k = xs.length by have := HG.out; omega)
      obtain ⟨a2, c2, rfl, p1, p2, p3, p4⟩ := SlI_row H32.out HR.out
      have P3 := Lib.hid p3
      have HCL := Lib.hid (show O.length ≤ 1000000 by have := HLE.out; have := HM.out; have := HKE.out; omega)
      clear p2 p3 p4
      go_wp2_with fail
      refine (rsort_any a2 c2 O _ HCL.out P3.out).mono ?_
      rintro e w1 ⟨v1, rfl, ho1, hb1⟩
      have HR1 := Lib.hid ho1
      have HB1 := Lib.hid hb1
      clear ho1 hb1
      have hO : msort O = setL xs := by rw [msort_nodup HI.out.1]; exact setL_congr (fun z => by rw [HI.out.2, HKE.out, List.take_length])
      go_wp2
      go_ret
      exact ⟨v1, rfl, by rw [← hO]; exact ownsRow_base HR1.out HB.out.size, HB.out.trans (HB1.out.mono HB.out.size)⟩

set_option maxHeartbeats 2000000 in
set_option maxRecDepth 100000 in
theorem rboth_any (a a' : Option Addr) (cap cap' : Nat) (xs ys : List (List UInt8)) (w : World) (hm : xs.length ≤ 1000000) (hm' : ys.length ≤ 1000000) (hin : IdsIn w a xs) (hin' : IdsIn w a' ys) :
    Calls Try.prog 38 #[.slice a xs.length cap, .slice a' ys.length cap'] w fun e w' => ∃ v, e = .returned v ∧ rowI w.heap.size (setL (xs.filter fun z => decide (z ∈ ys))) v w' ∧ Below w.heap.size w w' := by
  have HIN := Lib.hid hin
  have HM := Lib.hid hm
  have HIN' := Lib.hid hin'
  have HM' := Lib.hid hm'
  clear hin hm hin' hm'
  go_enter Try.func38, Try.ntmps38
  go_wp2_with fail
  go_loopg [5, 6] xs.length (fun g vo i wr => ∃ (k : Nat) (O : List (List UInt8)), g + k = xs.length ∧ i = .int .i64 k ∧ rowI w.heap.size O vo wr ∧ O.length ≤ k ∧ (∀ z ∈ O, z.length = 32) ∧ (O = (xs.take k).filter fun z => decide (z ∈ ys)) ∧ Below w.heap.size w wr)
  case atStart => exact ⟨0, [], by omega, rfl, ⟨by simp [idsC], .inl ⟨rfl, rfl⟩⟩, by simp, by simp, by simp, Below.refl _ _⟩
  case round =>
    obtain ⟨k, O, hg, rfl, hrow, hle, h32, hinv, hb⟩ := hrel
    have HG := Lib.hid hg
    have HR := Lib.hid hrow
    have HLE := Lib.hid hle
    have H32 := Lib.hid h32
    have HI := Lib.hid hinv
    have HB := Lib.hid hb
    clear hg hrow hle h32 hinv hb
    by_cases hk : k < xs.length
    · rcases HIN.out.2 with h | ⟨b, off, rfl, hc⟩
      · subst h; simp at hk
      obtain ⟨e1, e2⟩ := IdAt.below (hc k hk) HB.out
      clear hc
      have hx := HIN.out.1 _ (getD_mem hk)
      have HT := Lib.hid (take_snoc [] xs k hk)
      generalize xs.getD k [] = x at *
      have HCL := Lib.hid (show O.length ≤ 1000000 by have := HLE.out; have := HM.out; omega)
      have i1 : (k : Int) < xs.length := by omega
      have hk6 : k < 1000000 := by have := HM.out; omega
      obtain ⟨a2, c2, rfl, p1, p2, p3, p4⟩ := SlI_row H32.out HR.out
      have P3 := Lib.hid p3
      unfold maxLen at p2
      clear p3 p4
      go_wp2_with fail
      refine (in_any a' cap' ys x _ HM'.out (HIN'.out.below HB.out) hx).mono ?_
      rintro e w1 ⟨rfl, hb1⟩
      obtain ⟨x0, rfl⟩ := ov_of hb1
      clear hb1
      have HBQ := Lib.hid (HB.out.trans ((ov_below wr x0).mono HB.out.size))
      have HRQ := Lib.hid (rowI_st _ _ _ _ _ HR.out (ov_below wr x0))
      have f1 := fits_ov wr x0 _ _ e1
      have f2 := (agg_ov wr x0 _ _ e1).trans e2
      clear e1 e2
      generalize ov wr x0 = wq at *
      by_cases ht : x ∈ ys
      · have HTE := Lib.hid ht
        rw [show decide (x ∈ ys) = true from by simpa using ht]
        clear ht
        obtain ⟨O1, hO1⟩ : ∃ O1, O1 = O ++ [x] := ⟨_, rfl⟩
        have HO1 := Lib.hid hO1
        have HC := Lib.hid (show (O : List (List UInt8)).length + [x].length ≤ 4000000 by have := HCL.out; simp only [List.length_cons, List.length_nil]; omega)
        have hbn := (Below.refl wq.heap.size wq).alloc (Nat.le_refl _) (.cells (idB x) 24)
        have HNEW := Lib.hid (one_new (w := wq) hx)
        have HRN := Lib.hid (rowI_st _ _ _ _ _ HRQ.out hbn)
        have HBN := Lib.hid (HBQ.out.trans (hbn.mono HBQ.out.size))
        clear hbn hO1
        go_wp2_with (at_builtin; refine wpList_append_to rfl _ _ rfl w.heap.size _ O [x] O1 HO1.out rfl HRN.out _ 1 rfl HNEW.out (fun e => by cases e) HC.out HBN.out.size ?_)
        rintro v1 w1 ho1 hb1
        have HR1 := Lib.hid (show rowI w.heap.size O1 v1 w1 from ho1)
        have HB1 := Lib.hid (HBN.out.trans hb1)
        clear ho1 hb1
        go_wp2
        go_roundg (gk - 1)
        case measure => have := HG.out; omega
        case rel => exact ⟨k + 1, O1, by have := HG.out; omega, by go_num, HR1.out, by rw [HO1.out]; have := HLE.out; simp only [List.length_append, List.length_cons, List.length_nil]; omega, (fun z hz => by rw [HO1.out] at hz; rcases List.mem_append.1 hz with h | h; exact H32.out z h; rw [List.mem_singleton.1 h]; exact hx), by rw [HO1.out, HT.out, List.filter_append, ← HI.out]; simp [HTE.out], HB1.out⟩
      · have HTE := Lib.hid ht
        rw [show decide (x ∈ ys) = false from by simpa using ht]
        clear ht
        go_wp2
        go_roundg (gk - 1)
        case measure => have := HG.out; omega
        case rel => exact ⟨k + 1, O, by have := HG.out; omega, by go_num, HRQ.out, by have := HLE.out; omega, H32.out, by rw [HT.out, List.filter_append, ← HI.out]; simp [HTE.out], HBQ.out⟩
    · have HKE := Lib.hid (show k = xs.length by have := HG.out; omega)
      obtain ⟨a2, c2, rfl, p1, p2, p3, p4⟩ := SlI_row H32.out HR.out
      have P3 := Lib.hid p3
      have HCL := Lib.hid (show O.length ≤ 1000000 by have := HLE.out; have := HM.out; have := HKE.out; omega)
      clear p2 p3 p4
      go_wp2_with fail
      refine (rset_any a2 c2 O _ HCL.out P3.out).mono ?_
      rintro e w1 ⟨v1, rfl, ho1, hb1⟩
      have HR1 := Lib.hid ho1
      have HB1 := Lib.hid hb1
      clear ho1 hb1
      have hO : O = xs.filter (fun z => decide (z ∈ ys)) := by have := HI.out; rwa [HKE.out, List.take_length] at this
      go_wp2
      go_ret
      exact ⟨v1, rfl, by rw [← hO]; exact ownsRow_base HR1.out HB.out.size, HB.out.trans (HB1.out.mono HB.out.size)⟩

end Go.Proofs.Ytmmmimkikakalaa
