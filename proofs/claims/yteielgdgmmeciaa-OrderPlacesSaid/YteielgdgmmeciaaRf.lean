/- The reference's Set, Union, Minus, Both. -/
import Derived.Test.YteielgdgmmeciaaRe
namespace Go.Proofs.Yteielgdgmmeciaa
open Go.RowKit
set_option linter.unusedVariables false

set_option maxHeartbeats 2000000 in
set_option maxRecDepth 100000 in
theorem rset_any (a : Option Addr) (cap : Nat) (xs : List (List UInt8)) (w : World) (hm : xs.length ≤ 1000000) (hin : IdsIn w a xs) :
    Calls Try.prog 21 #[.slice a xs.length cap] w fun e w' => ∃ v, e = .returned v ∧ rowI w.heap.size (setL xs) v w' ∧ Below w.heap.size w w' := by
  have HIN := Lib.hid hin
  have HM := Lib.hid hm
  clear hin hm
  go_enter Try.func21, Try.ntmps21
  go_wp2_with fail
  go_loopg [3, 4] xs.length (fun g vo i wr => ∃ (k : Nat) (O : List (List UInt8)), g + k = xs.length ∧ i = .int .i64 k ∧ rowI w.heap.size O vo wr ∧ O.length ≤ k ∧ (∀ z ∈ O, z.length = 32) ∧ (O.Nodup ∧ ∀ z, z ∈ O ↔ z ∈ xs.take k) ∧ Below w.heap.size w wr)
  case atStart => exact ⟨0, [], by omega, rfl, ⟨by simp [idsC], .inl ⟨rfl, rfl⟩⟩, by simp, by simp, ⟨List.nodup_nil, by simp⟩, Below.refl _ _⟩
  case round =>
    obtain ⟨k, O, hg, rfl, hrow, hle, h32, hinv, hb⟩ := hrel
    have HG := Lib.hid hg
    have HR := Lib.hid hrow
    have HLE := Lib.hid hle
    have H32 := Lib.hid h32
    have HI := Lib.hid hinv
    have HB := Lib.hid hb
    clear hg hrow hle h32 hinv hb
    by_cases hk : k < xs.length
    · rcases HIN.out.2 with h | ⟨b, off, rfl, hc⟩
      · subst h; simp at hk
      obtain ⟨e1, e2⟩ := IdAt.below (hc k hk) HB.out
      clear hc
      have hx := HIN.out.1 _ (getD_mem hk)
      have HT := Lib.hid (take_snoc [] xs k hk)
      generalize xs.getD k [] = x at *
      have HCL := Lib.hid (show O.length ≤ 1000000 by have := HLE.out; have := HM.out; omega)
      have i1 : (k : Int) < xs.length := by omega
      have hk6 : k < 1000000 := by have := HM.out; omega
      obtain ⟨a2, c2, rfl, p1, p2, p3, p4⟩ := SlI_row H32.out HR.out
      have P3 := Lib.hid p3
      unfold maxLen at p2
      clear p3 p4
      go_wp2_with fail
      refine (in_any a2 c2 O x _ HCL.out P3.out hx).mono ?_
      rintro e w1 ⟨rfl, hb1⟩
      obtain ⟨x0, rfl⟩ := ov_of hb1
      clear hb1
      have HBQ := Lib.hid (HB.out.trans ((ov_below wr x0).mono HB.out.size))
      have HRQ := Lib.hid (rowI_st _ _ _ _ _ HR.out (ov_below wr x0))
      have f1 := fits_ov wr x0 _ _ e1
      have f2 := (agg_ov wr x0 _ _ e1).trans e2
      clear e1 e2
      generalize ov wr x0 = wq at *
      by_cases ht : x ∈ O
      · have HTE := Lib.hid ht
        rw [show decide (x ∈ O) = true from by simpa using ht]
        clear ht
        go_wp2
        go_roundg (gk - 1)
        case measure => have := HG.out; omega
        case rel => exact ⟨k + 1, O, by have := HG.out; omega, by go_num, HRQ.out, by have := HLE.out; omega, H32.out, ⟨HI.out.1, fun z => by rw [HT.out, List.mem_append, HI.out.2, List.mem_singleton]; exact ⟨.inl, fun h => h.elim id fun h => by subst h; exact (HI.out.2 z).1 HTE.out⟩⟩, HBQ.out⟩
      · have HTE := Lib.hid ht
        rw [show decide (x ∈ O) = false from by simpa using ht]
        clear ht
        obtain ⟨O1, hO1⟩ : ∃ O1, O1 = O ++ [x] := ⟨_, rfl⟩
        have HO1 := Lib.hid hO1
        have HC := Lib.hid (show (O : List (List UInt8)).length + [x].length ≤ 4000000 by have := HCL.out; simp only [List.length_cons, List.length_nil]; omega)
        have hbn := (Below.refl wq.heap.size wq).alloc (Nat.le_refl _) (.cells (idB x) 23)
        have HNEW := Lib.hid (one_new (w := wq) hx)
        have HRN := Lib.hid (rowI_st _ _ _ _ _ HRQ.out hbn)
        have HBN := Lib.hid (HBQ.out.trans (hbn.mono HBQ.out.size))
        clear hbn hO1
        go_wp2_with (at_builtin; refine wpList_append_to rfl _ _ rfl w.heap.size _ O [x] O1 HO1.out rfl HRN.out _ 1 rfl HNEW.out (fun e => by cases e) HC.out HBN.out.size ?_)
        rintro v1 w1 ho1 hb1
        have HR1 := Lib.hid (show rowI w.heap.size O1 v1 w1 from ho1)
        have HB1 := Lib.hid (HBN.out.trans hb1)
        clear ho1 hb1
        go_wp2
        go_roundg (gk - 1)
        case measure => have := HG.out; omega
        case rel => exact ⟨k + 1, O1, by have := HG.out; omega, by go_num, HR1.out, by rw [HO1.out]; have := HLE.out; simp only [List.length_append, List.length_cons, List.length_nil]; omega, (fun z hz => by rw [HO1.out] at hz; rcases List.mem_append.1 hz with h | h; exact H32.out z h; rw [List.mem_singleton.1 h]; exact hx), ⟨by rw [HO1.out]; exact List.nodup_append.2 ⟨HI.out.1, by simp, fun u hu v hv e => by rw [List.mem_singleton.1 hv] at e; subst e; exact HTE.out hu⟩, fun z => by rw [HO1.out, HT.out, List.mem_append, List.mem_append, HI.out.2]⟩, HB1.out⟩
    · have HKE := Lib.hid (show k = xs.length by have := HG.out; omega)
      obtain ⟨a2, c2, rfl, p1, p2, p3, p4⟩ := SlI_row H32.out HR.out
      have P3 := Lib.hid p3
      have HCL := Lib.hid (show O.length ≤ 1000000 by have := HLE.out; have := HM.out; have := HKE.out; omega)
      clear p2 p3 p4
      go_wp2_with fail
      refine (rsort_any a2 c2 O _ HCL.out P3.out).mono ?_
      rintro e w1 ⟨v1, rfl, ho1, hb1⟩
      have HR1 := Lib.hid ho1
      have HB1 := Lib.hid hb1
      clear ho1 hb1
      have hO : msort O = setL xs := by rw [msort_nodup HI.out.1]; exact setL_congr (fun z => by rw [HI.out.2, HKE.out, List.take_length])
      go_wp2
      go_ret
      exact ⟨v1, rfl, by rw [← hO]; exact ownsRow_base HR1.out HB.out.size, HB.out.trans (HB1.out.mono HB.out.size)⟩

set_option maxHeartbeats 2000000 in
set_option maxRecDepth 100000 in
theorem rminus_any (a a' : Option Addr) (cap cap' : Nat) (xs ys : List (List UInt8)) (w : World) (hm : xs.length ≤ 1000000) (hm' : ys.length ≤ 1000000) (hin : IdsIn w a xs) (hin' : IdsIn w a' ys) :
    Calls Try.prog 33 #[.slice a xs.length cap, .slice a' ys.length cap'] w fun e w' => ∃ v, e = .returned v ∧ rowI w.heap.size (setL (xs.filter fun z => !decide (z ∈ ys))) v w' ∧ Below w.heap.size w w' := by
  have HIN := Lib.hid hin
  have HM := Lib.hid hm
  have HIN' := Lib.hid hin'
  have HM' := Lib.hid hm'
  clear hin hm hin' hm'
  go_enter Try.func33, Try.ntmps33
  go_wp2_with fail
  go_loopg [5, 6] xs.length (fun g vo i wr => ∃ (k : Nat) (O : List (List UInt8)), g + k = xs.length ∧ i = .int .i64 k ∧ rowI w.heap.size O vo wr ∧ O.length ≤ k ∧ (∀ z ∈ O, z.length = 32) ∧ (O = (xs.take k).filter fun z => !decide (z ∈ ys)) ∧ Below w.heap.size w wr)
  case atStart => exact ⟨0, [], by omega, rfl, ⟨by simp [idsC], .inl ⟨rfl, rfl⟩⟩, by simp, by simp, by simp, Below.refl _ _⟩
  case round =>
    obtain ⟨k, O, hg, rfl, hrow, hle, h32, hinv, hb⟩ := hrel
    have HG := Lib.hid hg
    have HR := Lib.hid hrow
    have HLE := Lib.hid hle
    have H32 := Lib.hid h32
    have HI := Lib.hid hinv
    have HB := Lib.hid hb
    clear hg hrow hle h32 hinv hb
    by_cases hk : k < xs.length
    · rcases HIN.out.2 with h | ⟨b, off, rfl, hc⟩
      · subst h; simp at hk
      obtain ⟨e1, e2⟩ := IdAt.below (hc k hk) HB.out
      clear hc
      have hx := HIN.out.1 _ (getD_mem hk)
      have HT := Lib.hid (take_snoc [] xs k hk)
      generalize xs.getD k [] = x at *
      have HCL := Lib.hid (show O.length ≤ 1000000 by have := HLE.out; have := HM.out; omega)
      have i1 : (k : Int) < xs.length := by omega
      have hk6 : k < 1000000 := by have := HM.out; omega
      obtain ⟨a2, c2, rfl, p1, p2, p3, p4⟩ := SlI_row H32.out HR.out
      have P3 := Lib.hid p3
      unfold maxLen at p2
      clear p3 p4
      go_wp2_with fail
      refine (in_any a' cap' ys x _ HM'.out (HIN'.out.below HB.out) hx).mono ?_
      rintro e w1 ⟨rfl, hb1⟩
      obtain ⟨x0, rfl⟩ := ov_of hb1
      clear hb1
      have HBQ := Lib.hid (HB.out.trans ((ov_below wr x0).mono HB.out.size))
      have HRQ := Lib.hid (rowI_st _ _ _ _ _ HR.out (ov_below wr x0))
      have f1 := fits_ov wr x0 _ _ e1
      have f2 := (agg_ov wr x0 _ _ e1).trans e2
      clear e1 e2
      generalize ov wr x0 = wq at *
      by_cases ht : x ∈ ys
      · have HTE := Lib.hid ht
        rw [show decide (x ∈ ys) = true from by simpa using ht]
        clear ht
        go_wp2
        go_roundg (gk - 1)
        case measure => have := HG.out; omega
        case rel => exact ⟨k + 1, O, by have := HG.out; omega, by go_num, HRQ.out, by have := HLE.out; omega, H32.out, by rw [HT.out, List.filter_append, ← HI.out]; simp [HTE.out], HBQ.out⟩
      · have HTE := Lib.hid ht
        rw [show decide (x ∈ ys) = false from by simpa using ht]
        clear ht
        obtain ⟨O1, hO1⟩ : ∃ O1, O1 = O ++ [x] := ⟨_, rfl⟩
        have HO1 := Lib.hid hO1
        have HC := Lib.hid (show (O : List (List UInt8)).length + [x].length ≤ 4000000 by have := HCL.out; simp only [List.length_cons, List.length_nil]; omega)
        have hbn := (Below.refl wq.heap.size wq).alloc (Nat.le_refl _) (.cells (idB x) 23)
        have HNEW := Lib.hid (one_new (w := wq) hx)
        have HRN := Lib.hid (rowI_st _ _ _ _ _ HRQ.out hbn)
        have HBN := Lib.hid (HBQ.out.trans (hbn.mono HBQ.out.size))
        clear hbn hO1
        go_wp2_with (at_builtin; refine wpList_append_to rfl _ _ rfl w.heap.size _ O [x] O1 HO1.out rfl HRN.out _ 1 rfl HNEW.out (fun e => by cases e) HC.out HBN.out.size ?_)
        rintro v1 w1 ho1 hb1
        have HR1 := Lib.hid (show rowI w.heap.size O1 v1 w1 from ho1)
        have HB1 := Lib.hid (HBN.out.trans hb1)
        clear ho1 hb1
        go_wp2
        go_roundg (gk - 1)
        case measure => have := HG.out; omega
        case rel => exact ⟨k + 1, O1, by have := HG.out; omega, by go_num, HR1.out, by rw [HO1.out]; have := HLE.out; simp only [List.length_append, List.length_cons, List.length_nil]; omega, (fun z hz => by rw [HO1.out] at hz; rcases List.mem_append.1 hz with h | h; exact H32.out z h; rw [List.mem_singleton.1 h]; exact hx), by rw [HO1.out, HT.out, List.filter_append, ← HI.out]; simp [HTE.out], HB1.out⟩
    · have HKE := Lib.hid (show k = xs.length by have := HG.out; omega)
      obtain ⟨a2, c2, rfl, p1, p2, p3, p4⟩ := SlI_row H32.out HR.out
      have P3 := Lib.hid p3
      have HCL := Lib.hid (show O.length ≤ 1000000 by have := HLE.out; have := HM.out; have := HKE.out; omega)
      clear p2 p3 p4
      go_wp2_with fail
      refine (rset_any a2 c2 O _ HCL.out P3.out).mono ?_
      rintro e w1 ⟨v1, rfl, ho1, hb1⟩
      have HR1 := Lib.hid ho1
      have HB1 := Lib.hid hb1
      clear ho1 hb1
      have hO : O = xs.filter (fun z => !decide (z ∈ ys)) := by have := HI.out; rwa [HKE.out, List.take_length] at this
      go_wp2
      go_ret
      exact ⟨v1, rfl, by rw [← hO]; exact ownsRow_base HR1.out HB.out.size, HB.out.trans (HB1.out.mono HB.out.size)⟩

set_option maxHeartbeats 2000000 in
set_option maxRecDepth 100000 in
theorem rboth_any (a a' : Option Addr) (cap cap' : Nat) (xs ys : List (List UInt8)) (w : World) (hm : xs.length ≤ 1000000) (hm' : ys.length ≤ 1000000) (hin : IdsIn w a xs) (hin' : IdsIn w a' ys) :
    Calls Try.prog 35 #[.slice a xs.length cap, .slice a' ys.length cap'] w fun e w' => ∃ v, e = .returned v ∧ rowI w.heap.size (setL (xs.filter fun z => decide (z ∈ ys))) v w' ∧ Below w.heap.size w w' := by
  have HIN := Lib.hid hin
  have HM := Lib.hid hm
  have HIN' := Lib.hid hin'
  have HM' := Lib.hid hm'
  clear hin hm hin' hm'
  go_enter Try.func35, Try.ntmps35
  go_wp2_with fail
  go_loopg [5, 6] xs.length (fun g vo i wr => ∃ (k : Nat) (O : List (List UInt8)), g + k = xs.length ∧ i = .int .i64 k ∧ rowI w.heap.size O vo wr ∧ O.length ≤ k ∧ (∀ z ∈ O, z.length = 32) ∧ (O = (xs.take k).filter fun z => decide (z ∈ ys)) ∧ Below w.heap.size w wr)
  case atStart => exact ⟨0, [], by omega, rfl, ⟨by simp [idsC], .inl ⟨rfl, rfl⟩⟩, by simp, by simp, by simp, Below.refl _ _⟩
  case round =>
    obtain ⟨k, O, hg, rfl, hrow, hle, h32, hinv, hb⟩ := hrel
    have HG := Lib.hid hg
    have HR := Lib.hid hrow
    have HLE := Lib.hid hle
    have H32 := Lib.hid h32
    have HI := Lib.hid hinv
    have HB := Lib.hid hb
    clear hg hrow hle h32 hinv hb
    by_cases hk : k < xs.length
    · rcases HIN.out.2 with h | ⟨b, off, rfl, hc⟩
      · subst h; simp at hk
      obtain ⟨e1, e2⟩ := IdAt.below (hc k hk) HB.out
      clear hc
      have hx := HIN.out.1 _ (getD_mem hk)
      have HT := Lib.hid (take_snoc [] xs k hk)
      generalize xs.getD k [] = x at *
      have HCL := Lib.hid (show O.length ≤ 1000000 by have := HLE.out; have := HM.out; omega)
      have i1 : (k : Int) < xs.length := by omega
      have hk6 : k < 1000000 := by have := HM.out; omega
      obtain ⟨a2, c2, rfl, p1, p2, p3, p4⟩ := SlI_row H32.out HR.out
      have P3 := Lib.hid p3
      unfold maxLen at p2
      clear p3 p4
      go_wp2_with fail
      refine (in_any a' cap' ys x _ HM'.out (HIN'.out.below HB.out) hx).mono ?_
      rintro e w1 ⟨rfl, hb1⟩
      obtain ⟨x0, rfl⟩ := ov_of hb1
      clear hb1
      have HBQ := Lib.hid (HB.out.trans ((ov_below wr x0).mono HB.out.size))
      have HRQ := Lib.hid (rowI_st _ _ _ _ _ HR.out (ov_below wr x0))
      have f1 := fits_ov wr x0 _ _ e1
      have f2 := (agg_ov wr x0 _ _ e1).trans e2
      clear e1 e2
      generalize ov wr x0 = wq at *
      by_cases ht : x ∈ ys
      · have HTE := Lib.hid ht
        rw [show decide (x ∈ ys) = true from by simpa using ht]
        clear ht
        obtain ⟨O1, hO1⟩ : ∃ O1, O1 = O ++ [x] := ⟨_, rfl⟩
        have HO1 := Lib.hid hO1
        have HC := Lib.hid (show (O : List (List UInt8)).length + [x].length ≤ 4000000 by have := HCL.out; simp only [List.length_cons, List.length_nil]; omega)
        have hbn := (Below.refl wq.heap.size wq).alloc (Nat.le_refl _) (.cells (idB x) 23)
        have HNEW := Lib.hid (one_new (w := wq) hx)
        have HRN := Lib.hid (rowI_st _ _ _ _ _ HRQ.out hbn)
        have HBN := Lib.hid (HBQ.out.trans (hbn.mono HBQ.out.size))
        clear hbn hO1
        go_wp2_with (at_builtin; refine wpList_append_to rfl _ _ rfl w.heap.size _ O [x] O1 HO1.out rfl HRN.out _ 1 rfl HNEW.out (fun e => by cases e) HC.out HBN.out.size ?_)
        rintro v1 w1 ho1 hb1
        have HR1 := Lib.hid (show rowI w.heap.size O1 v1 w1 from ho1)
        have HB1 := Lib.hid (HBN.out.trans hb1)
        clear ho1 hb1
        go_wp2
        go_roundg (gk - 1)
        case measure => have := HG.out; omega
        case rel => exact ⟨k + 1, O1, by have := HG.out; omega, by go_num, HR1.out, by rw [HO1.out]; have := HLE.out; simp only [List.length_append, List.length_cons, List.length_nil]; omega, (fun z hz => by rw [HO1.out] at hz; rcases List.mem_append.1 hz with h | h; exact H32.out z h; rw [List.mem_singleton.1 h]; exact hx), by rw [HO1.out, HT.out, List.filter_append, ← HI.out]; simp [HTE.out], HB1.out⟩
      · have HTE := Lib.hid ht
        rw [show decide (x ∈ ys) = false from by simpa using ht]
        clear ht
        go_wp2
        go_roundg (gk - 1)
        case measure => have := HG.out; omega
        case rel => exact ⟨k + 1, O, by have := HG.out; omega, by go_num, HRQ.out, by have := HLE.out; omega, H32.out, by rw [HT.out, List.filter_append, ← HI.out]; simp [HTE.out], HBQ.out⟩
    · have HKE := Lib.hid (show k = xs.length by have := HG.out; omega)
      obtain ⟨a2, c2, rfl, p1, p2, p3, p4⟩ := SlI_row H32.out HR.out
      have P3 := Lib.hid p3
      have HCL := Lib.hid (show O.length ≤ 1000000 by have := HLE.out; have := HM.out; have := HKE.out; omega)
      clear p2 p3 p4
      go_wp2_with fail
      refine (rset_any a2 c2 O _ HCL.out P3.out).mono ?_
      rintro e w1 ⟨v1, rfl, ho1, hb1⟩
      have HR1 := Lib.hid ho1
      have HB1 := Lib.hid hb1
      clear ho1 hb1
      have hO : O = xs.filter (fun z => decide (z ∈ ys)) := by have := HI.out; rwa [HKE.out, List.take_length] at this
      go_wp2
      go_ret
      exact ⟨v1, rfl, by rw [← hO]; exact ownsRow_base HR1.out HB.out.size, HB.out.trans (HB1.out.mono HB.out.size)⟩

end Go.Proofs.Yteielgdgmmeciaa
