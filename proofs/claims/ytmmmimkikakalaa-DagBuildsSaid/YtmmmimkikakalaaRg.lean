/- Union, pick, Minus, Both of the program; the reference's Union, Find. -/
import Derived.Test.YtmmmimkikakalaaRf
namespace Go.Proofs.Ytmmmimkikakalaa
open Go.RowKit
set_option linter.unusedVariables false

set_option maxHeartbeats 2000000 in
set_option maxRecDepth 100000 in
theorem union_any (a a' : Option Addr) (cap cap' : Nat) (xs ys : List (List UInt8)) (w : World) (hcap : xs.length ≤ cap) (hcm : cap ≤ maxLen) (hm : xs.length ≤ 1000) (hin : IdsIn w a xs) (hn : a = none → xs = [] ∧ cap = 0) (hcap' : ys.length ≤ cap') (hcm' : cap' ≤ maxLen) (hm' : ys.length ≤ 1000) (hin' : IdsIn w a' ys) (hn' : a' = none → ys = [] ∧ cap' = 0) :
    Calls Try.prog 23 #[.slice a xs.length cap, .slice a' ys.length cap'] w fun e w' => ∃ v, e = .returned v ∧ rowI w.heap.size (setL (xs ++ ys)) v w' ∧ Below w.heap.size w w' := by
  have HIN := Lib.hid hin
  have HIN' := Lib.hid hin'
  have HN := Lib.hid hn
  have HN' := Lib.hid hn'
  have H32 := Lib.hid (show ∀ z ∈ xs ++ ys, z.length = 32 from fun z hz => (List.mem_append.1 hz).elim (hin.1 z) (hin'.1 z))
  have HE1 := Lib.hid (show xs = [] ++ xs by simp)
  obtain ⟨zs, hzs⟩ : ∃ zs, zs = xs ++ ys := ⟨_, rfl⟩
  have HCL := Lib.hid (show zs.length ≤ 1000000 by rw [hzs]; simp; omega)
  rw [← hzs] at H32 ⊢
  have HZ := Lib.hid hzs
  have C1 := Lib.hid (show ([] : List (List UInt8)).length + xs.length ≤ 4000000 by simp; omega)
  have C2 := Lib.hid (show xs.length + ys.length ≤ 4000000 by omega)
  have HB0 := Lib.hid (Below.refl w.heap.size w)
  have HR0 := Lib.hid (show rowI w.heap.size [] (.slice none 0 0) w from ⟨by simp [idsC], .inl ⟨rfl, rfl⟩⟩)
  clear hcap hcm hm hin hn hcap' hcm' hm' hin' hn' hzs
  go_enter Try.func23, Try.ntmps23
  go_wp2_with (at_builtin; refine wpList_append_to rfl _ _ rfl w.heap.size _ [] xs xs HE1.out rfl HR0.out a cap rfl (HIN.out.below HB0.out) HN.out C1.out HB0.out.size ?_)
  rintro v1 w1 ho1 hb1
  have HR1 := Lib.hid (show rowI w.heap.size xs v1 w1 from ho1)
  have HB1 := Lib.hid (HB0.out.trans hb1)
  clear ho1 hb1
  go_wp2_with (at_builtin; refine wpList_append_to rfl _ _ rfl w.heap.size v1 xs ys zs HZ.out rfl HR1.out a' cap' rfl (HIN'.out.below HB1.out) HN'.out C2.out HB1.out.size ?_)
  rintro v2 w2 ho2 hb2
  obtain ⟨a3, c3, rfl, q1, q2, q3, q4⟩ := SlI_row H32.out ho2
  have p1 := Lib.hid q1
  have p2 := Lib.hid q2
  have P3 := Lib.hid q3
  have P4 := Lib.hid q4
  have HB2 := Lib.hid (HB1.out.trans hb2)
  clear ho2 hb2 q1 q2 q3 q4
  go_wp2_with fail
  refine (set_any a3 c3 zs _ p1.out p2.out HCL.out P3.out P4.out).mono ?_
  rintro e w3 ⟨v3, rfl, ho3, hb3⟩
  have HR3 := Lib.hid ho3
  have HB3 := Lib.hid hb3
  clear ho3 hb3
  go_wp2
  go_ret
  exact ⟨v3, rfl, ownsRow_base HR3.out HB2.out.size, HB2.out.trans (HB3.out.mono HB2.out.size)⟩

set_option maxHeartbeats 4000000 in
set_option maxRecDepth 100000 in
theorem pick_any (a a' : Option Addr) (cap cap' : Nat) (xs ys : List (List UInt8)) (w : World) (hcap : xs.length ≤ cap) (hcm : cap ≤ maxLen) (hm : xs.length ≤ 1000) (hin : IdsIn w a xs) (hn : a = none → xs = [] ∧ cap = 0) (hcap' : ys.length ≤ cap') (hcm' : cap' ≤ maxLen) (hm' : ys.length ≤ 1000) (hin' : IdsIn w a' ys) (hn' : a' = none → ys = [] ∧ cap' = 0) (q : Bool) :
    Calls Try.prog 51 #[.slice a xs.length cap, .slice a' ys.length cap', .bool q] w fun e w' => ∃ v, e = .returned v ∧ rowI w.heap.size ((setL xs).filter fun z => decide (z ∈ ys) == q) v w' ∧ Below w.heap.size w w' := by
  have H1 := Lib.hid (fun W (hb : Below w.heap.size w W) => set_any a cap xs W hcap hcm (by omega) (hin.below hb) hn)
  have H2 := Lib.hid (set_any a' cap' ys w hcap' hcm' (by omega) hin' hn')
  have L1 := Lib.hid (show (setL xs).length ≤ 1000 by have := setL_length xs; omega)
  have L2 := Lib.hid (show (setL ys).length ≤ 1000 by have := setL_length ys; omega)
  have X32 := Lib.hid (setL_32 hin.1)
  have Y32 := Lib.hid (setL_32 hin'.1)
  clear hcap hcm hm hin hn hcap' hcm' hm' hin' hn'
  go_enter Try.func51, Try.ntmps51
  go_wp2_with fail
  refine H2.out.mono ?_
  rintro e w1 ⟨v1, rfl, ho1, hb1⟩
  have s1 := SlI_row Y32.out ho1
  have HB1 := Lib.hid hb1
  have S1 := Lib.hid s1
  clear ho1 hb1 s1
  go_wp2_with fail
  refine (H1.out _ HB1.out).mono ?_
  rintro e w2 ⟨v2, rfl, ho2, hb2⟩
  have HB2 := Lib.hid (HB1.out.trans (hb2.mono HB1.out.size))
  obtain ⟨a4, c4, rfl, q1, q2, q3, q4⟩ := SlI_row X32.out ho2
  obtain ⟨a5, c5, rfl, r1, r2, r3, r4⟩ := SlI_below S1.out hb2
  have HINX := Lib.hid q3
  have HINY := Lib.hid r3
  have HSY := Lib.hid ((strict_isSet _).2 (setL_strict ys))
  have HMEM := Lib.hid (fun z => setL_mem ys z)
  unfold maxLen at q2 r2
  clear ho2 hb2 S1 q3 r3 q4 r4 H1 H2
  obtain ⟨Xs, hXs⟩ : ∃ Xs, Xs = setL xs := ⟨_, rfl⟩
  obtain ⟨Ys, hYs⟩ : ∃ Ys, Ys = setL ys := ⟨_, rfl⟩
  rw [← hXs] at HINX q1 L1 X32 ⊢
  rw [← hYs] at HINY r1 L2 Y32 HSY HMEM ⊢
  have l1 : Xs.length ≤ 1000 := L1.out
  have l2 : Ys.length ≤ 1000 := L2.out
  have HXS := Lib.hid hXs
  clear hXs hYs
  go_wp2_with fail
  go_loopg [7, 17] Xs.length (fun g vo i wr => ∃ (k : Nat) (O : List (List UInt8)), g + k = Xs.length ∧ i = .int .i64 k ∧ rowI w2.heap.size O vo wr ∧ O.length ≤ k ∧ (∀ z ∈ O, z.length = 32) ∧ O = ((Xs.take k).filter fun z => decide (z ∈ ys) == q) ∧ Below w2.heap.size w2 wr)
  case atStart => exact ⟨0, [], by omega, rfl, ⟨by simp [idsC], .inl ⟨rfl, rfl⟩⟩, by simp, by simp, by simp, Below.refl _ _⟩
  case round =>
    obtain ⟨k, O, hg, rfl, hrow, hle, h32, hinv, hb⟩ := hrel
    have HG := Lib.hid hg
    have HR := Lib.hid hrow
    have HLE := Lib.hid hle
    have H32 := Lib.hid h32
    have HI := Lib.hid hinv
    have HB := Lib.hid hb
    clear hg hrow hle h32 hinv hb
    by_cases hk : k < Xs.length
    · rcases HINX.out.2 with h | ⟨b, off, rfl, hc⟩
      · subst h; simp at hk
      obtain ⟨e1, e2⟩ := IdAt.below (hc k hk) HB.out
      clear hc
      have hx := X32.out _ (getD_mem hk)
      have HT := Lib.hid (take_snoc [] Xs k hk)
      generalize Xs.getD k [] = x at *
      have HCL := Lib.hid (show O.length ≤ 1000000 by have := HLE.out; omega)
      have hk6 : k < 1000000 := by omega
      obtain ⟨a2, c2, rfl, p1, p2, p3, p4⟩ := SlI_row H32.out HR.out
      unfold maxLen at p2
      clear p3 p4
      have e7 := fits_new wr (idB x) 24 32 (by rw [idB_size, hx])
      have e8 := aggAt_new wr (idB x) 24 32 (by rw [idB_size, hx])
      obtain ⟨wz, hwz⟩ : ∃ wz, wz = wr.alloc (.cells (idB x) 24) := ⟨_, rfl⟩
      have hbz := (Below.refl wr.heap.size wr).alloc (Nat.le_refl _) (.cells (idB x) 24)
      go_upto_region 6 with fail
      rw [← hwz] at e7 e8 hbz ⊢
      have HBZ := Lib.hid (HB.out.trans (hbz.mono HB.out.size))
      have HRZ := Lib.hid (rowI_st _ _ _ _ _ HR.out hbz)
      clear hwz hbz e1 e2
      go_wp2_with fail
      refine (place_any a5 c5 Ys x _ (by omega) (HINY.out.below HBZ.out) hx HSY.out).mono ?_
      rintro e w3 ⟨rfl, hb3⟩
      obtain ⟨x0, rfl⟩ := ov_of hb3
      clear hb3
      have HBQ := Lib.hid (HBZ.out.trans ((ov_below wz x0).mono HBZ.out.size))
      have HRQ := Lib.hid (rowI_st _ _ _ _ _ HRZ.out (ov_below wz x0))
      have e1 := fits_ov wz x0 _ _ e7
      have e2 := (agg_ov wz x0 _ _ e7).trans e8
      rw [isAt_mem x HSY.out]
      clear e7 e8
      generalize ov wz x0 = wq at *
      have HDE := Lib.hid (show decide (x ∈ Ys) = decide (x ∈ ys) by simp only [HMEM.out x])
      rw [HDE.out]
      cases ht : (decide (x ∈ ys) == q) with
      | true =>
        have HTE := Lib.hid ht
        obtain ⟨O1, hO1⟩ : ∃ O1, O1 = O ++ [x] := ⟨_, rfl⟩
        have HO1 := Lib.hid hO1
        have HC := Lib.hid (show (O : List (List UInt8)).length + [x].length ≤ 4000000 by have := HCL.out; simp only [List.length_cons, List.length_nil]; omega)
        have hbn := (Below.refl wq.heap.size wq).alloc (Nat.le_refl _) (.cells (idB x) 24)
        have HNEW := Lib.hid (one_new (w := wq) hx)
        have HRN := Lib.hid (rowI_st _ _ _ _ _ HRQ.out hbn)
        have HBN := Lib.hid (HBQ.out.trans (hbn.mono HBQ.out.size))
        clear hbn hO1
        go_wp2_with (at_builtin; refine wpList_append_to rfl _ _ rfl w2.heap.size _ O [x] O1 HO1.out rfl HRN.out _ 1 rfl HNEW.out (fun e => by cases e) HC.out HBN.out.size ?_)
        rintro v1 w1 ho1 hb1
        have HR1 := Lib.hid (show rowI w2.heap.size O1 v1 w1 from ho1)
        have HB1 := Lib.hid (HBN.out.trans hb1)
        clear ho1 hb1
        clear ht e1 e2
        go_wp2
        go_roundg (gk - 1)
        case measure => have := HG.out; omega
        case rel => exact ⟨k + 1, O1, by have := HG.out; omega, by go_num, HR1.out, by rw [HO1.out]; have := HLE.out; simp only [List.length_append, List.length_cons, List.length_nil]; omega, (fun z hz => by rw [HO1.out] at hz; rcases List.mem_append.1 hz with h | h; exact H32.out z h; rw [List.mem_singleton.1 h]; exact hx), by rw [HO1.out, HT.out, List.filter_append, ← HI.out]; congr 1; rw [List.filter_cons_of_pos (p := fun z => decide (z ∈ ys) == q) HTE.out]; rfl, HB1.out⟩
      | false =>
        have HTE := Lib.hid ht
        go_wp2
        go_roundg (gk - 1)
        case measure => have := HG.out; omega
        case rel => exact ⟨k + 1, O, by have := HG.out; omega, by go_num, HRQ.out, by have := HLE.out; omega, H32.out, by rw [HT.out, List.filter_append, ← HI.out, List.filter_cons_of_neg (p := fun z => decide (z ∈ ys) == q) (by rw [HTE.out]; decide)]; simp, HBQ.out⟩
    · have HKE := Lib.hid (show k = Xs.length by have := HG.out; omega)
      go_wp2
      go_ret
      have hO : O = Xs.filter (fun z => decide (z ∈ ys) == q) := by have := HI.out; rwa [HKE.out, List.take_length] at this
      exact ⟨_, rfl, by rw [← HXS.out, ← hO]; exact ownsRow_base HR.out HB2.out.size, HB2.out.trans (HB.out.mono HB2.out.size)⟩

theorem filter_strict {l : List (List UInt8)} (h : Strict l) (p : List UInt8 → Bool) : Strict (l.filter p) := h.sublist List.filter_sublist
theorem pick_false (xs ys : List (List UInt8)) : ((setL xs).filter fun z => decide (z ∈ ys) == false) = setL (xs.filter fun z => !decide (z ∈ ys)) :=
  setL_eq (filter_strict (setL_strict xs) _) (fun x => by simp [List.mem_filter, setL_mem])
theorem pick_true (xs ys : List (List UInt8)) : ((setL xs).filter fun z => decide (z ∈ ys) == true) = setL (xs.filter fun z => decide (z ∈ ys)) :=
  setL_eq (filter_strict (setL_strict xs) _) (fun x => by simp [List.mem_filter, setL_mem])

set_option maxHeartbeats 1000000 in
set_option maxRecDepth 100000 in
theorem minus_any (a a' : Option Addr) (cap cap' : Nat) (xs ys : List (List UInt8)) (w : World) (hcap : xs.length ≤ cap) (hcm : cap ≤ maxLen) (hm : xs.length ≤ 1000) (hin : IdsIn w a xs) (hn : a = none → xs = [] ∧ cap = 0) (hcap' : ys.length ≤ cap') (hcm' : cap' ≤ maxLen) (hm' : ys.length ≤ 1000) (hin' : IdsIn w a' ys) (hn' : a' = none → ys = [] ∧ cap' = 0) :
    Calls Try.prog 36 #[.slice a xs.length cap, .slice a' ys.length cap'] w fun e w' => ∃ v, e = .returned v ∧ rowI w.heap.size (setL (xs.filter fun z => !decide (z ∈ ys))) v w' ∧ Below w.heap.size w w' := by
  have H := Lib.hid (pick_any a a' cap cap' xs ys w hcap hcm hm hin hn hcap' hcm' hm' hin' hn' false)
  rw [pick_false] at H
  clear hcap hcm hm hin hn hcap' hcm' hm' hin' hn'
  go_enter Try.func36, Try.ntmps36
  go_wp2_with fail
  refine H.out.mono ?_
  rintro e w1 ⟨v1, rfl, ho1, hb1⟩
  have HR1 := Lib.hid ho1
  have HB1 := Lib.hid hb1
  clear ho1 hb1
  go_wp2
  go_ret
  exact ⟨v1, rfl, HR1.out, HB1.out⟩

set_option maxHeartbeats 1000000 in
set_option maxRecDepth 100000 in
theorem both_any (a a' : Option Addr) (cap cap' : Nat) (xs ys : List (List UInt8)) (w : World) (hcap : xs.length ≤ cap) (hcm : cap ≤ maxLen) (hm : xs.length ≤ 1000) (hin : IdsIn w a xs) (hn : a = none → xs = [] ∧ cap = 0) (hcap' : ys.length ≤ cap') (hcm' : cap' ≤ maxLen) (hm' : ys.length ≤ 1000) (hin' : IdsIn w a' ys) (hn' : a' = none → ys = [] ∧ cap' = 0) :
    Calls Try.prog 35 #[.slice a xs.length cap, .slice a' ys.length cap'] w fun e w' => ∃ v, e = .returned v ∧ rowI w.heap.size (setL (xs.filter fun z => decide (z ∈ ys))) v w' ∧ Below w.heap.size w w' := by
  have H := Lib.hid (pick_any a a' cap cap' xs ys w hcap hcm hm hin hn hcap' hcm' hm' hin' hn' true)
  rw [pick_true] at H
  clear hcap hcm hm hin hn hcap' hcm' hm' hin' hn'
  go_enter Try.func35, Try.ntmps35
  go_wp2_with fail
  refine H.out.mono ?_
  rintro e w1 ⟨v1, rfl, ho1, hb1⟩
  have HR1 := Lib.hid ho1
  have HB1 := Lib.hid hb1
  clear ho1 hb1
  go_wp2
  go_ret
  exact ⟨v1, rfl, HR1.out, HB1.out⟩

end Go.Proofs.Ytmmmimkikakalaa
