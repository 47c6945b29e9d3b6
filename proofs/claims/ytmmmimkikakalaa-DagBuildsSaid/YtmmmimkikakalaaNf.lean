/- The reference's Bases. -/
import Derived.Test.YtmmmimkikakalaaNe
namespace Go.Proofs.Ytmmmimkikakalaa
open Go.RowKit Go.Maps
set_option linter.unusedVariables false

/-- What two nodes' pasts have in common. -/
noncomputable def commonL (G : List GN) (a b : List UInt8) : List (List UInt8) := setL ((pastL G a).filter fun z => decide (z ∈ pastL G b))
/-- Those of them that are in no other one's past. -/
noncomputable def basesL (G : List GN) (a b : List UInt8) : List (List UInt8) := setL ((commonL G a b).filter fun x => (commonL G a b).all fun k => decide (k = x) || !isR G x k)
theorem commonL_mem {G : List GN} {a b x : List UInt8} : x ∈ commonL G a b ↔ x ∈ pastL G a ∧ x ∈ pastL G b := by unfold commonL; rw [setL_mem, List.mem_filter]; simp
theorem commonL_len (G : List GN) (a b : List UInt8) : (commonL G a b).length ≤ G.length :=
  nodes_len (strict_nodup (setL_strict _)) (fun y hy => pastL_node y (commonL_mem.1 hy).1)
theorem nodup_idx {α : Type} {l : List α} (h : l.Nodup) {i j : Nat} (hi : i < l.length) (hj : j < l.length) (he : l[i] = l[j]) : i = j := by
  have hp := List.pairwise_iff_getElem.1 h
  rcases Nat.lt_trichotomy i j with h1 | h1 | h1
  · exact absurd he (hp i j hi hj h1)
  · exact h1
  · exact absurd he.symm (hp j i hj hi h1)
theorem two_boxes (w : World) (a b : List UInt8) (ha : a.length = 32) (hb : b.length = 32) (W : World) (hW : W = (w.alloc (.cells (idB a) 24)).alloc (.cells (idB b) 24)) (b1 : Nat) (hb1 : b1 = w.heap.size) (b2 : Nat) (hb2 : b2 = w.heap.size + 1) :
    Below w.heap.size w W ∧ fits W ⟨b1, 0, none⟩ 32 ∧ aggAt W ⟨b1, 0, none⟩ 32 = idB a ∧ fits W ⟨b2, 0, none⟩ 32 ∧ aggAt W ⟨b2, 0, none⟩ 32 = idB b := by
  have hq1 := (Below.refl w.heap.size w).alloc (Nat.le_refl _) (.cells (idB a) 24)
  have hq2 := (Below.refl (w.alloc (.cells (idB a) 24)).heap.size (w.alloc (.cells (idB a) 24))).alloc (Nat.le_refl _) (.cells (idB b) 24)
  have hq := hq1.trans (hq2.mono hq1.size)
  have a1 := fits_below hq2 (fits_new w (idB a) 24 32 (by rw [idB_size, ha]))
  have a2 := (agg_below hq2 (fits_new w (idB a) 24 32 (by rw [idB_size, ha]))).trans (aggAt_new w (idB a) 24 32 (by rw [idB_size, ha]))
  have c1 := fits_new (w.alloc (.cells (idB a) 24)) (idB b) 24 32 (by rw [idB_size, hb])
  have c2 := aggAt_new (w.alloc (.cells (idB a) 24)) (idB b) 24 32 (by rw [idB_size, hb])
  have hs : (w.alloc (.cells (idB a) 24)).heap.size = w.heap.size + 1 := by simp
  rw [hs] at c1 c2
  rw [← hW, ← hb1] at a1 a2
  rw [← hW, ← hb2] at c1 c2
  rw [← hW] at hq
  exact ⟨hq, a1, a2, c1, c2⟩

set_option maxHeartbeats 2000000 in
set_option maxRecDepth 100000 in
theorem rbases_no (p : Option Addr) (c : Nat) (G : List GN) (a b : List UInt8) (ha : a.length = 32) (hb : b.length = 32) (w : World) (hlen : G.length ≤ 1000) (hG : RefG w p G) (hn : (isNode G a && isNode G b) = false) :
    Calls Try.prog 12 #[.slice p G.length c, .agg (idB a), .agg (idB b)] w fun e w' => e = .returned (.tuple #[.slice none 0 0, .int .i64 12]) ∧ Below w.heap.size w w' := by
  obtain ⟨W, hW⟩ : ∃ W, W = (w.alloc (.cells (idB a) 24)).alloc (.cells (idB b) 24) := ⟨_, rfl⟩
  obtain ⟨b1, hb1⟩ : ∃ b, b = w.heap.size := ⟨_, rfl⟩
  obtain ⟨b2, hb2⟩ : ∃ b, b = w.heap.size + 1 := ⟨_, rfl⟩
  obtain ⟨hq, a1, a2, c1, c2⟩ := two_boxes w a b ha hb W hW b1 hb1 b2 hb2
  have HQ := Lib.hid hq
  have HA1 := Lib.hid a1
  have HA2 := Lib.hid a2
  have HC1 := Lib.hid c1
  have HC2 := Lib.hid c2
  have HG := Lib.hid (hG.below hq)
  have HRG0 := Lib.hid hG
  have HLEN := Lib.hid hlen
  have HP := Lib.hid (rplace_any p c G a ha W hlen (hG.below hq))
  have p1 := placeI_lt G a
  have p2 := placeI_lt G b
  clear hq hG a1 a2 c1 c2
  go_enter Try.func12, Try.ntmps12
  go_upto_region 1 with fail
  rw [← hW, ← hb2, ← hb1]
  clear hW hb1 hb2
  have a1 := HA1.out
  have a2 := HA2.out
  cases hna : isNode G a with
  | false =>
    rw [hna] at p1
    have i0 : placeI G a < 0 := of_decide_eq_true p1
    generalize placeI G a = q at *
    clear hn hna p1 p2
    go_wp2_with fail
    refine HP.out.mono ?_
    rintro e w1 ⟨rfl, hb3⟩
    have HB3 := Lib.hid (HQ.out.trans (hb3.mono HQ.out.size))
    clear hb3 a1 a2
    go_wp2
    go_ret2
    exact ⟨rfl, HB3.out⟩
  | true =>
    rw [hna] at p1 hn
    rw [Bool.true_and] at hn
    rw [hn] at p2
    have i0 : ¬ placeI G a < 0 := of_decide_eq_false p1
    have i1 : placeI G b < 0 := of_decide_eq_true p2
    clear hn hna p1 p2
    go_wp2_with fail
    refine HP.out.mono ?_
    rintro e w1 ⟨rfl, hb3⟩
    have HB3 := Lib.hid (HQ.out.trans (hb3.mono HQ.out.size))
    have HP2 := Lib.hid (rplace_any p c G b hb w1 HLEN.out (HG.out.below hb3))
    have c1 := fits_below hb3 HC1.out
    have c2 := (agg_below hb3 HC1.out).trans HC2.out
    generalize placeI G a = q at *
    generalize placeI G b = q2 at *
    clear hb3 a1 a2
    go_wp2_with fail
    refine HP2.out.mono ?_
    rintro e w2 ⟨rfl, hb4⟩
    have HB4 := Lib.hid (HB3.out.trans (hb4.mono HB3.out.size))
    clear hb4 c1 c2
    go_wp2
    go_ret2
    exact ⟨rfl, HB4.out⟩

set_option maxHeartbeats 4000000 in
set_option maxRecDepth 100000 in
theorem rbases_any (p : Option Addr) (c : Nat) (G : List GN) (a b : List UInt8) (w : World) (hlen : G.length ≤ 1000) (hwf : Wf G) (hG : RefG w p G) (hna : isNode G a = true) (hnb : isNode G b = true) :
    Calls Try.prog 12 #[.slice p G.length c, .agg (idB a), .agg (idB b)] w fun e w' => ∃ v, e = .returned (.tuple #[v, .int .i64 0]) ∧ rowI w.heap.size (basesL G a b) v w' ∧ Below w.heap.size w w' := by
  have HBL := Lib.hid (show setL ((commonL G a b).filter fun x => (commonL G a b).all fun k => decide (k = x) || !isR G x k) = basesL G a b from rfl)
  obtain ⟨BL, hBL⟩ : ∃ BL, BL = basesL G a b := ⟨_, rfl⟩
  rw [← hBL] at HBL ⊢
  clear hBL
  have ha := isNode_len hwf hna
  have hb := isNode_len hwf hnb
  obtain ⟨W, hW⟩ : ∃ W, W = (w.alloc (.cells (idB a) 24)).alloc (.cells (idB b) 24) := ⟨_, rfl⟩
  obtain ⟨b1, hb1⟩ : ∃ b, b = w.heap.size := ⟨_, rfl⟩
  obtain ⟨b2, hb2⟩ : ∃ b, b = w.heap.size + 1 := ⟨_, rfl⟩
  obtain ⟨hq, a1, a2, c1, c2⟩ := two_boxes w a b ha hb W hW b1 hb1 b2 hb2
  have HQ := Lib.hid hq
  have HA1 := Lib.hid a1
  have HA2 := Lib.hid a2
  have HC1 := Lib.hid c1
  have HC2 := Lib.hid c2
  have HG := Lib.hid (hG.below hq)
  have HRG0 := Lib.hid hG
  have HLEN := Lib.hid hlen
  have HWF := Lib.hid hwf
  have HNA := Lib.hid hna
  have HNB := Lib.hid hnb
  have HP := Lib.hid (rplace_any p c G a ha W hlen (hG.below hq))
  have p1 := placeI_lt G a
  have p2 := placeI_lt G b
  rw [hna] at p1
  rw [hnb] at p2
  have i0 : ¬ placeI G a < 0 := of_decide_eq_false p1
  have i1 : ¬ placeI G b < 0 := of_decide_eq_false p2
  clear hq hG a1 a2 c1 c2 p1 p2 hna hnb hwf
  go_enter Try.func12, Try.ntmps12
  go_upto_region 1 with fail
  rw [← hW, ← hb2, ← hb1]
  clear hW hb1 hb2
  have a1 := HA1.out
  have a2 := HA2.out
  go_wp2_with fail
  refine HP.out.mono ?_
  rintro e w1 ⟨rfl, hb3⟩
  have HW1 := Lib.hid hb3
  have HB1 := Lib.hid (HQ.out.trans (hb3.mono HQ.out.size))
  have HP2 := Lib.hid (rplace_any p c G b hb w1 HLEN.out (HG.out.below hb3))
  have c1 := fits_below hb3 HC1.out
  have c2 := (agg_below hb3 HC1.out).trans HC2.out
  generalize placeI G a = q at *
  generalize placeI G b = q2 at *
  clear hb3 a1 a2
  go_wp2_with fail
  refine HP2.out.mono ?_
  rintro e w2 ⟨rfl, hb4⟩
  have hw2 := HW1.out.trans (hb4.mono HW1.out.size)
  have HW2 := Lib.hid hw2
  have HB2 := Lib.hid (HQ.out.trans (hw2.mono HQ.out.size))
  have HPA := Lib.hid (rpast_any p c G a w2 HLEN.out HWF.out (HG.out.below hw2) HNA.out)
  have a1 := fits_below hw2 HA1.out
  have a2 := (agg_below hw2 HA1.out).trans HA2.out
  clear hb4 c1 c2 hw2
  go_wp2_with fail
  refine HPA.out.mono ?_
  rintro e w3 ⟨v3, rfl, hr3, hb5⟩
  have hw3 := HW2.out.trans (hb5.mono HW2.out.size)
  have HW3 := Lib.hid hw3
  have HB3 := Lib.hid (HQ.out.trans (hw3.mono HQ.out.size))
  have HPB := Lib.hid (rpast_any p c G b w3 HLEN.out HWF.out (HG.out.below hw3) HNB.out)
  have HR3 := Lib.hid (SlI_row (pastL_32 HWF.out) hr3)
  have c1 := fits_below hw3 HC1.out
  have c2 := (agg_below hw3 HC1.out).trans HC2.out
  clear hb5 a1 a2 hw3 hr3 i0 i1
  go_wp2_with fail
  refine HPB.out.mono ?_
  rintro e w4 ⟨v4, rfl, hr4, hb6⟩
  have hw4 := HW3.out.trans (hb6.mono HW3.out.size)
  have HB4 := Lib.hid (HQ.out.trans (hw4.mono HQ.out.size))
  have HR4 := Lib.hid (SlI_row (pastL_32 HWF.out) hr4)
  have HR3' := Lib.hid (SlI_below HR3.out hb6)
  obtain ⟨x3, y3, rfl, _, _, q3, _⟩ := HR3'.out
  obtain ⟨x4, y4, rfl, _, _, q4, _⟩ := HR4.out
  have HBO := Lib.hid (rboth_any x3 x4 y3 y4 (pastL G a) (pastL G b) w4 (by have := pastL_len G a; have := HLEN.out; omega) (by have := pastL_len G b; have := HLEN.out; omega) q3 q4)
  clear hb6 c1 c2 hw4 hr4 q3 q4 HR3 HR3' HR4
  have HCO := Lib.hid (show setL ((pastL G a).filter fun z => decide (z ∈ pastL G b)) = commonL G a b from rfl)
  rw [HCO.out] at HBO
  have HCL := Lib.hid (commonL_len G a b)
  have hcb : (commonL G a b).length ≤ 1000 := by have := HLEN.out; have := HCL.out; omega
  have HCN := Lib.hid (strict_nodup (setL_strict ((pastL G a).filter fun z => decide (z ∈ pastL G b))))
  rw [HCO.out] at HCN
  have HC32 := Lib.hid (show ∀ z ∈ commonL G a b, z.length = 32 from fun z hz => pastL_32 HWF.out z (commonL_mem.1 hz).1)
  clear HCO
  generalize commonL G a b = C at *
  generalize pastL G a = PA at *
  generalize pastL G b = PB at *
  go_wp2_with fail
  refine HBO.out.mono ?_
  rintro e w5 ⟨v5, rfl, hr5, hb7⟩
  have HB5 := Lib.hid (HB4.out.trans (hb7.mono HB4.out.size))
  obtain ⟨a5, c5, rfl, q5, q6, hin5, _⟩ := SlI_row HC32.out hr5
  have HIN := Lib.hid hin5
  clear hb7 hr5 hin5 HBO
  go_wp2_with fail
  go_loopg [13, 14, 15, 16] C.length (fun g vo i v15 v16 wr => ∃ (k : Nat) (O : List (List UInt8)), g + k = C.length ∧ i = .int .i64 k ∧ rowI w5.heap.size O vo wr ∧ O = (C.take k).filter (fun x => C.all fun k => decide (k = x) || !isR G x k) ∧ Below w5.heap.size w5 wr)
  case atStart => exact ⟨0, [], by omega, rfl, ⟨by simp [idsC], .inl ⟨rfl, rfl⟩⟩, by simp, Below.refl _ _⟩
  case round =>
    obtain ⟨k, O, hg, rfl, hrow, hO, hb⟩ := hrel
    have HGK := Lib.hid hg
    have HR := Lib.hid hrow
    have HO := Lib.hid hO
    have HBR := Lib.hid hb
    have HB := Lib.hid (HB5.out.trans (hb.mono HB5.out.size))
    have H32 := Lib.hid (show ∀ z ∈ O, z.length = 32 from fun z hz => by rw [hO] at hz; exact HC32.out z (List.mem_of_mem_take (List.mem_filter.1 hz).1))
    have HOL := Lib.hid (show O.length ≤ 1000 by rw [hO]; refine Nat.le_trans (List.length_filter_le _ _) ?_; rw [List.length_take]; have := HLEN.out; have := HCL.out; omega)
    clear hg hrow hO hb
    by_cases hk : k < C.length
    · have HK := Lib.hid hk
      rcases HIN.out.2 with h | ⟨bm, offm, rfl, hc⟩
      · rw [h] at hk; simp at hk
      have HIK := Lib.hid (hc k hk)
      have HXM := Lib.hid (getD_mem hk)
      have HTK := Lib.hid (take_snoc [] C k hk)
      obtain ⟨x, hx⟩ : ∃ x, x = C.getD k [] := ⟨_, rfl⟩
      have HXE := Lib.hid hx
      rw [← hx] at HIK HXM HTK
      have hx32 := HC32.out _ HXM.out
      have HX32 := Lib.hid hx32
      have i1 : (k : Int) < C.length := by omega
      clear hc hx
      go_wp2_with fail
      go_loopg [15, 16] C.length (fun g v15 v16 wr2 => ∃ (j : Nat), g + j = C.length ∧ v15 = .bool ((C.take j).all fun k => decide (k = x) || !isR G x k) ∧ v16 = .int .i64 j ∧ Below wr.heap.size wr wr2)
      case atStart => exact ⟨0, by omega, by simp, rfl, Below.refl _ _⟩
      case round =>
        obtain ⟨j, hg, rfl, rfl, hb2⟩ := hrel
        have HG' := Lib.hid hg
        have HBQ := Lib.hid hb2
        have HB5W := Lib.hid (HBR.out.trans (hb2.mono HBR.out.size))
        have HBW := Lib.hid (HB.out.trans (hb2.mono HB.out.size))
        clear hg hb2
        by_cases hj : j < C.length
        · have HJ := Lib.hid hj
          rcases HIN.out.2 with h | ⟨bm', offm', he, hc⟩
          · rw [h] at hk; simp at hk
          cases he
          have HIJ := Lib.hid (hc j hj)
          have HYM := Lib.hid (getD_mem hj)
          have HTJ := Lib.hid (take_snoc [] C j hj)
          have hdec : decide (j = k) = decide (C.getD j [] = C.getD k []) := by
            by_cases hjk : j = k
            · subst hjk; simp
            · rw [decide_eq_false hjk, decide_eq_false]
              intro he
              simp only [List.getD_eq_getElem?_getD, List.getElem?_eq_getElem hj, List.getElem?_eq_getElem hk, Option.getD_some] at he
              exact hjk (nodup_idx HCN.out hj hk he)
          rw [← HXE.out] at hdec
          obtain ⟨y, hy⟩ : ∃ y, y = C.getD j [] := ⟨_, rfl⟩
          rw [← hy] at HIJ HYM HTJ hdec
          have hy32 := HC32.out _ HYM.out
          have HY32 := Lib.hid hy32
          have HT2 := Lib.hid (show (C.take (j + 1)).all (fun k => decide (k = x) || !isR G x k) = ((C.take j).all (fun k => decide (k = x) || !isR G x k) && (decide (y = x) || !isR G x y)) by rw [HTJ.out]; simp)
          have e1 := (IdAt.below HIK.out HB5W.out).1
          have e2 := (IdAt.below HIK.out HB5W.out).2
          have e3 := (IdAt.below HIJ.out HB5W.out).1
          have e4 := (IdAt.below HIJ.out HB5W.out).2
          have q7 := e1.lt
          simp only at q7
          have i2 : (j : Int) < C.length := by omega
          have C1 := Lib.hid (fun X => ris_any p c G x y HX32.out hy32 (ov wr X) HLEN.out HWF.out (HRG0.out.below (HBW.out.trans ((ov_below wr X).mono HBW.out.size))))
          clear hc hy
          cases hbo : (C.take j).all fun k => decide (k = x) || !isR G x k with
          | false =>
            have HBO := Lib.hid hbo
            clear hbo
            go_wp2_with fail
            refine wp_region_over (by kernel_rfl) (by kernel_rfl) ?_
            repeat (go_big_quiet_step (fail))
            refine wpQuiet_nil ?_
            rintro _ ⟨z0, rfl⟩
            have HB3 := Lib.hid (HBQ.out.trans ((ov_below wr z0).mono HBQ.out.size))
            clear e1 e2 e3 e4 C1
            go_wp2
            go_roundg (gk - 1)
            case measure => have := HG'.out; have := HJ.out; omega
            case rel => exact ⟨j + 1, by have := HG'.out; have := HJ.out; omega, by rw [HT2.out, HBO.out]; rfl, by go_num, HB3.out⟩
          | true =>
            have HBO := Lib.hid hbo
            clear hbo
            cases hyx : decide (y = x) with
            | true =>
              rw [hyx] at hdec
              have hjk : j = k := of_decide_eq_true hdec
              subst hjk
              have HYX := Lib.hid hyx
              clear hyx
              go_wp2_with fail
              refine wp_region_over (by kernel_rfl) (by kernel_rfl) ?_
              repeat (go_big_quiet_step (fail))
              refine wpQuiet_nil ?_
              rintro _ ⟨z0, rfl⟩
              have HB3 := Lib.hid (HBQ.out.trans ((ov_below wr z0).mono HBQ.out.size))
              clear e1 e2 e3 e4 C1
              go_wp2
              go_roundg (gk - 1)
              case measure => have := HG'.out; have := HJ.out; omega
              case rel => exact ⟨j + 1, by have := HG'.out; have := HJ.out; omega, by rw [HT2.out, HBO.out, HYX.out]; rfl, by go_num, HB3.out⟩
            | false =>
              rw [hyx] at hdec
              have hjk : ¬ j = k := of_decide_eq_false hdec
              have hjk3 : decide ((j : Int) = (k : Int)) = false := decide_eq_false (by omega)
              have hjk4 : ((j : Int) == (k : Int)) = false := beq_eq_false_iff_ne.2 (by omega)
              have hjk5 : (j == k) = false := beq_eq_false_iff_ne.2 hjk
              have HYX := Lib.hid hyx
              clear hyx
              generalize isR G x y = ib at *
              cases ib with
              | true =>
                go_wp2_with fail
                refine wp_region_over (by kernel_rfl) (by kernel_rfl) ?_
                repeat (go_big_quiet_step ((go_at_call 15; exact Calls.over_of (C1.out _))))
                refine wpQuiet_nil ?_
                rintro _ ⟨z0, rfl⟩
                have HB3 := Lib.hid (HBQ.out.trans ((ov_below wr z0).mono HBQ.out.size))
                clear e1 e2 e3 e4 C1
                go_wp2
                go_roundg (gk - 1)
                case measure => have := HG'.out; have := HJ.out; omega
                case rel => exact ⟨j + 1, by have := HG'.out; have := HJ.out; omega, by rw [HT2.out, HBO.out, HYX.out]; rfl, by go_num, HB3.out⟩
              | false =>
                go_wp2_with fail
                refine wp_region_over (by kernel_rfl) (by kernel_rfl) ?_
                repeat (go_big_quiet_step ((go_at_call 15; exact Calls.over_of (C1.out _))))
                refine wpQuiet_nil ?_
                rintro _ ⟨z0, rfl⟩
                have HB3 := Lib.hid (HBQ.out.trans ((ov_below wr z0).mono HBQ.out.size))
                clear e1 e2 e3 e4 C1
                go_wp2
                go_roundg (gk - 1)
                case measure => have := HG'.out; have := HJ.out; omega
                case rel => exact ⟨j + 1, by have := HG'.out; have := HJ.out; omega, by rw [HT2.out, HBO.out, HYX.out]; rfl, by go_num, HB3.out⟩
        · have hk' := HK.out
          have HJE := Lib.hid (show (C.take j).all (fun k => decide (k = x) || !isR G x k) = C.all (fun k => decide (k = x) || !isR G x k) by rw [List.take_of_length_le (by omega)])
          have HRQ := Lib.hid (rowI_st _ _ _ _ _ HR.out HBQ.out)
          rw [HJE.out]
          have e1 := (IdAt.below HIK.out HB5W.out).1
          have e2 := (IdAt.below HIK.out HB5W.out).2
          cases hhd : C.all fun k => decide (k = x) || !isR G x k with
          | false =>
            have HHD := Lib.hid hhd
            clear hhd e1 e2
            go_wp2
            go_roundg (C.length - (k + 1))
            case measure => have := HGK.out; have := HK.out; omega
            case rel => exact ⟨k + 1, O, by have := HK.out; omega, by go_num, HRQ.out, by rw [HO.out, HTK.out, List.filter_append]; simp [HHD.out], HB5W.out⟩
          | true =>
            have HHD := Lib.hid hhd
            obtain ⟨a2, c2, rfl, p1, p2, p3, p4⟩ := SlI_row H32.out HRQ.out
            unfold maxLen at p2
            obtain ⟨O1, hO1⟩ : ∃ O1, O1 = O ++ [x] := ⟨_, rfl⟩
            have HO1 := Lib.hid hO1
            have HC := Lib.hid (show O.length + [x].length ≤ 4000000 by have := HOL.out; simp only [List.length_cons, List.length_nil]; omega)
            have hbn := (Below.refl wr.heap.size wr).alloc (Nat.le_refl _) (.cells (idB x) 24)
            have HNEW := Lib.hid (one_new (w := wr) HX32.out)
            have HRN := Lib.hid (rowI_st _ _ _ _ _ HRQ.out hbn)
            have HBN := Lib.hid (HB5W.out.trans (hbn.mono HB5W.out.size))
            have HBNW := Lib.hid (HBW.out.trans (hbn.mono HBW.out.size))
            clear hbn hO1 p3 p4 hhd
            go_wp2_with (at_builtin; refine wpList_append_to rfl _ _ rfl w5.heap.size _ O [x] O1 HO1.out rfl HRN.out _ 1 rfl HNEW.out (fun e => by cases e) HC.out HBN.out.size ?_)
            rintro v1 w1 ho1 hb1
            have HR1 := Lib.hid (show rowI w5.heap.size O1 v1 w1 from ho1)
            have HB1 := Lib.hid (HBN.out.trans hb1)
            clear ho1 hb1 e1 e2
            go_wp2
            go_roundg (C.length - (k + 1))
            case measure => have := HGK.out; have := HK.out; omega
            case rel => exact ⟨k + 1, O1, by have := HK.out; omega, by go_num, HR1.out, by rw [HO1.out, HO.out, HTK.out, List.filter_append]; simp [HHD.out], HB1.out⟩
    · have HE := Lib.hid (show setL O = BL by rw [HO.out, List.take_of_length_le (by omega)]; exact HBL.out)
      obtain ⟨a2, c2, rfl, p1, p2, p3, p4⟩ := SlI_row H32.out HR.out
      have P3 := Lib.hid p3
      have HCL' := Lib.hid (show O.length ≤ 1000000 by have := HOL.out; omega)
      clear p2 p3 p4
      go_wp2_with fail
      refine (rset_any a2 c2 O _ HCL'.out P3.out).mono ?_
      rintro e w6 ⟨v3, rfl, ho3, hb3⟩
      rw [HE.out] at ho3
      have HR3 := Lib.hid (ownsRow_base ho3 HB.out.size)
      have HB3 := Lib.hid (HB.out.trans (hb3.mono HB.out.size))
      clear ho3 hb3
      go_wp2
      go_ret2
      exact ⟨v3, rfl, HR3.out, HB3.out⟩
end Go.Proofs.Ytmmmimkikakalaa
