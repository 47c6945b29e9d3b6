/- The law DagEven. -/
import Derived.Test.YtmmmimkikakalaaOe
namespace Go.Proofs.Ytmmmimkikakalaa
open Go.RowKit Go.WideShapes Go.ChangeShapes Go.ChangeMaps Go.Deep
set_option linter.unusedVariables false

theorem code2E_comm (G : List GN) (a b : List UInt8) : code2E G b a = code2E G a b := by unfold code2E; rw [Bool.and_comm]
theorem commonL_comm (G : List GN) (a b : List UInt8) : commonL G b a = commonL G a b :=
  strict_ext _ _ (setL_strict _) (setL_strict _) fun x => by
    have h1 := @commonL_mem G b a x
    have h2 := @commonL_mem G a b x
    rw [h1, h2, and_comm]
theorem basesE_comm (G : List GN) (a b : List UInt8) : basesE G b a = basesE G a b := by unfold basesE basesL; rw [Bool.and_comm, commonL_comm]
theorem basesE_strict (G : List GN) (a b : List UInt8) : Strict (basesE G a b) := by
  unfold basesE
  split
  · exact setL_strict _
  · exact .nil
theorem basesE_mem {G : List GN} {a b x : List UInt8} (h : x ∈ basesE G a b) : isR G x a = true ∧ isR G x b = true ∧ ∀ y ∈ basesE G a b, y ≠ x → isR G x y = false := by
  unfold basesE at h ⊢
  split at h
  · next hn =>
    rw [if_pos hn]
    have hn' := isNode_and hn
    unfold basesL at h ⊢
    rw [setL_mem, List.mem_filter] at h
    have hc := commonL_mem.1 h.1
    refine ⟨by unfold isR; rw [hn'.1, Bool.true_and]; exact decide_eq_true hc.1, by unfold isR; rw [hn'.2, Bool.true_and]; exact decide_eq_true hc.2, fun y hy hyx => ?_⟩
    rw [setL_mem, List.mem_filter] at hy
    have := List.all_eq_true.1 h.2 y hy.1
    rw [decide_eq_false hyx, Bool.false_or] at this
    simpa using this
  · cases h
theorem basesE_32 {G : List GN} (hG : Wf G) {a b : List UInt8} : ∀ x ∈ basesE G a b, x.length = 32 := fun x hx => by
  unfold basesE at hx
  split at hx
  · exact basesL_32 hG x hx
  · cases hx

set_option maxHeartbeats 4000000 in
set_option maxRecDepth 100000 in
theorem lawEven_any (p : Option Addr) (c : Nat) (L : List GN) (a b : List UInt8) (ha : a.length = 32) (hb : b.length = 32) (w : World) (hL : RefG w p L) :
    Calls Try.prog 4 #[.slice p L.length c, .agg (idB a), .agg (idB b)] w fun e w' => e = .returned (.bool true) ∧ Below w.heap.size w w' := by
  obtain ⟨W, hW⟩ : ∃ W, W = (w.alloc (.cells (idB a) 24)).alloc (.cells (idB b) 24) := ⟨_, rfl⟩
  obtain ⟨b1, hb1⟩ : ∃ b, b = w.heap.size := ⟨_, rfl⟩
  obtain ⟨b2, hb2⟩ : ∃ b, b = w.heap.size + 1 := ⟨_, rfl⟩
  obtain ⟨hq, a1, a2, c1, c2⟩ := two_boxes w a b ha hb W hW b1 hb1 b2 hb2
  have HQ := Lib.hid hq
  have HLW := Lib.hid (hL.below hq)
  have hida := idOk_agg a ha
  have hidb := idOk_agg b hb
  have HA := Lib.hid ha
  have HB := Lib.hid hb
  have HBX := Lib.hid (And.intro (And.intro a1 a2) (And.intro c1 c2))
  clear hq hL ha hb
  go_enter Try.func4, Try.ntmps4
  go_upto_region 1 with fail
  rw [← hW, ← hb2, ← hb1]
  clear hW hb1 hb2 a1 a2 c1 c2
  go_wp2_with fail
  refine (light_any p c L W HLW.out).mono ?_
  rintro e w1 ⟨rfl, h1⟩
  have HB1 := Lib.hid h1
  clear h1
  by_cases hl : lightG L = true
  case neg =>
    have hl' : lightG L = false := by simpa using hl
    clear hl
    go_wp2_with fail
    go_ret
    exact ⟨rfl, HQ.out.trans (HB1.out.mono HQ.out.size)⟩
  case pos =>
    have HL := Lib.hid hl
    go_wp2_with fail
    refine (built_all p c L w1 HL.out (HLW.out.below HB1.out)).mono ?_
    rintro e w2 ⟨gb, mb, p', c', G, rfl, hlen, hwf, hG, hR, h2⟩
    have HLEN := Lib.hid (show G.length ≤ 400 by omega)
    have HWF := Lib.hid hwf
    have HG := Lib.hid hG
    have HB2 := Lib.hid (HB1.out.trans (h2.mono HB1.out.size))
    have d1 := fits_below HB2.out HBX.out.1.1
    have d2 := (agg_below HB2.out HBX.out.1.1).trans HBX.out.1.2
    have e1 := fits_below HB2.out HBX.out.2.1
    have e2 := (agg_below HB2.out HBX.out.2.1).trans HBX.out.2.2
    have HBY := Lib.hid (And.intro (And.intro d1 d2) (And.intro e1 e2))
    clear hl hlen hwf hG hR h2
    go_wp2_with fail
    refine (bases_all gb mb G a b HA.out HB.out w2 HLEN.out HWF.out HG.out).mono ?_
    rintro e w3 ⟨p3, c3, rfl, hs, h3⟩
    have HS3 := Lib.hid hs
    have HB3 := Lib.hid h3
    clear hs h3 d1 d2 e1 e2
    have d1 := fits_below HB3.out HBY.out.1.1
    have d2 := (agg_below HB3.out HBY.out.1.1).trans HBY.out.1.2
    have e1 := fits_below HB3.out HBY.out.2.1
    have e2 := (agg_below HB3.out HBY.out.2.1).trans HBY.out.2.2
    go_wp2_with fail
    refine (bases_all gb mb G b a HB.out HA.out w3 HLEN.out HWF.out (HG.out.below HB3.out)).mono ?_
    rw [basesE_comm, code2E_comm]
    rintro e w4 ⟨p4, c4, rfl, hs, h4⟩
    have HS4 := Lib.hid hs.in
    have HS3' := Lib.hid (HS3.out.below h4).in
    have hb24 := HB3.out.trans (h4.mono HB3.out.size)
    have HB4 := Lib.hid hb24
    clear hs h4 d1 d2 e1 e2 hb24
    have hss : (basesE G a b == basesE G a b) = true := beq_self_eq_true _
    have HE := Lib.hid (show (basesE G a b).length ≤ 1000000 from by have := basesE_len G a b; have := HLEN.out; omega)
    have HND := Lib.hid (strict_nodup (basesE_strict G a b))
    have HM := Lib.hid (fun x => @basesE_mem G a b x)
    have H32 := Lib.hid (basesE_32 HWF.out (a := a) (b := b))
    generalize hBE : basesE G a b = BE at *
    generalize hCE : code2E G a b = CE at *
    clear hBE hCE
    go_wp2_with fail
    refine (same_any p3 p4 c3 c4 BE BE w4 HE.out HE.out HS3'.out HS4.out).mono ?_
    rw [hss]
    rintro e w5 ⟨rfl, h5⟩
    have hB25 := HB4.out.trans (h5.mono HB4.out.size)
    have HG5 := Lib.hid (HG.out.below hB25)
    have d1 := fits_below hB25 HBY.out.1.1
    have d2 := (agg_below hB25 HBY.out.1.1).trans HBY.out.1.2
    have e1 := fits_below hB25 HBY.out.2.1
    have e2 := (agg_below hB25 HBY.out.2.1).trans HBY.out.2.2
    have HBZ := Lib.hid (And.intro (And.intro d1 d2) (And.intro e1 e2))
    have HIN := Lib.hid (HS3'.out.below h5)
    have HFIN := Lib.hid (show Below w.heap.size w w5 from HQ.out.trans ((HB2.out.trans (hB25.mono HB2.out.size)).mono HQ.out.size))
    clear hB25 h5 d1 d2 e1 e2 hss HS4 HS3 HS3' HB4 HB3 HBX HBY HG
    have hcb : BE.length ≤ 1000000 := HE.out
    go_wp2_with fail
    go_loopg [14, 15] BE.length (fun g i v15 wr => ∃ (k : Nat), g + k = BE.length ∧ i = .int .i64 k ∧ Below w5.heap.size w5 wr)
    case atStart => exact ⟨0, by omega, rfl, Below.refl _ _⟩
    case round =>
      obtain ⟨k, hg, rfl, hb⟩ := hrel
      have HGK := Lib.hid hg
      have HBR := Lib.hid hb
      clear hg hb
      by_cases hk : k < BE.length
      · have HK := Lib.hid hk
        rcases HIN.out.2 with h | ⟨bm, offm, rfl, hc⟩
        · rw [h] at hk; simp at hk
        have HIK := Lib.hid (hc k hk)
        have HXM := Lib.hid (getD_mem hk)
        obtain ⟨x, hx⟩ : ∃ x, x = BE.getD k [] := ⟨_, rfl⟩
        have HXE := Lib.hid hx
        rw [← hx] at HIK HXM
        have HX32 := Lib.hid (H32.out _ HXM.out)
        have i1 : (k : Int) < BE.length := by omega
        have C1 := Lib.hid (fun X => is_any gb mb G x a HX32.out HA.out (ov wr X) (Nat.le_trans HLEN.out (by decide)) HWF.out (HG5.out.below (HBR.out.trans ((ov_below wr X).mono HBR.out.size))))
        have C2 := Lib.hid (fun X => is_any gb mb G x b HX32.out HB.out (ov wr X) (Nat.le_trans HLEN.out (by decide)) HWF.out (HG5.out.below (HBR.out.trans ((ov_below wr X).mono HBR.out.size))))
        rw [(HM.out x HXM.out).1] at C1
        rw [(HM.out x HXM.out).2.1] at C2
        have f1 := (IdAt.below HIK.out HBR.out).1
        have f2 := (IdAt.below HIK.out HBR.out).2
        have d1 := fits_below HBR.out HBZ.out.1.1
        have d2 := (agg_below HBR.out HBZ.out.1.1).trans HBZ.out.1.2
        have e1 := fits_below HBR.out HBZ.out.2.1
        have e2 := (agg_below HBR.out HBZ.out.2.1).trans HBZ.out.2.2
        have q7 := f1.lt
        simp only at q7
        clear hc hx
        go_wp2_with fail
        refine wp_region_over (by kernel_rfl) (by kernel_rfl) ?_
        repeat (go_big_quiet_step (first
          | (with_reducible exact Calls.over_of (C1.out _))
          | (with_reducible exact Calls.over_of (C2.out _))))
        refine wpQuiet_nil ?_
        rintro _ ⟨z0, rfl⟩
        have HB3 := Lib.hid (HBR.out.trans ((ov_below wr z0).mono HBR.out.size))
        clear f1 f2 d1 d2 e1 e2 C1 C2 q7
        go_wp2_with fail
        go_loopg [15] BE.length (fun g v15 wr2 => ∃ (j : Nat), g + j = BE.length ∧ v15 = .int .i64 j ∧ Below w5.heap.size w5 wr2)
        case atStart => exact ⟨0, by omega, rfl, HB3.out⟩
        case round =>
          obtain ⟨j, hg, rfl, hb2⟩ := hrel
          have HG' := Lib.hid hg
          have HBQ := Lib.hid hb2
          clear hg hb2
          by_cases hj : j < BE.length
          · have HJ := Lib.hid hj
            rcases HIN.out.2 with h | ⟨bm', offm', he, hc⟩
            · rw [h] at hk; simp at hk
            cases he
            have HIJ := Lib.hid (hc j hj)
            have HYM := Lib.hid (getD_mem hj)
            have i2 : (j : Int) < BE.length := by omega
            by_cases hjk : j = k
            · subst hjk
              clear hc
              go_wp2_with fail
              refine wp_region_over (by kernel_rfl) (by kernel_rfl) ?_
              repeat (go_big_quiet_step (fail))
              refine wpQuiet_nil ?_
              rintro _ ⟨z1, rfl⟩
              have HB4 := Lib.hid (HBQ.out.trans ((ov_below wr z1).mono HBQ.out.size))
              go_wp2
              go_roundg (gk - 1)
              case measure => have := HG'.out; have := HJ.out; omega
              case rel => exact ⟨j + 1, by have := HG'.out; have := HJ.out; omega, by go_num, HB4.out⟩
            · obtain ⟨y, hy⟩ : ∃ y, y = BE.getD j [] := ⟨_, rfl⟩
              have hyx : y ≠ x := by
                intro he
                rw [hy, HXE.out] at he
                simp only [List.getD_eq_getElem?_getD, List.getElem?_eq_getElem hj, List.getElem?_eq_getElem hk, Option.getD_some] at he
                exact hjk (nodup_idx HND.out hj hk he)
              rw [← hy] at HIJ HYM
              have HY32 := Lib.hid (H32.out _ HYM.out)
              have C1 := Lib.hid (fun X => is_any gb mb G x y HX32.out HY32.out (ov wr X) (Nat.le_trans HLEN.out (by decide)) HWF.out (HG5.out.below (HBQ.out.trans ((ov_below wr X).mono HBQ.out.size))))
              rw [(HM.out x HXM.out).2.2 y HYM.out hyx] at C1
              have hjk3 : decide ((j : Int) = (k : Int)) = false := decide_eq_false (by omega)
              have hjk4 : ((j : Int) == (k : Int)) = false := beq_eq_false_iff_ne.2 (by omega)
              have hjk5 : (j == k) = false := beq_eq_false_iff_ne.2 hjk
              have hjk6 : ((j : Int) != (k : Int)) = true := by rw [bne, hjk4]; rfl
              have hjk7 : (j != k) = true := by rw [bne, hjk5]; rfl
              have f1 := (IdAt.below HIK.out HBQ.out).1
              have f2 := (IdAt.below HIK.out HBQ.out).2
              have g1 := (IdAt.below HIJ.out HBQ.out).1
              have g2 := (IdAt.below HIJ.out HBQ.out).2
              have q7 := f1.lt
              simp only at q7
              clear hc hy hyx
              go_wp2_with fail
              refine wp_region_over (by kernel_rfl) (by kernel_rfl) ?_
              repeat (go_big_quiet_step ((go_at_call 14; exact Calls.over_of (C1.out _))))
              refine wpQuiet_nil ?_
              rintro _ ⟨z1, rfl⟩
              have HB4 := Lib.hid (HBQ.out.trans ((ov_below wr z1).mono HBQ.out.size))
              clear f1 f2 g1 g2 C1 q7
              go_wp2
              go_roundg (gk - 1)
              case measure => have := HG'.out; have := HJ.out; omega
              case rel => exact ⟨j + 1, by have := HG'.out; have := HJ.out; omega, by go_num, HB4.out⟩
          · have i2 : ¬ (j : Int) < BE.length := by omega
            go_wp2_with fail
            go_roundg (BE.length - (k + 1))
            case measure => have := HGK.out; have := HK.out; omega
            case rel => exact ⟨k + 1, by have := HGK.out; have := HK.out; omega, by go_num, HBQ.out⟩
      · have i1 : ¬ (k : Int) < BE.length := by omega
        go_wp2_with fail
        refine (awake_any wr).mono ?_
        rintro e w9 ⟨rfl, h9⟩
        have HB9 := Lib.hid (HFIN.out.trans ((HBR.out.trans (h9.mono HBR.out.size)).mono HFIN.out.size))
        clear h9
        go_wp2_with fail
        go_ret
        exact ⟨rfl, HB9.out⟩
theorem dagEven_walk {H : Type} {enc : TypeId × Value → H} {W : World} {b0 : Nat} {v0 v1 v2 : Value} {d0 d1 d2 : DataW H} {p0 p1 p2 : List MemPlace}
    (k0 : Value.okWide Try.prog W .any b0 22 v0) (h0 : DataW.Trod enc Try.prog W 0 (fun _ => true) true 22 v0 d0 p0)
    (k1 : Value.okWide Try.prog W .any b0 24 v1) (h1 : DataW.Trod enc Try.prog W 0 (fun _ => true) true 24 v1 d1 p1)
    (k2 : Value.okWide Try.prog W .any b0 24 v2) (h2 : DataW.Trod enc Try.prog W 0 (fun _ => true) true 24 v2 d2 p2) :
    Calls Try.prog 4 #[v0, v1, v2] W fun e w' => e = .returned (.bool true) ∧ Below W.heap.size W w' := by
  obtain ⟨p, c, L, rfl, hL⟩ := reads_gn h0 (okWide_slice Try.underlying22 k0)
  obtain ⟨x, hx, rfl⟩ := reads_id (ok_arr Try.underlying24 k1) h1
  obtain ⟨y, hy, rfl⟩ := reads_id (ok_arr Try.underlying24 k2) h2
  exact lawEven_any p c L x y hx hy W hL
end Go.Proofs.Ytmmmimkikakalaa
