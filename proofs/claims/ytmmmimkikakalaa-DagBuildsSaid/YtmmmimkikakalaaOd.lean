/- The law DagBases. -/
import Derived.Test.YtmmmimkikakalaaOc
namespace Go.Proofs.Ytmmmimkikakalaa
open Go.RowKit Go.WideShapes Go.ChangeShapes Go.ChangeMaps Go.Deep
set_option linter.unusedVariables false

theorem ok_arr {W : World} {b0 : Nat} {t : TypeId} {v : Value} {n : Nat} {e : TypeId} (hu : Try.prog.underlying t = some (.array n e)) (h : Value.okWide Try.prog W .any b0 t v) : ∃ cs, v = .agg cs := by
  unfold Value.okWide at h
  rw [hu] at h
  obtain ⟨cs, h, _⟩ := h
  exact ⟨_, h⟩
set_option maxHeartbeats 4000000 in
set_option maxRecDepth 100000 in
theorem lawBases_any (p : Option Addr) (c : Nat) (L : List GN) (a b : List UInt8) (ha : a.length = 32) (hb : b.length = 32) (w : World) (hL : RefG w p L) :
    Calls Try.prog 3 #[.slice p L.length c, .agg (idB a), .agg (idB b)] w fun e w' => e = .returned (.bool true) ∧ Below w.heap.size w w' := by
  obtain ⟨W, hW⟩ : ∃ W, W = (w.alloc (.cells (idB a) 24)).alloc (.cells (idB b) 24) := ⟨_, rfl⟩
  obtain ⟨b1, hb1⟩ : ∃ b, b = w.heap.size := ⟨_, rfl⟩
  obtain ⟨b2, hb2⟩ : ∃ b, b = w.heap.size + 1 := ⟨_, rfl⟩
  obtain ⟨hq, a1, a2, c1, c2⟩ := two_boxes w a b ha hb W hW b1 hb1 b2 hb2
  have HQ := Lib.hid hq
  have HLW := Lib.hid (hL.below hq)
  have hida := idOk_agg a ha
  have hidb := idOk_agg b hb
  have HA := Lib.hid ha
  have HB := Lib.hid hb
  have HBX := Lib.hid (And.intro (And.intro a1 a2) (And.intro c1 c2))
  clear hq hL ha hb
  go_enter Try.func3, Try.ntmps3
  go_upto_region 1 with fail
  rw [← hW, ← hb2, ← hb1]
  clear hW hb1 hb2 a1 a2 c1 c2
  go_wp2_with fail
  refine (light_any p c L W HLW.out).mono ?_
  rintro e w1 ⟨rfl, h1⟩
  have HB1 := Lib.hid h1
  clear h1
  by_cases hl : lightG L = true
  case neg =>
    have hl' : lightG L = false := by simpa using hl
    clear hl
    go_wp2_with fail
    go_ret
    exact ⟨rfl, HQ.out.trans (HB1.out.mono HQ.out.size)⟩
  case pos =>
    have HL := Lib.hid hl
    go_wp2_with fail
    refine (built_all p c L w1 HL.out (HLW.out.below HB1.out)).mono ?_
    rintro e w2 ⟨gb, mb, p', c', G, rfl, hlen, hwf, hG, hR, h2⟩
    have HLEN := Lib.hid (show G.length ≤ 400 by omega)
    have HWF := Lib.hid hwf
    have HG := Lib.hid hG
    have HR := Lib.hid hR
    have HB2 := Lib.hid (HB1.out.trans (h2.mono HB1.out.size))
    have d1 := fits_below HB2.out HBX.out.1.1
    have d2 := (agg_below HB2.out HBX.out.1.1).trans HBX.out.1.2
    have e1 := fits_below HB2.out HBX.out.2.1
    have e2 := (agg_below HB2.out HBX.out.2.1).trans HBX.out.2.2
    have HBY := Lib.hid (And.intro (And.intro d1 d2) (And.intro e1 e2))
    clear hl hlen hwf hG hR h2
    go_wp2_with fail
    refine (bases_all gb mb G a b HA.out HB.out w2 HLEN.out HWF.out HG.out).mono ?_
    rintro e w3 ⟨p3, c3, rfl, hs, h3⟩
    have HS3 := Lib.hid hs
    have HB3 := Lib.hid h3
    clear hs h3 d1 d2 e1 e2
    have d1 := fits_below HB3.out HBY.out.1.1
    have d2 := (agg_below HB3.out HBY.out.1.1).trans HBY.out.1.2
    have e1 := fits_below HB3.out HBY.out.2.1
    have e2 := (agg_below HB3.out HBY.out.2.1).trans HBY.out.2.2
    go_wp2_with fail
    refine (rbases_all p' c' G a b HA.out HB.out w3 HLEN.out HWF.out (HR.out.below HB3.out)).mono ?_
    rintro e w4 ⟨p4, c4, rfl, hs, h4⟩
    have HS4 := Lib.hid hs.in
    have HS3' := Lib.hid (HS3.out.below h4).in
    have hb24 := HB3.out.trans (h4.mono HB3.out.size)
    have HB4 := Lib.hid hb24
    clear hs h4 d1 d2 e1 e2 hb24
    have d1 := fits_below HB4.out HBY.out.1.1
    have d2 := (agg_below HB4.out HBY.out.1.1).trans HBY.out.1.2
    have e1 := fits_below HB4.out HBY.out.2.1
    have e2 := (agg_below HB4.out HBY.out.2.1).trans HBY.out.2.2
    have HG4 := Lib.hid (HG.out.below HB4.out)
    have HR4 := Lib.hid (HR.out.below HB4.out)
    have hss : (basesE G a b == basesE G a b) = true := beq_self_eq_true _
    have HE := Lib.hid (show (basesE G a b).length ≤ 1000000 from by have := basesE_len G a b; have := HLEN.out; omega)
    have HFIN := Lib.hid (show Below w.heap.size w w4 from HQ.out.trans (((HB2.out.trans (HB4.out.mono HB2.out.size))).mono HQ.out.size))
    generalize hBE : basesE G a b = BE at *
    generalize hCE : code2E G a b = CE at *
    generalize hIE : isR G a b = IE at *
    clear hBE hCE
    go_upto_region 6 with fail
    refine wp_region_over (by kernel_rfl) (by kernel_rfl) ?_
    repeat (go_big_quiet_step (first
      | (with_reducible exact Calls.over_of ((same_any p3 p4 c3 c4 BE BE _ HE.out HE.out (HS3'.out.below (ov_below w4 _)) (HS4.out.below (ov_below w4 _)))))
      | (with_reducible exact Calls.over_of (is_any gb mb G a b HA.out HB.out _ (Nat.le_trans HLEN.out (by decide)) HWF.out (HG4.out.below (ov_below w4 _))))
      | (with_reducible exact Calls.over_of (ris_any p' c' G a b HA.out HB.out _ (Nat.le_trans HLEN.out (by decide)) HWF.out (HR4.out.below (ov_below w4 _))))
      | (with_reducible exact Calls.over_of (awake_any _))))
    refine wpQuiet_nil ?_
    rintro _ ⟨x0, rfl⟩
    have HFF := Lib.hid (HFIN.out.trans ((ov_below w4 x0).mono HFIN.out.size))
    clear d1 d2 e1 e2
    generalize ov w4 x0 = W9 at *
    go_wp2_with fail
    go_ret
    exact ⟨rfl, HFF.out⟩
theorem dagBases_walk {H : Type} {enc : TypeId × Value → H} {W : World} {b0 : Nat} {v0 v1 v2 : Value} {d0 d1 d2 : DataW H} {p0 p1 p2 : List MemPlace}
    (k0 : Value.okWide Try.prog W .any b0 22 v0) (h0 : DataW.Trod enc Try.prog W 0 (fun _ => true) true 22 v0 d0 p0)
    (k1 : Value.okWide Try.prog W .any b0 24 v1) (h1 : DataW.Trod enc Try.prog W 0 (fun _ => true) true 24 v1 d1 p1)
    (k2 : Value.okWide Try.prog W .any b0 24 v2) (h2 : DataW.Trod enc Try.prog W 0 (fun _ => true) true 24 v2 d2 p2) :
    Calls Try.prog 3 #[v0, v1, v2] W fun e w' => e = .returned (.bool true) ∧ Below W.heap.size W w' := by
  obtain ⟨p, c, L, rfl, hL⟩ := reads_gn h0 (okWide_slice Try.underlying22 k0)
  obtain ⟨x, hx, rfl⟩ := reads_id (ok_arr Try.underlying24 k1) h1
  obtain ⟨y, hy, rfl⟩ := reads_id (ok_arr Try.underlying24 k2) h2
  exact lawBases_any p c L x y hx hy W hL
end Go.Proofs.Ytmmmimkikakalaa
