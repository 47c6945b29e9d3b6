/- The walk of MyersLeast. -/
import Derived.Test.YtipoifokcnbfnaaLc
import Derived.Test.YtipoifokcnbfnaaKi
namespace Go.Proofs.Ytipoifokcnbfnaa
open Go.RowKit Go.WideShapes Go.ChangeShapes Go.ChangeMaps Go.Deep
set_option linter.unusedVariables false

theorem dC_text {a b : ByteArray} (ha : chkE a.data.toList = 0) (hb : chkE b.data.toList = 0) : dC a b = 0 ∧ costE (dE a b) = (cst (runesL a.data.toList) (runesL b.data.toList) : Int) := by
  rw [dE_cost]
  unfold dC
  rw [if_pos ⟨ha, hb⟩, if_pos ⟨ha, hb⟩]
  exact ⟨rfl, rfl⟩
theorem crow_zero (a b : List Int) : (crow a b 0).getD 0 0 = (cst a b : Int) := by
  unfold crow
  simp [C]

set_option maxHeartbeats 4000000 in
set_option maxRecDepth 100000 in
theorem lawLeast_any (a : ByteArray) (hsa : a.size ≤ maxLen) (p : Option Addr) (cap : Nat) (E : List Ed) (w : World) (hin : edR.In w p E) :
    Calls Try.prog 9 #[.string a, .slice p E.length cap] w fun e w' => e = .returned (.bool true) ∧ Below w.heap.size w w' := by
  by_cases h1 : 150 < a.size
  · go_enter Try.func9, Try.ntmps9
    go_wp2
    go_ret
    exact ⟨rfl, Below.refl _ _⟩
  by_cases h2 : 60 < E.length
  · go_enter Try.func9, Try.ntmps9
    go_wp2
    go_ret
    exact ⟨rfl, Below.refl _ _⟩
  have HX := Lib.hid hin
  have HAA := Lib.hid (fun (ht : ∀ e ∈ E, e.2.2.length ≤ 40000) w hin => apply_any a (by omega) p cap E w (by omega) ht hin)
  have HAL := Lib.hid (fun h => apply_least (s := a.data.toList) (E := E) h)
  have HXL := Lib.hid (show (runesL a.data.toList).length ≤ 150 by
    have h1 := runesL_le a.data.toList
    have h2 : a.data.toList.length = a.size := by simp
    omega)
  have HDA := Lib.hid (fun b w hb => diff_all a b (by omega) hb w)
  have HLA := Lib.hid (fun b hb => dE_light a b (by omega) hb)
  have HRA := Lib.hid (fun w => rrunes_any a (by unfold maxLen; omega) (by omega) w)
  clear hin
  go_enter Try.func9, Try.ntmps9
  go_wp2_with fail
  go_loopg [5] E.length (fun g v5 wr => ∃ (k : Nat), g + k = E.length ∧ v5 = .int .i64 k ∧ (∀ e ∈ E.take k, e.2.2.length ≤ 20) ∧ w = wr)
  case atStart => exact ⟨0, by omega, rfl, by simp, rfl⟩
  case round =>
    obtain ⟨k, hg, rfl, hc, rfl⟩ := hrel
    have HG := Lib.hid hg
    have HC := Lib.hid hc
    clear hg hc
    by_cases hk : k < E.length
    · rcases HX.out.2 with h | ⟨b, off, rfl, hlt, hcl⟩
      · subst h; simp at hk
      have hxk : E[k]? = some (E.getD k ed0) := by simp [List.getD_eq_getElem?_getD, hk]
      obtain ⟨q0, q1, q2⟩ := rec_cells (hcl k _ hxk)
      rw [show edR.sz = 3 from rfl] at q0 q1 q2
      have i1 : (k : Int) < E.length := by omega
      have HTK := Lib.hid (take_snocB ed0 E k hk)
      clear hcl hxk
      obtain ⟨⟨x0, x1, x2⟩, hx⟩ : ∃ x, x = E.getD k ed0 := ⟨_, rfl⟩
      rw [← hx] at q0 q1 q2 HTK
      simp only at q0 q1 q2
      clear hx
      have hsz : (⟨x2.toArray⟩ : ByteArray).size = x2.length := by show x2.toArray.size = _; simp
      by_cases hl : 20 < x2.length
      · have hl' : 20 < (⟨x2.toArray⟩ : ByteArray).size := by omega
        go_wp2
        go_ret
        exact ⟨rfl, Below.refl _ _⟩
      · have hl' : ¬ 20 < (⟨x2.toArray⟩ : ByteArray).size := by omega
        go_wp2
        go_roundg (gk - 1)
        case measure => have := HG.out; omega
        case rel => exact ⟨k + 1, by have := HG.out; omega, by go_num, (by rw [HTK.out]; intro e he; rcases List.mem_append.1 he with he | he; exact HC.out e he; rw [List.mem_singleton] at he; subst he; simpa using hl), rfl⟩
    · have HCA := Lib.hid (show ∀ e ∈ E, e.2.2.length ≤ 40000 by
        have := HC.out; rw [List.take_of_length_le (by omega)] at this; intro e he; have := this e he; omega)
      have HAP := Lib.hid (HAA.out HCA.out w HX.out)
      clear HAA
      obtain ⟨R1, hR1⟩ : ∃ R, R = (applyL a.data.toList E).1 := ⟨_, rfl⟩
      obtain ⟨R2, hR2⟩ : ∃ R, R = (applyL a.data.toList E).2 := ⟨_, rfl⟩
      rw [← hR1, ← hR2] at HAP HAL
      clear hR1 hR2
      have hsz : (⟨R1.toArray⟩ : ByteArray).size = R1.length := by show R1.toArray.size = _; simp
      go_wp2_with fail
      refine HAP.out.mono ?_
      rintro e w1 ⟨rfl, hb1⟩
      have HB1 := Lib.hid hb1
      have HX1 := Lib.hid (HX.out.below hb1)
      clear hb1 HX
      by_cases he : R2 = 0
      · by_cases hlong : 600 < R1.length
        · have hl' : 600 < (⟨R1.toArray⟩ : ByteArray).size := by omega
          subst he
          go_wp2_with fail
          refine (awake_any _).mono ?_
          rintro e w9 ⟨rfl, hb9⟩
          have HB9 := Lib.hid (HB1.out.trans (hb9.mono HB1.out.size))
          clear hb9
          go_wp2
          go_ret
          exact ⟨rfl, HB9.out⟩
        · have hl' : ¬ 600 < (⟨R1.toArray⟩ : ByteArray).size := by omega
          obtain ⟨c1, c2, c3, c4⟩ := HAL.out he
          obtain ⟨B, hB⟩ : ∃ B : ByteArray, B = ⟨R1.toArray⟩ := ⟨_, rfl⟩
          have hBl : R1 = B.data.toList := by rw [hB]
          have hbs : B.size ≤ 600 := by rw [hB]; omega
          rw [hBl] at c2 c3
          obtain ⟨d1, d2⟩ := dC_text c1 c2
          have HD := Lib.hid (HDA.out B w1 (by omega))
          have hLi := HLA.out B (by omega)
          rw [d1] at HD
          rw [← d2] at c3
          have HL2 := Lib.hid hLi
          have HYL := Lib.hid (show (runesL B.data.toList).length ≤ 600 by
            have h1 := runesL_le B.data.toList
            have h2 : B.data.toList.length = B.size := by simp
            omega)
          have HRB := Lib.hid (fun w => rrunes_any B (by unfold maxLen; omega) (by omega) w)
          have HLE := Lib.hid (show Light E from ⟨by omega, fun e he => ⟨by have := (c4 e he).2; have := HXL.out; omega, HCA.out e he⟩⟩)
          have HCS := Lib.hid (crow_zero (runesL a.data.toList) (runesL B.data.toList))
          rw [← d2] at HCS
          rw [← hB] at hl' ⊢
          subst he
          obtain ⟨D, hD⟩ : ∃ D, D = dE a B := ⟨_, rfl⟩
          rw [← hD] at HD HL2 HCS c3
          have HC3 := Lib.hid c3
          clear hD c1 c2 c3 c4 hB hBl hsz d1 d2 hLi HAL HAP HDA HLA
          go_wp2_with fail
          refine HD.out.mono ?_
          rintro e w2 ⟨p2, c2, rfl, hi2, hb2⟩
          have HI2 := Lib.hid hi2
          have HB2 := Lib.hid (HB1.out.trans (hb2.mono HB1.out.size))
          have HX2 := Lib.hid (HX1.out.below hb2)
          clear hi2 hb2 HX1
          go_wp2_with fail
          refine (HRA.out _).mono ?_
          rintro e w3 ⟨v3, rfl, hr3, hb3⟩
          obtain ⟨p3, c3, rfl, hi3⟩ := runes_in hr3
          have HI3 := Lib.hid hi3
          have HB3 := Lib.hid (HB2.out.trans (hb3.mono HB2.out.size))
          have HX3 := Lib.hid (HX2.out.below hb3)
          have HI2' := Lib.hid (HI2.out.below hb3)
          clear hr3 hi3 hb3 HX2 HI2
          go_wp2_with fail
          refine (HRB.out _).mono ?_
          rintro e w4 ⟨v4, rfl, hr4, hb4⟩
          obtain ⟨p4, c4, rfl, hi4⟩ := runes_in hr4
          have HI4 := Lib.hid hi4
          have HB4 := Lib.hid (HB3.out.trans (hb4.mono HB3.out.size))
          have HX4 := Lib.hid (HX3.out.below hb4)
          have HI2 := Lib.hid (HI2'.out.below hb4)
          have HI3' := Lib.hid (HI3.out.below hb4)
          clear hr4 hi4 hb4 HX3 HI2' HI3
          have HCA1 := Lib.hid (costE_any p2 c2 D w4 HL2.out.1 HI2.out)
          have HCA2 := Lib.hid (fun w5 (hb : Below w4.heap.size w4 w5) => costE_any p cap E w5 HLE.out (HX4.out.below hb))
          have HCA3 := Lib.hid (fun w5 (hb : Below w4.heap.size w4 w5) => costE_any p2 c2 D w5 HL2.out.1 (HI2.out.below hb))
          have HCC := Lib.hid (fun w5 (hb : Below w4.heap.size w4 w5) => costs_any p3 p4 c3 c4 (runesL a.data.toList) (runesL B.data.toList) w5 (by have := HXL.out; omega) (by have := HYL.out; omega) (HI3'.out.below hb) (HI4.out.below hb))
          obtain ⟨X, hX⟩ : ∃ X, X = runesL a.data.toList := ⟨_, rfl⟩
          obtain ⟨Y, hY⟩ : ∃ Y, Y = runesL B.data.toList := ⟨_, rfl⟩
          obtain ⟨cd, hcd⟩ : ∃ c, c = costE D := ⟨_, rfl⟩
          obtain ⟨ce, hce⟩ : ∃ c, c = costE E := ⟨_, rfl⟩
          rw [← hX, ← hY] at HCC HCS
          rw [← hcd] at HCA1 HCA3 HC3 HCS
          rw [← hce] at HCA2 HC3
          rw [← hX, ← hY]
          clear hX hY hcd hce HI4 HI3' HI2 HX4 HRA HRB HXL HYL HL2 HLE HCA
          have hle : cd ≤ ce := HC3.out
          go_wp2_with fail
          refine HCA1.out.mono ?_
          rintro e w5 ⟨rfl, hb5⟩
          have HK5 := Lib.hid hb5
          have HA2 := Lib.hid (HCA2.out _ hb5)
          clear hb5
          go_wp2_with fail
          refine HA2.out.mono ?_
          rintro e w6 ⟨rfl, hb6⟩
          have HK6 := Lib.hid (HK5.out.trans (hb6.mono HK5.out.size))
          have HA3 := Lib.hid (HCA3.out _ HK6.out)
          clear hb6
          go_wp2_with fail
          refine HA3.out.mono ?_
          rintro e w7 ⟨rfl, hb7⟩
          have HK7 := Lib.hid (HK6.out.trans (hb7.mono HK6.out.size))
          have HA4 := Lib.hid (HCC.out _ HK7.out)
          clear hb7
          go_wp2_with fail
          refine HA4.out.mono ?_
          rintro e w8 ⟨go, hs, rfl, hhl, hrow, hcm, hb8⟩
          have HB8 := Lib.hid (HB4.out.trans ((HK7.out.trans (hb8.mono HK7.out.size)).mono HB4.out.size))
          obtain ⟨g, hg0, hgr⟩ := hcm 0 (Nat.le_refl _) (Nat.zero_le _)
          have q0 := hdr_cell (b := go) (o := 0) (k := 0) (by have := hrow.at hg0; simpa using this)
          have q1 := num_at (k := 0) (by unfold crow; simp) hgr
          rw [HCS.out] at q1
          simp only [Nat.zero_add] at q0
          clear hrow hcm hg0 hgr hb8
          have j1 : (0 : Int) < ((X.length + 1 : Nat) : Int) := by omega
          have j2 : (0 : Int) < ((Y.length + 1 : Nat) : Int) := by omega
          have j3 : (cd == cd) = true := by simp
          go_wp2_with fail
          refine (awake_any _).mono ?_
          rintro e w9 ⟨rfl, hb9⟩
          have HB9 := Lib.hid (HB8.out.trans (hb9.mono HB8.out.size))
          clear hb9
          go_wp2
          go_ret
          exact ⟨rfl, HB9.out⟩
      · have g1 : (R2 != 0) = true := by simpa using he
        go_wp2_with fail
        refine (awake_any _).mono ?_
        rintro e w9 ⟨rfl, hb9⟩
        have HB9 := Lib.hid (HB1.out.trans (hb9.mono HB1.out.size))
        clear hb9
        go_wp2
        go_ret
        exact ⟨rfl, HB9.out⟩
theorem myersLeast_walk {H : Type} {enc : TypeId × Value → H} {W : World} {b1 : Nat} {v1 : Value} {d1 : DataW H} {p1 : List MemPlace} (a : ByteArray) (ha : a.size ≤ maxLen)
    (k1 : Value.okWide Try.prog W .any b1 31 v1) (h1 : DataW.Trod enc Try.prog W 0 (fun _ => true) true 31 v1 d1 p1) :
    Calls Try.prog 9 #[.string a, v1] W fun e w' => e = .returned (.bool true) ∧ Below W.heap.size W w' := by
  obtain ⟨xs, p, c, rfl, hc1, hm1, hi1, hn1⟩ := reads_eds h1 (okWide_slice Try.underlying31 k1)
  exact lawLeast_any a ha p c xs W hi1
end Go.Proofs.Ytipoifokcnbfnaa
