/- A copy has nothing to do with the other one. -/
import Derived.Test.YtcgioboiebanpaaQb
namespace Go.Proofs.Ytcgioboiebanpaa
open Go.RowKit Go.Maps Go.WideShapes Go.ChangeShapes Go.Deep
set_option linter.unusedVariables false

theorem light_iff (xs : List AV) (h : lightL xs 20 = true) : xs.length ≤ 20 ∧ ∀ x ∈ xs, x.2.2.2.1.size ≤ 20 := by
  unfold lightL at h
  simp only [Bool.and_eq_true, decide_eq_true_eq, List.all_eq_true] at h
  exact ⟨by omega, h.2⟩
theorem below_all {w w' : World} (h : Below w.heap.size w w') {p : Option Addr} {l : List AV} (hin : actQ.In w p l) : ∀ w2, Below w.heap.size w' w2 → actQ.In w2 p l := fun w2 h2 => hin.below (h.trans h2)
theorem DocP.ownLt {w : World} {d : Nat} {v : Value} {rs : List MR} (h : DocP w d v rs) : ∀ g, v.ownBlock = some g → g < w.heap.size := by
  obtain ⟨zs, h1, h2, h3⟩ := h
  intro g hg
  obtain ⟨_, cur, hc⟩ := row_own h1.row hg
  exact (Array.getElem?_eq_some_iff.1 hc).1
theorem DocP.apart {w w' : World} {d e : Nat} {v u : Value} {rs qs : List MR} (h : DocP w d v rs) (he : DocP w' e u qs) (hl : w.heap.size ≤ e) : Apart d v e u := by
  refine ⟨by have := h.lt; omega, fun g hg hu => ?_⟩
  have h1 := h.ownLt g hg
  have h2 := he.own g hu
  omega
theorem first_small {xs : List AV} (h : xs.length ≤ 20 ∧ ∀ x ∈ xs, x.2.2.2.1.size ≤ 20) : tot (actsM [] xs) ≤ 400 := by
  have := (actsM_facts xs [] (by simp) h.2).2
  simp only [tot, List.map_nil, List.sum_nil] at this
  simp only [tot]
  omega
set_option maxHeartbeats 8000000 in
set_option maxRecDepth 100000 in
theorem lawCopies_any (p q : Option Addr) (c1 c2 : Nat) (xs ys : List AV) (w : World) (hp : actQ.In w p xs) (hq : actQ.In w q ys) : Calls Try.prog 4 #[.slice p xs.length c1, .slice q ys.length c2] w fun e w' => e = .returned (.bool true) ∧ Below w.heap.size w w' := by
  have HP := Lib.hid hp
  have HQ := Lib.hid hq
  clear hp hq
  go_enter Try.func4, Try.ntmps4
  go_wp2_with fail
  refine (light_any p c1 xs 20 w (by decide) (actQ.r HP.out)).mono ?_
  rintro e w1 ⟨rfl, hb⟩
  have HB1 := Lib.hid hb
  clear hb
  cases hlx : lightL xs 20 with
  | false =>
    go_wp2
    go_ret
    exact ⟨rfl, HB1.out⟩
  | true =>
  have HLX := Lib.hid (light_iff xs hlx)
  go_wp2_with fail
  refine (light_any q c2 ys 20 w1 (by decide) (actQ.r (HQ.out.below HB1.out))).mono ?_
  rintro e w2 ⟨rfl, hb⟩
  have HB2 := Lib.hid (HB1.out.trans (hb.mono HB1.out.size))
  clear hb
  cases hly : lightL ys 20 with
  | false =>
    go_wp2
    go_ret
    exact ⟨rfl, HB2.out⟩
  | true =>
  have HLY := Lib.hid (light_iff ys hly)
  clear hlx hly
  obtain ⟨R, hR⟩ : ∃ R, R = actsM [] xs := ⟨_, rfl⟩
  obtain ⟨R2, hR2⟩ : ∃ R2, R2 = actsM R ys := ⟨_, rfl⟩
  have HT := Lib.hid (show tot R ≤ 400 by rw [hR]; exact first_small HLX.out)
  have HTR := Lib.hid (show tot R ≤ 5000 by have := HT.out; omega)
  have HR := Lib.hid hR
  have HR2 := Lib.hid hR2
  clear hR hR2
  go_wp2_with fail
  refine (new_P w2).mono ?_
  rintro e w3 ⟨rfl, hd, hb⟩
  have HB3 := Lib.hid (HB2.out.trans (hb.mono HB2.out.size))
  obtain ⟨d1, hd1⟩ : ∃ d, d = w2.heap.size := ⟨_, rfl⟩
  rw [← hd1] at hd ⊢
  have HD1 := Lib.hid hd
  have HL1 := Lib.hid (show w.heap.size ≤ d1 by rw [hd1]; exact HB2.out.size)
  clear hd hb hd1
  go_wp2_with fail
  refine (new_P w3).mono ?_
  rintro e w4 ⟨rfl, hd, hb⟩
  have HB4 := Lib.hid (HB3.out.trans (hb.mono HB3.out.size))
  have HD14 := Lib.hid (HD1.out.below hb)
  have HAP := Lib.hid (HD1.out.apart hd (Nat.le_refl _))
  obtain ⟨d2, hd2⟩ : ∃ d, d = w3.heap.size := ⟨_, rfl⟩
  rw [← hd2] at hd HAP ⊢
  have HD24 := Lib.hid hd
  have HL2 := Lib.hid (show w.heap.size ≤ d2 by rw [hd2]; exact HB3.out.size)
  clear hd hb hd2
  go_wp2_with fail
  refine (acts_any d1 _ [] p c1 w.heap.size xs w4 HL1.out (below_all HB4.out HP.out) HLX.out.2 (by have := HLX.out.1; simp only [tot, List.map_nil, List.sum_nil]; omega) HD14.out).mono ?_
  rintro e w5 ⟨rfl, v1, hd, hs⟩
  rw [← HR.out] at hd
  have HD15 := Lib.hid hd
  have HB5 := Lib.hid (HB4.out.trans (HD14.out.step hs HL1.out))
  have HO := Lib.hid (HD24.out.other HD14.out HAP.out.symm hs)
  clear hd hs
  go_wp2_with fail
  refine (acts_any d2 _ [] p c1 w.heap.size xs w5 HL2.out (below_all HB5.out HP.out) HLX.out.2 (by have := HLX.out.1; simp only [tot, List.map_nil, List.sum_nil]; omega) HO.out.1).mono ?_
  rintro e w6 ⟨rfl, v2, hd, hs⟩
  rw [← HR.out] at hd
  have HD26 := Lib.hid hd
  have HB6 := Lib.hid (HB5.out.trans (HO.out.1.step hs HL2.out))
  have HO6 := Lib.hid (HD15.out.other HO.out.1 HO.out.2.symm hs)
  clear hd hs
  go_wp2_with fail
  refine (copy_P d1 v1 R w6 HTR.out HO6.out.1).mono ?_
  rintro e w7 ⟨d3, v3, rfl, hd, ha, hl, hb⟩
  have HD37 := Lib.hid hd
  have HD17 := Lib.hid (HO6.out.1.below hb)
  have HD27 := Lib.hid (HD26.out.below hb)
  have HA13 := Lib.hid ha
  have HA23 := Lib.hid (HD26.out.apart hd hl)
  have HA12 := Lib.hid HO6.out.2
  have HL3 := Lib.hid (Nat.le_trans HB6.out.size hl)
  have HB7 := Lib.hid (HB6.out.trans (hb.mono HB6.out.size))
  clear hd ha hl hb
  go_wp2_with fail
  refine (text_P d1 v1 R w7 HTR.out HD17.out).mono ?_
  rintro e w8 ⟨rfl, hb⟩
  have HD18 := Lib.hid (HD17.out.below hb)
  have HD28 := Lib.hid (HD27.out.below hb)
  have HD38 := Lib.hid (HD37.out.below hb)
  have HB8 := Lib.hid (HB7.out.trans (hb.mono HB7.out.size))
  clear hb
  go_wp2_with fail
  refine (size_P d1 v1 R w8 HD18.out).mono ?_
  rintro e w9 ⟨rfl, hb⟩
  have HD19 := Lib.hid (HD18.out.below hb)
  have HD29 := Lib.hid (HD28.out.below hb)
  have HD39 := Lib.hid (HD38.out.below hb)
  have HB9 := Lib.hid (HB8.out.trans (hb.mono HB8.out.size))
  clear hb
  go_wp2_with fail
  refine (text_P d3 v3 R w9 HTR.out HD39.out).mono ?_
  rintro e w10 ⟨rfl, hb⟩
  have HD110 := Lib.hid (HD19.out.below hb)
  have HD210 := Lib.hid (HD29.out.below hb)
  have HD310 := Lib.hid (HD39.out.below hb)
  have HB10 := Lib.hid (HB9.out.trans (hb.mono HB9.out.size))
  clear hb
  go_wp2_with fail
  refine (size_P d3 v3 R w10 HD310.out).mono ?_
  rintro e w11 ⟨rfl, hb⟩
  have HD111 := Lib.hid (HD110.out.below hb)
  have HD211 := Lib.hid (HD210.out.below hb)
  have HD311 := Lib.hid (HD310.out.below hb)
  have HB11 := Lib.hid (HB10.out.trans (hb.mono HB10.out.size))
  clear hb
  go_wp2_with fail
  refine (acts_any d3 v3 R q c2 w.heap.size ys w11 HL3.out (below_all HB11.out HQ.out) HLY.out.2 (by have := HLY.out.1; have := HT.out; omega) HD311.out).mono ?_
  rintro e w12 ⟨rfl, v4, hd, hs⟩
  rw [← HR2.out] at hd
  have HD312 := Lib.hid hd
  have HB12 := Lib.hid (HB11.out.trans (HD311.out.step hs HL3.out))
  have HO112 := Lib.hid (HD111.out.other HD311.out HA13.out hs)
  have HO212 := Lib.hid (HD211.out.other HD311.out HA23.out hs)
  have HD112 := Lib.hid HO112.out.1
  have HA13 := Lib.hid HO112.out.2
  have HD212 := Lib.hid HO212.out.1
  have HA23 := Lib.hid HO212.out.2
  clear hd hs
  go_wp2_with fail
  refine (text_P d1 v1 R w12 HTR.out HD112.out).mono ?_
  rintro e w13 ⟨rfl, hb⟩
  have HD113 := Lib.hid (HD112.out.below hb)
  have HD213 := Lib.hid (HD212.out.below hb)
  have HD313 := Lib.hid (HD312.out.below hb)
  have HB13 := Lib.hid (HB12.out.trans (hb.mono HB12.out.size))
  clear hb
  go_wp2_with fail
  refine (size_P d1 v1 R w13 HD113.out).mono ?_
  rintro e w14 ⟨rfl, hb⟩
  have HD114 := Lib.hid (HD113.out.below hb)
  have HD214 := Lib.hid (HD213.out.below hb)
  have HD314 := Lib.hid (HD313.out.below hb)
  have HB14 := Lib.hid (HB13.out.trans (hb.mono HB13.out.size))
  clear hb
  go_wp2_with fail
  refine (len_P d1 v1 R w14 HD114.out).mono ?_
  rintro e w15 ⟨rfl, hb⟩
  have HD115 := Lib.hid (HD114.out.below hb)
  have HD215 := Lib.hid (HD214.out.below hb)
  have HD315 := Lib.hid (HD314.out.below hb)
  have HB15 := Lib.hid (HB14.out.trans (hb.mono HB14.out.size))
  clear hb
  go_wp2_with fail
  refine (len_P d2 v2 R w15 HD215.out).mono ?_
  rintro e w16 ⟨rfl, hb⟩
  have HD116 := Lib.hid (HD115.out.below hb)
  have HD216 := Lib.hid (HD215.out.below hb)
  have HD316 := Lib.hid (HD315.out.below hb)
  have HB16 := Lib.hid (HB15.out.trans (hb.mono HB15.out.size))
  clear hb
  go_wp2_with fail
  refine (acts_any d1 v1 R q c2 w.heap.size ys w16 HL1.out (below_all HB16.out HQ.out) HLY.out.2 (by have := HLY.out.1; have := HT.out; omega) HD116.out).mono ?_
  rintro e w17 ⟨rfl, v5, hd, hs⟩
  rw [← HR2.out] at hd
  have HD117 := Lib.hid hd
  have HB17 := Lib.hid (HB16.out.trans (HD116.out.step hs HL1.out))
  have HO217 := Lib.hid (HD216.out.other HD116.out HA12.out.symm hs)
  have HO317 := Lib.hid (HD316.out.other HD116.out HA13.out.symm hs)
  have HD217 := Lib.hid HO217.out.1
  have HA12 := Lib.hid HO217.out.2.symm
  have HD317 := Lib.hid HO317.out.1
  have HA13 := Lib.hid HO317.out.2.symm
  clear hd hs
  have HTR2 := Lib.hid (show tot R2 ≤ 5000 by have h1 := (actsM_facts ys R HD27.out.idx HLY.out.2).2; rw [← HR2.out] at h1; have := HLY.out.1; have := HT.out; omega)
  go_wp2_with fail
  refine (text_P d1 v5 R2 w17 HTR2.out HD117.out).mono ?_
  rintro e w18 ⟨rfl, hb⟩
  have HD118 := Lib.hid (HD117.out.below hb)
  have HD218 := Lib.hid (HD217.out.below hb)
  have HD318 := Lib.hid (HD317.out.below hb)
  have HB18 := Lib.hid (HB17.out.trans (hb.mono HB17.out.size))
  clear hb
  go_wp2_with fail
  refine (text_P d3 v4 R2 w18 HTR2.out HD318.out).mono ?_
  rintro e w19 ⟨rfl, hb⟩
  have HD119 := Lib.hid (HD118.out.below hb)
  have HD219 := Lib.hid (HD218.out.below hb)
  have HD319 := Lib.hid (HD318.out.below hb)
  have HB19 := Lib.hid (HB18.out.trans (hb.mono HB18.out.size))
  clear hb
  go_wp2_with fail
  refine (size_P d1 v5 R2 w19 HD119.out).mono ?_
  rintro e w20 ⟨rfl, hb⟩
  have HD120 := Lib.hid (HD119.out.below hb)
  have HD220 := Lib.hid (HD219.out.below hb)
  have HD320 := Lib.hid (HD319.out.below hb)
  have HB20 := Lib.hid (HB19.out.trans (hb.mono HB19.out.size))
  clear hb
  go_wp2_with fail
  refine (size_P d3 v4 R2 w20 HD320.out).mono ?_
  rintro e w21 ⟨rfl, hb⟩
  have HD121 := Lib.hid (HD120.out.below hb)
  have HD221 := Lib.hid (HD220.out.below hb)
  have HD321 := Lib.hid (HD320.out.below hb)
  have HB21 := Lib.hid (HB20.out.trans (hb.mono HB20.out.size))
  clear hb
  go_wp2_with fail
  refine (text_P d2 v2 R w21 HTR.out HD221.out).mono ?_
  rintro e w22 ⟨rfl, hb⟩
  have HD122 := Lib.hid (HD121.out.below hb)
  have HD222 := Lib.hid (HD221.out.below hb)
  have HD322 := Lib.hid (HD321.out.below hb)
  have HB22 := Lib.hid (HB21.out.trans (hb.mono HB21.out.size))
  clear hb
  go_wp2_with fail
  refine (awake_any w22).mono ?_
  rintro e w23 ⟨rfl, hb⟩
  have HB23 := Lib.hid (HB22.out.trans (hb.mono HB22.out.size))
  clear hb
  go_wp2
  go_ret
  exact ⟨rfl, HB23.out⟩
set_option maxRecDepth 100000 in
theorem blockCopies_walk {H : Type} {enc : TypeId × Value → H} {W : World} {b0 : Nat} {v1 v2 : Value} {d1 d2 : DataW H} {p1 p2 : List MemPlace}
    (k1 : Value.okWide Try.prog W .any b0 22 v1) (h1 : DataW.Trod enc Try.prog W 0 (fun _ => true) true 22 v1 d1 p1) (k2 : Value.okWide Try.prog W .any b0 22 v2) (h2 : DataW.Trod enc Try.prog W 0 (fun _ => true) true 22 v2 d2 p2) :
    Calls Try.prog 4 #[v1, v2] W fun e w' => e = .returned (.bool true) ∧ Below W.heap.size W w' := by
  obtain ⟨xs, p, c, rfl, _, _, hi, _⟩ := reads_acts h1 (okWide_slice Try.underlying22 k1)
  obtain ⟨ys, q, c', rfl, _, _, hj, _⟩ := reads_acts h2 (okWide_slice Try.underlying22 k2)
  exact lawCopies_any p q c c' xs ys W hi hj
end Go.Proofs.Ytcgioboiebanpaa
