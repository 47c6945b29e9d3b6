/- The walk of Diff. -/
import Derived.Test.YtipoifokcnbfnaaKg
import Derived.Test.YtipoifokcnbfnaaPd
namespace Go.Proofs.Ytipoifokcnbfnaa
open Go.RowKit
set_option linter.unusedVariables false

theorem chkE_cases (l : List UInt8) : chkE l = 0 ∨ chkE l = 5 := by unfold chkE; split <;> simp
set_option maxHeartbeats 1000000 in
set_option maxRecDepth 100000 in
theorem diff_bad (a b : ByteArray) (ha : a.size ≤ 4096) (hb : b.size ≤ 4096) (w : World) (h : chkE a.data.toList = 5 ∨ chkE b.data.toList = 5) :
    Calls Try.prog 13 #[.string a, .string b] w fun e w' => e = .returned (.tuple #[.slice none 0 0, .int .i64 5]) ∧ Below w.heap.size w w' := by
  have H1 := Lib.hid (runes_any a (by unfold maxLen; omega) (by omega) w)
  have H2 := Lib.hid (fun w' => runes_any b (by unfold maxLen; omega) (by omega) w')
  have HC := Lib.hid h
  have HA := Lib.hid (chkE_cases a.data.toList)
  have HBB := Lib.hid (chkE_cases b.data.toList)
  obtain ⟨ea, hea⟩ : ∃ ea, ea = chkE a.data.toList := ⟨_, rfl⟩
  obtain ⟨eb, heb⟩ : ∃ eb, eb = chkE b.data.toList := ⟨_, rfl⟩
  rw [← hea] at HC HA
  rw [← heb] at HC HBB
  have HEA := Lib.hid hea
  have HEB := Lib.hid heb
  clear h hea heb
  go_enter Try.func13, Try.ntmps13
  go_wp2_with fail
  refine H1.out.mono ?_
  rintro e w1 ⟨v1, rfl, hr1, hb1⟩
  rw [← HEA.out]
  have HB1 := Lib.hid hb1
  clear hr1 hb1
  go_wp2_with fail
  refine (H2.out w1).mono ?_
  rintro e w2 ⟨v2, rfl, hr2, hb2⟩
  rw [← HEB.out]
  have HB2 := Lib.hid (HB1.out.trans (hb2.mono HB1.out.size))
  clear hr2 hb2
  rcases HC.out with h | h
  · have g1 : (ea != 0) = true := by rw [h]; decide
    clear h
    go_wp2
    go_ret2
    exact ⟨rfl, HB2.out⟩
  · have g2 : (eb != 0) = true := by rw [h]; decide
    clear h
    rcases HA.out with h | h
    · have g1 : (ea != 0) = false := by rw [h]; decide
      clear h
      go_wp2
      go_ret2
      exact ⟨rfl, HB2.out⟩
    · have g1 : (ea != 0) = true := by rw [h]; decide
      clear h
      go_wp2
      go_ret2
      exact ⟨rfl, HB2.out⟩

set_option maxHeartbeats 8000000 in
set_option maxRecDepth 100000 in
theorem diff_any (a b : ByteArray) (ha : a.size ≤ 4096) (hb : b.size ≤ 4096) (w : World) (h1 : chkE a.data.toList = 0) (h2 : chkE b.data.toList = 0) :
    Calls Try.prog 13 #[.string a, .string b] w fun e w' => ∃ v, e = .returned (.tuple #[v, .int .i64 0]) ∧ edR.row 42 w.heap.size (edits (runesL a.data.toList) (runesL b.data.toList)) v w' ∧ Below w.heap.size w w' := by
  have H1 := Lib.hid (runes_any a (by unfold maxLen; omega) (by omega) w)
  have H2 := Lib.hid (fun w' => runes_any b (by unfold maxLen; omega) (by omega) w')
  have HEA := Lib.hid h1
  have HEB := Lib.hid h2
  have hla := runesL_le a.data.toList
  have hlb := runesL_le b.data.toList
  have hga := runesL_good b.data.toList
  have hsa : a.data.toList.length = a.size := by simp
  have hsb : b.data.toList.length = b.size := by simp
  have HIN1 := Lib.hid (fun (w w' : World) (v : Value) (h : w'.ownsRow w.heap.size 21 1 v (runesL a.data.toList).length ((runesL a.data.toList).map (Value.int .i32))) => runes_in h)
  have HIN2 := Lib.hid (fun (w w' : World) (v : Value) (h : w'.ownsRow w.heap.size 21 1 v (runesL b.data.toList).length ((runesL b.data.toList).map (Value.int .i32))) => runes_in h)
  unfold RunesPost at H1 H2
  obtain ⟨x, hx⟩ : ∃ x, x = runesL a.data.toList := ⟨_, rfl⟩
  obtain ⟨y, hy⟩ : ∃ y, y = runesL b.data.toList := ⟨_, rfl⟩
  rw [← hx] at hla H1 HIN1 ⊢
  rw [← hy] at hlb hga H2 HIN2 ⊢
  have hxl : x.length ≤ 4096 := by omega
  have hyl : y.length ≤ 4096 := by omega
  have HGY := Lib.hid hga
  have HED := Lib.hid (show edits x y = edGo y (script x y) 0 3 [] from rfl)
  obtain ⟨R, hR⟩ : ∃ R, R = edits x y := ⟨_, rfl⟩
  rw [← hR] at HED ⊢
  clear hR h1 h2 hx hy hla hlb hga hsa hsb
  go_enter Try.func13, Try.ntmps13
  go_wp2_with fail
  refine H1.out.mono ?_
  rintro e w1 ⟨v1, rfl, hr1, hb1⟩
  rw [HEA.out]
  obtain ⟨p1, c1, rfl, hin1⟩ := HIN1.out _ _ _ hr1
  have HB1 := Lib.hid hb1
  have HX := Lib.hid hin1
  clear hr1 hb1 hin1
  go_wp2_with fail
  refine (H2.out w1).mono ?_
  rintro e w2 ⟨v2, rfl, hr2, hb2⟩
  rw [HEB.out]
  obtain ⟨p2, c2, rfl, hin2⟩ := HIN2.out _ _ _ hr2
  have HB2 := Lib.hid (HB1.out.trans (hb2.mono HB1.out.size))
  have HX2 := Lib.hid (HX.out.below hb2)
  have HY2 := Lib.hid hin2
  have HMV := Lib.hid (moves_any p1 p2 c1 c2 x y w2 hxl hyl HX2.out HY2.out)
  clear hr2 hb2 hin2 H1 H2 HIN1 HIN2 HX
  go_wp2_with fail
  refine HMV.out.mono ?_
  rintro e w3 ⟨v3, rfl, hr3, hb3⟩
  obtain ⟨p3, c3, rfl, _, _, hin3, _⟩ := hr3.sl
  have HB3 := Lib.hid (HB2.out.trans (hb3.mono HB2.out.size))
  have HY3 := Lib.hid (HY2.out.below hb3)
  have HM3 := Lib.hid hin3
  have HSC := Lib.hid (show script x y = SC x y 0 0 by unfold SC; simp)
  have hml := script_len _ x y rfl
  obtain ⟨M, hM⟩ : ∃ M, M = script x y := ⟨_, rfl⟩
  rw [← hM] at HM3 HED HSC hml ⊢
  have hMl : M.length ≤ 8192 := by omega
  clear hr3 hb3 hin3 hM HMV hml HX2 HY2
  go_wp2_with fail
  go_loopg [13, 14, 15, 48] M.length (fun g v13 v14 v15 v48 wr => ∃ (n i j : Nat) (last : Int) (E : List Ed), g + n = M.length ∧ v48 = .int .i64 n ∧ v14 = .int .u8 last ∧ v15 = .int .i64 j ∧ i ≤ x.length ∧ j ≤ y.length ∧
    M.drop n = SC x y i j ∧ edGo y (M.drop n) j last E = R ∧ (E.length = 0 ↔ n = 0) ∧ EdB n E ∧ edR.row 42 w3.heap.size E v13 wr ∧ Below w3.heap.size w3 wr)
  case atStart => exact ⟨0, 0, 0, 3, [], by omega, rfl, rfl, rfl, by omega, by omega, by rw [List.drop_zero]; exact HSC.out, by rw [List.drop_zero]; exact HED.out.symm, by simp, ⟨by simp, by simp⟩, Rec.row.nil, Below.refl _ _⟩
  case round =>
    obtain ⟨n, i, j, last, E, hg, rfl, rfl, rfl, hi, hj, hdr, hgo, hen, hbd, hrow, hbw⟩ := hrel
    have HG := Lib.hid hg
    have HDR := Lib.hid hdr
    have HGO := Lib.hid hgo
    have HEN := Lib.hid hen
    have HBD := Lib.hid hbd
    have HROW := Lib.hid hrow
    have HB := Lib.hid hbw
    clear hg hdr hgo hen hbd hrow hbw
    by_cases hn : n < M.length
    · have hnz : (n : Int) < M.length := by omega
      obtain ⟨m, hm⟩ : ∃ m, m = M.getD n 0 := ⟨_, rfl⟩
      have hdc : M.drop n = m :: M.drop (n + 1) := by rw [hm]; exact drop_cons M n hn
      have HCS := Lib.hid (SC_cons x y i j hi hj m (M.drop (n + 1)) (by rw [← hdc]; exact HDR.out.symm))
      have HGN := Lib.hid (show edGo y (M.drop (n + 1)) (jNext m j) m (lastPut y m j (begun m last E)) = R by rw [← HGO.out, hdc]; rfl)
      rcases (HM3.out.below HB.out).2 with h0 | ⟨bm, om, rfl, hlm, hcm⟩
      · rw [h0] at hn; simp at hn
      have e1 := num_cell (hcm n _ (show M[n]? = some (M.getD n 0) by simp [List.getD_eq_getElem?_getD, hn]))
      rw [← hm] at e1
      clear hcm hm hdc
      go_upto_region 14 with fail
      clear e1
      obtain ⟨B, hB⟩ : ∃ B, B = isNew m last E := ⟨_, rfl⟩
      have HBE := Lib.hid hB
      clear hB
      go_cut [62] (fun v62 wx => v62 = .bool B ∧ wr = wx)
      case first =>
        by_cases hn0 : n = 0
        · have HBT := Lib.hid (show B = true by rw [HBE.out]; unfold isNew; rw [decide_eq_true (HEN.out.2 hn0)]; rfl)
          have g1 : ((n : Int) == 0) = true := beq_iff_eq.2 (by omega)
          clear hn0
          go_wp2_with fail
          go_meet
          exact ⟨by rw [HBT.out], rfl⟩
        · have HBT := Lib.hid (show B = (m == 1 && last != 1) by rw [HBE.out]; unfold isNew; rw [decide_eq_false (fun h => hn0 (HEN.out.1 h))]; rfl)
          have g1 : ((n : Int) == 0) = false := beq_eq_false_iff_ne.2 (by omega)
          clear hn0
          cases hm1 : (m == 1) with
          | true =>
            have HM1 := Lib.hid hm1
            clear hm1
            have HBT2 := Lib.hid (show (last != 1) = B by rw [HBT.out, HM1.out]; rfl)
            have g2 := HM1.out
            have g3 := HBT2.out
            go_wp2_with fail
            go_meet
            exact ⟨rfl, rfl⟩
          | false =>
            have HM1 := Lib.hid hm1
            have HBT2 := Lib.hid (show B = false by rw [HBT.out, HM1.out]; rfl)
            go_wp2_with fail
            go_meet
            exact ⟨by rw [HBT2.out], rfl⟩
      case rest =>
      obtain ⟨rfl, rfl⟩ := hcut
      go_upto_if 62 with fail
      go_cut [13] (fun v13 wx => edR.row 42 w3.heap.size (begun m last E) v13 wx ∧ Below w3.heap.size w3 wx)
      case first =>
        cases B with
        | false =>
          have HN := Lib.hid (show begun m last E = E by unfold begun; rw [← HBE.out, if_neg (by decide)])
          go_wp2_with fail
          go_meet
          exact ⟨by rw [HN.out]; exact HROW.out, HB.out⟩
        | true =>
          have HN := Lib.hid (show begun m last E = E ++ [ed0] by unfold begun; rw [← HBE.out, if_pos rfl])
          have hbn := (Below.refl wr.heap.size wr).alloc (Nat.le_refl _) (.cells #[.int .i64 0, .int .i64 0, .string ⟨#[]⟩] 42)
          have HRN := Lib.hid (HROW.out.below hbn)
          have HBN := Lib.hid (HB.out.trans (hbn.mono HB.out.size))
          have HNEW := Lib.hid (show edR.In (wr.alloc (.cells #[.int .i64 0, .int .i64 0, .string ⟨#[]⟩] 42)) (some ⟨wr.heap.size, 0, none⟩) [ed0] from Rec.In.one wr 42 ed0 trivial)
          have HCN := Lib.hid (show E.length + [ed0].length ≤ 100000000 by have := HBD.out.1; simp only [List.length_cons, List.length_nil]; omega)
          obtain ⟨E1, hE1⟩ : ∃ E1, E1 = E ++ [ed0] := ⟨_, rfl⟩
          have HE1 := Lib.hid hE1
          clear hbn hE1
          go_wp2_with (at_builtin; refine Rec.wpList_app ed31 rfl _ _ rfl w3.heap.size _ E [ed0] E1 HE1.out rfl HRN.out _ 1 rfl HNEW.out (fun e => by cases e) HCN.out HBN.out.size ?_)
          rintro v' w7 ho7 _ hb7
          have HO7 := Lib.hid ho7
          have HB7 := Lib.hid (HBN.out.trans hb7)
          clear ho7 hb7
          go_wp2_with fail
          go_meet
          exact ⟨by rw [HN.out, ← HE1.out]; exact HO7.out, HB7.out⟩
      case rest =>
      obtain ⟨hrF, hbF⟩ := hcut
      have hFl := begun_len m last E
      have HNXT := Lib.hid (show EdB (n + 1) (lastPut y m j (begun m last E)) from HBD.out.step y m last j)
      have HFB := Lib.hid (HBD.out.start m last).2
      obtain ⟨F, hF⟩ : ∃ F, F = begun m last E := ⟨_, rfl⟩
      rw [← hF] at hrF hFl HNXT HGN HFB
      obtain ⟨k, hk⟩ : ∃ k, F.length = k + 1 := ⟨F.length - 1, by omega⟩
      have hkF : k < F.length := by omega
      obtain ⟨gf, cf, rfl, _, _, _, hgf⟩ := hrF.some (by intro h0; rw [h0] at hk; simp at hk)
      obtain ⟨e0, he0⟩ : ∃ e0, e0 = F.getD k ed0 := ⟨_, rfl⟩
      have hFk : F[k]? = some e0 := by rw [he0]; simp [List.getD_eq_getElem?_getD, hkF]
      have HLP := Lib.hid (show lastPut y m j F = F.set k (edPut y m j e0) by unfold lastPut; rw [hk, he0]; rfl)
      have hfb := HFB.out e0 (List.mem_of_getElem? hFk)
      have HFL := Lib.hid (show F.length ≤ n + 1 by have := HNXT.out.1; rw [lastPut_len] at this; exact this)
      have hkn : k ≤ n := by have := HFL.out; omega
      obtain ⟨ec0, ec1, ec2⟩ := ed_cells hFk hrF
      have hfr := row_free hrF
      have HRF := Lib.hid hrF
      have HBF := Lib.hid hbF
      have HFK := Lib.hid hFk
      have HKL := Lib.hid hk
      have q1 : IntKind.i64.wrap ((F.length : Int) - 1) = (k : Int) := by rw [IntWalk.i64_in _ (by omega)]; omega
      have q2 : (k : Int) < F.length := by omega
      clear hrF hbF hF hFl hk hFk he0 HROW HB HBD HFB
      rcases HCS.out with ⟨hm1, hia, hjb, hms⟩ | ⟨hm2, hia, hms⟩ | ⟨hm3, hjb, hms⟩
      · subst hm1
        have q3 : IntKind.i64.wrap (e0.1 + 1) = e0.1 + 1 := IntWalk.i64_in _ (by omega)
        have HS := Lib.hid (ed_set0 (e0.1 + 1) HFK.out HRF.out)
        have HMS := Lib.hid hms
        have HLP2 := Lib.hid (show lastPut y 1 j F = F.set k (e0.1 + 1, e0.2.1, e0.2.2) from HLP.out)
        have z := hfr (k * 3)
        clear hms hfr ec1 ec2
        go_wp2
        go_roundg (gk - 1)
        case measure => have := HG.out; omega
        case rel => exact ⟨n + 1, i + 1, j + 1, 1, _, by have := HG.out; omega, by go_num, rfl, by go_num, hia, hjb, HMS.out, HGN.out, by rw [lastPut_len]; have := HKL.out; omega, HNXT.out, by rw [HLP2.out]; have := HS.out.1; rw [← HKL.out] at *; simpa using this, HBF.out.trans HS.out.2⟩
      · subst hm2
        have q3 : IntKind.i64.wrap (e0.2.1 + 1) = e0.2.1 + 1 := IntWalk.i64_in _ (by omega)
        have HS := Lib.hid (ed_set1 (e0.2.1 + 1) HFK.out HRF.out)
        have HMS := Lib.hid hms
        have HLP2 := Lib.hid (show lastPut y 2 j F = F.set k (e0.1, e0.2.1 + 1, e0.2.2) from HLP.out)
        have z := hfr (k * 3 + 1)
        clear hms hfr ec0 ec2
        go_wp2
        go_roundg (gk - 1)
        case measure => have := HG.out; omega
        case rel => exact ⟨n + 1, i + 1, j, 2, _, by have := HG.out; omega, by go_num, rfl, rfl, hia, hj, HMS.out, HGN.out, by rw [lastPut_len]; have := HKL.out; omega, HNXT.out, by rw [HLP2.out]; exact HS.out.1, HBF.out.trans HS.out.2⟩
      · subst hm3
        have HMS := Lib.hid hms
        have hjz : (j : Int) < y.length := by omega
        rcases (HY3.out.below HBF.out).2 with h0 | ⟨by', oy, rfl, hly, hcy⟩
        · rw [h0] at hjb; simp at hjb
        have e2 := num_cell (hcy j _ (show y[j]? = some (y.getD j 0) by simp [List.getD_eq_getElem?_getD, hjb]))
        have hmay : may (y.getD j 0) = true := HGY.out _ (by rw [List.getD_eq_getElem?_getD, List.getElem?_eq_getElem hjb]; exact List.getElem_mem hjb)
        have HLP2 := Lib.hid (show lastPut y 3 j F = F.set k (e0.1, e0.2.1, e0.2.2 ++ enc (y.getD j 0)) from HLP.out)
        obtain ⟨r, hr⟩ : ∃ r, r = y.getD j 0 := ⟨_, rfl⟩
        rw [← hr] at e2 hmay HLP2
        have hcv := rune_text r hmay
        have HS := Lib.hid (fun W (h : edR.row 42 w3.heap.size F (.slice (some ⟨gf, 0, none⟩) F.length cf) W) => ed_set2 (e0.2.2 ++ enc r) HFK.out h)
        obtain ⟨es, hes⟩ : ∃ es, es = enc r := ⟨_, rfl⟩
        rw [← hes] at HLP2 hcv HS
        have hesl : es.length ≤ 4 := by rw [hes]; exact (enc_ne r).2
        have hadd := add_bytes e0.2.2 es (by omega)
        clear hesl hms hcy hr hes hfr ec0 ec1 hmay
        go_upto_region 24 with fail
        go_still_tail 12, (by kernel_rfl)
        change wpList _ _ _ _ _ wc.drew
        have HRD := Lib.hid (HRF.out.below (Below.refl wc.heap.size wc).drew)
        have HBD2 := Lib.hid (HBF.out.trans ((Below.refl wc.heap.size wc).drew.mono HBF.out.size))
        clear ec2 e2 hcv hadd
        generalize wc.drew = W9 at *
        have ec2 := (ed_cells HFK.out HRD.out).2.2
        have z := row_free HRD.out (k * 3 + 2)
        go_wp2
        go_roundg (gk - 1)
        case measure => have := HG.out; omega
        case rel => exact ⟨n + 1, i, j + 1, 3, _, by have := HG.out; omega, by go_num, rfl, by go_num, hi, hjb, HMS.out, HGN.out, by rw [lastPut_len]; have := HKL.out; omega, HNXT.out, by rw [HLP2.out]; exact (HS.out W9 HRD.out).1, HBD2.out.trans (HS.out W9 HRD.out).2⟩
    · have HE := Lib.hid (show E = R by
        have h1 := HGO.out
        rw [List.drop_of_length_le (by omega)] at h1
        exact h1)
      go_wp2
      go_ret2
      exact ⟨_, rfl, by rw [← HE.out]; exact HROW.out.base HB3.out.size, HB3.out.trans (HB.out.mono HB3.out.size)⟩
end Go.Proofs.Ytipoifokcnbfnaa
