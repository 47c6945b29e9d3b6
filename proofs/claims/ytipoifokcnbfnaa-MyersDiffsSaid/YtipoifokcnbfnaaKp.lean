/- The walk of the reference's Diff. -/
import Derived.Test.YtipoifokcnbfnaaKj
import Derived.Test.YtipoifokcnbfnaaKo
namespace Go.Proofs.Ytipoifokcnbfnaa
open Go.RowKit
set_option linter.unusedVariables false

theorem cell_other {w w' : World} {b o : Nat} (h : w'.heap[b]? = w.heap[b]?) : w'.cell? ⟨b, o, none⟩ = w.cell? ⟨b, o, none⟩ := World.cell?_of_block (w := w) h
/-- A rune's bytes in a new block. -/
def SB (K : Nat) (r : Int) : Value → World → Prop := fun v w => ∃ gx, v = .slice (some ⟨gx, 0, none⟩) (encV r).length (encV r).length ∧ K ≤ gx ∧ w.heap[gx]? = some (Obj.cells ((encV r).map (Value.int .u8)).toArray 5 (0, 0))
theorem SB_st (K : Nat) (r : Int) : ∀ v w w', SB K r v w → AbK K w w' → SB K r v w' := by
  rintro v w w' ⟨gx, h1, h2, h3⟩ hk
  exact ⟨gx, h1, h2, (hk.2 gx h2 (Array.getElem?_eq_some_iff.1 h3).1).trans h3⟩
set_option maxHeartbeats 1000000 in
set_option maxRecDepth 100000 in
theorem rdiff_bad (a b : ByteArray) (ha : a.size ≤ 4096) (hb : b.size ≤ 4096) (w : World) (h : chkE a.data.toList = 5 ∨ chkE b.data.toList = 5) :
    Calls Try.prog 14 #[.string a, .string b] w fun e w' => e = .returned (.tuple #[.slice none 0 0, .int .i64 5]) ∧ Below w.heap.size w w' := by
  have H1 := Lib.hid (rrunes_any a (by unfold maxLen; omega) (by omega) w)
  have H2 := Lib.hid (fun w' => rrunes_any b (by unfold maxLen; omega) (by omega) w')
  have HC := Lib.hid h
  have HA := Lib.hid (chkE_cases a.data.toList)
  have HBB := Lib.hid (chkE_cases b.data.toList)
  obtain ⟨ea, hea⟩ : ∃ ea, ea = chkE a.data.toList := ⟨_, rfl⟩
  obtain ⟨eb, heb⟩ : ∃ eb, eb = chkE b.data.toList := ⟨_, rfl⟩
  rw [← hea] at HC HA
  rw [← heb] at HC HBB
  have HEA := Lib.hid hea
  have HEB := Lib.hid heb
  clear h hea heb
  go_enter Try.func14, Try.ntmps14
  go_wp2_with fail
  refine H1.out.mono ?_
  rintro e w1 ⟨v1, rfl, hr1, hb1⟩
  rw [← HEA.out]
  have HB1 := Lib.hid hb1
  clear hr1 hb1
  go_wp2_with fail
  refine (H2.out w1).mono ?_
  rintro e w2 ⟨v2, rfl, hr2, hb2⟩
  rw [← HEB.out]
  have HB2 := Lib.hid (HB1.out.trans (hb2.mono HB1.out.size))
  clear hr2 hb2
  rcases HC.out with h | h
  · have g1 : (ea != 0) = true := by rw [h]; decide
    clear h
    go_wp2
    go_ret2
    exact ⟨rfl, HB2.out⟩
  · have g2 : (eb != 0) = true := by rw [h]; decide
    clear h
    rcases HA.out with h | h
    · have g1 : (ea != 0) = false := by rw [h]; decide
      clear h
      go_wp2
      go_ret2
      exact ⟨rfl, HB2.out⟩
    · have g1 : (ea != 0) = true := by rw [h]; decide
      clear h
      go_wp2
      go_ret2
      exact ⟨rfl, HB2.out⟩

set_option maxHeartbeats 8000000 in
set_option maxRecDepth 100000 in
theorem rdiff_any (a b : ByteArray) (ha : a.size ≤ 4096) (hb : b.size ≤ 4096) (w : World) (h1 : chkE a.data.toList = 0) (h2 : chkE b.data.toList = 0) :
    Calls Try.prog 14 #[.string a, .string b] w fun e w' => ∃ v, e = .returned (.tuple #[v, .int .i64 0]) ∧ edR.row 42 w.heap.size (edits (runesL a.data.toList) (runesL b.data.toList)) v w' ∧ Below w.heap.size w w' := by
  have H1 := Lib.hid (rrunes_any a (by unfold maxLen; omega) (by omega) w)
  have H2 := Lib.hid (fun w' => rrunes_any b (by unfold maxLen; omega) (by omega) w')
  have HEA := Lib.hid h1
  have HEB := Lib.hid h2
  have hla := runesL_le a.data.toList
  have hlb := runesL_le b.data.toList
  have hga := runesL_good b.data.toList
  have hsa : a.data.toList.length = a.size := by simp
  have hsb : b.data.toList.length = b.size := by simp
  have HIN1 := Lib.hid (fun (w w' : World) (v : Value) (h : w'.ownsRow w.heap.size 21 1 v (runesL a.data.toList).length ((runesL a.data.toList).map (Value.int .i32))) => runes_in h)
  have HIN2 := Lib.hid (fun (w w' : World) (v : Value) (h : w'.ownsRow w.heap.size 21 1 v (runesL b.data.toList).length ((runesL b.data.toList).map (Value.int .i32))) => runes_in h)
  unfold RunesPost at H1 H2
  obtain ⟨x, hx⟩ : ∃ x, x = runesL a.data.toList := ⟨_, rfl⟩
  obtain ⟨y, hy⟩ : ∃ y, y = runesL b.data.toList := ⟨_, rfl⟩
  rw [← hx] at hla H1 HIN1 ⊢
  rw [← hy] at hlb hga H2 HIN2 ⊢
  have hxl : x.length ≤ 4096 := by omega
  have hyl : y.length ≤ 4096 := by omega
  have HGY := Lib.hid hga
  have HED := Lib.hid (show edits x y = edGo y (script x y) 0 3 [] from rfl)
  obtain ⟨R, hR⟩ : ∃ R, R = edits x y := ⟨_, rfl⟩
  rw [← hR] at HED ⊢
  clear hR h1 h2 hx hy hla hlb hga hsa hsb
  go_enter Try.func14, Try.ntmps14
  go_wp2_with fail
  refine H1.out.mono ?_
  rintro e w1 ⟨v1, rfl, hr1, hb1⟩
  rw [HEA.out]
  obtain ⟨p1, c1, rfl, hin1⟩ := HIN1.out _ _ _ hr1
  have HB1 := Lib.hid hb1
  have HX := Lib.hid hin1
  clear hr1 hb1 hin1
  go_wp2_with fail
  refine (H2.out w1).mono ?_
  rintro e w2 ⟨v2, rfl, hr2, hb2⟩
  rw [HEB.out]
  obtain ⟨p2, c2, rfl, hin2⟩ := HIN2.out _ _ _ hr2
  have HB2 := Lib.hid (HB1.out.trans (hb2.mono HB1.out.size))
  have HX2 := Lib.hid (HX.out.below hb2)
  have HY2 := Lib.hid hin2
  have HMV := Lib.hid (rmoves_any p1 p2 c1 c2 x y w2 hxl hyl HX2.out HY2.out)
  clear hr2 hb2 hin2 H1 H2 HIN1 HIN2 HX
  go_wp2_with fail
  refine HMV.out.mono ?_
  rintro e w3 ⟨v3, rfl, hr3, hb3⟩
  obtain ⟨p3, c3, rfl, _, _, hin3, _⟩ := hr3.sl
  have HB3 := Lib.hid (HB2.out.trans (hb3.mono HB2.out.size))
  have HY3 := Lib.hid (HY2.out.below hb3)
  have HM3 := Lib.hid hin3
  have HSC := Lib.hid (show script x y = SC x y 0 0 by unfold SC; simp)
  have hml := script_len _ x y rfl
  obtain ⟨M, hM⟩ : ∃ M, M = script x y := ⟨_, rfl⟩
  rw [← hM] at HM3 HED HSC hml ⊢
  have hMl : M.length ≤ 8192 := by omega
  clear hr3 hb3 hin3 hM HMV hml HX2 HY2
  go_wp2_with fail
  go_loopg [14, 15, 16] M.length (fun g v14 v15 v16 wr => ∃ (n i j : Nat) (last : Int) (E : List Ed), g + n = M.length ∧ v16 = .int .i64 n ∧ (last = if n = 0 then 3 else M.getD (n - 1) 0) ∧ v15 = .int .i64 j ∧ i ≤ x.length ∧ j ≤ y.length ∧
    M.drop n = SC x y i j ∧ edGo y (M.drop n) j last E = R ∧ (E.length = 0 ↔ n = 0) ∧ EdB n E ∧ edR.row 42 w3.heap.size E v14 wr ∧ Below w3.heap.size w3 wr)
  case atStart => exact ⟨0, 0, 0, 3, [], by omega, rfl, rfl, rfl, by omega, by omega, by rw [List.drop_zero]; exact HSC.out, by rw [List.drop_zero]; exact HED.out.symm, by simp, ⟨by simp, by simp⟩, Rec.row.nil, Below.refl _ _⟩
  case round =>
    obtain ⟨n, i, j, last, E, hg, rfl, hla, rfl, hi, hj, hdr, hgo, hen, hbd, hrow, hbw⟩ := hrel
    have HG := Lib.hid hg
    have HLA := Lib.hid hla
    have HDR := Lib.hid hdr
    have HGO := Lib.hid hgo
    have HEN := Lib.hid hen
    have HBD := Lib.hid hbd
    have HROW := Lib.hid hrow
    have HB := Lib.hid hbw
    clear hg hla hdr hgo hen hbd hrow hbw
    by_cases hn : n < M.length
    · have hnz : (n : Int) < M.length := by omega
      obtain ⟨m, hm⟩ : ∃ m, m = M.getD n 0 := ⟨_, rfl⟩
      have hdc : M.drop n = m :: M.drop (n + 1) := by rw [hm]; exact drop_cons M n hn
      have HCS := Lib.hid (SC_cons x y i j hi hj m (M.drop (n + 1)) (by rw [← hdc]; exact HDR.out.symm))
      have HGN := Lib.hid (show edGo y (M.drop (n + 1)) (jNext m j) m (lastPut y m j (begun m last E)) = R by rw [← HGO.out, hdc]; rfl)
      rcases (HM3.out.below HB.out).2 with h0 | ⟨bm, om, rfl, hlm, hcm⟩
      · rw [h0] at hn; simp at hn
      have e1 := num_cell (hcm n _ (show M[n]? = some (M.getD n 0) by simp [List.getD_eq_getElem?_getD, hn]))
      rw [← hm] at e1
      have HLM := Lib.hid (show m = if n + 1 = 0 then 3 else M.getD (n + 1 - 1) 0 by rw [if_neg (by omega)]; exact hm)
      have HCM := Lib.hid (fun k (hk : k < M.length) => num_cell (hcm k _ (show M[k]? = some (M.getD k 0) by simp [List.getD_eq_getElem?_getD, hk])))
      have HE1 := Lib.hid e1
      have HLMM := Lib.hid hlm
      clear hcm hm hdc
      go_upto_region 13 with fail
      obtain ⟨B, hB⟩ : ∃ B, B = isNew m last E := ⟨_, rfl⟩
      have HBE := Lib.hid hB
      clear hB
      go_cut [67] (fun v67 wx => v67 = .bool B ∧ wr = wx)
      case first =>
        by_cases hn0 : n = 0
        · have HBT := Lib.hid (show B = true by rw [HBE.out]; unfold isNew; rw [decide_eq_true (HEN.out.2 hn0)]; rfl)
          have g1 : ((n : Int) == 0) = true := beq_iff_eq.2 (by omega)
          clear hn0
          go_wp2_with fail
          go_meet
          exact ⟨by rw [HBT.out], rfl⟩
        · have HBT := Lib.hid (show B = (m == 1 && last != 1) by rw [HBE.out]; unfold isNew; rw [decide_eq_false (fun h => hn0 (HEN.out.1 h))]; rfl)
          have g1 : ((n : Int) == 0) = false := beq_eq_false_iff_ne.2 (by omega)
          obtain ⟨n1, hn1⟩ : ∃ n1, n1 = n - 1 := ⟨_, rfl⟩
          have q1 : IntKind.i64.wrap ((n : Int) - 1) = (n1 : Int) := by rw [IntWalk.i64_in _ (by omega)]; omega
          have q2 : (n1 : Int) < M.length := by omega
          have e2 := HCM.out n1 (by omega)
          have hll : M.getD n1 0 = last := by rw [HLA.out, if_neg hn0, hn1]
          rw [hll] at e2
          clear hn0 hn1 hll
          cases hm1 : (m == 1) with
          | true =>
            have HM1 := Lib.hid hm1
            clear hm1
            have HBT2 := Lib.hid (show (last != 1) = B by rw [HBT.out, HM1.out]; rfl)
            have g2 := HM1.out
            have g3 := HBT2.out
            go_wp2_with fail
            go_meet
            exact ⟨rfl, rfl⟩
          | false =>
            have HM1 := Lib.hid hm1
            have HBT2 := Lib.hid (show B = false by rw [HBT.out, HM1.out]; rfl)
            go_wp2_with fail
            go_meet
            exact ⟨by rw [HBT2.out], rfl⟩
      case rest =>
      obtain ⟨rfl, rfl⟩ := hcut
      clear e1
      go_upto_if 67 with fail
      go_cut [14] (fun v14 wx => edR.row 42 w3.heap.size (begun m last E) v14 wx ∧ Below w3.heap.size w3 wx ∧ wx.cell? ⟨bm, om + n, none⟩ = some (.int .u8 m) ∧ bm < wx.heap.size)
      case first =>
        cases B with
        | false =>
          have HN := Lib.hid (show begun m last E = E by unfold begun; rw [← HBE.out, if_neg (by decide)])
          go_wp2_with fail
          go_meet
          exact ⟨by rw [HN.out]; exact HROW.out, HB.out, HE1.out, HLMM.out⟩
        | true =>
          have HN := Lib.hid (show begun m last E = E ++ [ed0] by unfold begun; rw [← HBE.out, if_pos rfl])
          have hbn := (Below.refl wr.heap.size wr).alloc (Nat.le_refl _) (.cells #[.int .i64 0, .int .i64 0, .string ⟨#[]⟩] 42)
          have HRN := Lib.hid (HROW.out.below hbn)
          have HBN := Lib.hid (HB.out.trans (hbn.mono HB.out.size))
          have HNEW := Lib.hid (show edR.In (wr.alloc (.cells #[.int .i64 0, .int .i64 0, .string ⟨#[]⟩] 42)) (some ⟨wr.heap.size, 0, none⟩) [ed0] from Rec.In.one wr 42 ed0 trivial)
          have HCN := Lib.hid (show E.length + [ed0].length ≤ 100000000 by have := HBD.out.1; simp only [List.length_cons, List.length_nil]; omega)
          obtain ⟨E1, hE1⟩ : ∃ E1, E1 = E ++ [ed0] := ⟨_, rfl⟩
          have HE2 := Lib.hid hE1
          have HM9 := Lib.hid (fun (W : World) (hb : Below w3.heap.size w3 W) => (HM3.out.below hb))
          clear hbn hE1
          go_wp2_with (at_builtin; refine Rec.wpList_app ed31 rfl _ _ rfl w3.heap.size _ E [ed0] E1 HE2.out rfl HRN.out _ 1 rfl HNEW.out (fun e => by cases e) HCN.out HBN.out.size ?_)
          rintro v' w7 ho7 _ hb7
          have HO7 := Lib.hid ho7
          have HB7 := Lib.hid (HBN.out.trans hb7)
          have HC7 := Lib.hid (show w7.cell? ⟨bm, om + n, none⟩ = some (.int .u8 m) ∧ bm < w7.heap.size by
            rcases (HM9.out w7 HB7.out).2 with h0 | ⟨b', o', he, hl, hc⟩
            · rw [h0] at hn; simp at hn
            · cases he
              refine ⟨?_, hl⟩
              have h1 := num_cell (hc n _ (show M[n]? = some (M.getD n 0) by simp [List.getD_eq_getElem?_getD, hn]))
              have h2 : M.getD n 0 = m := by have := HLM.out; rw [if_neg (by omega)] at this; exact this.symm
              rw [h2] at h1; exact h1)
          clear ho7 hb7
          go_wp2_with fail
          go_meet
          exact ⟨by rw [HN.out, ← HE2.out]; exact HO7.out, HB7.out, HC7.out⟩
      case rest =>
      obtain ⟨hrF, hbF, e1, hlm⟩ := hcut
      have hFl := begun_len m last E
      have HNXT := Lib.hid (show EdB (n + 1) (lastPut y m j (begun m last E)) from HBD.out.step y m last j)
      have HFB := Lib.hid (HBD.out.start m last).2
      obtain ⟨F, hF⟩ : ∃ F, F = begun m last E := ⟨_, rfl⟩
      rw [← hF] at hrF hFl HNXT HGN HFB
      obtain ⟨k, hk⟩ : ∃ k, F.length = k + 1 := ⟨F.length - 1, by omega⟩
      have hkF : k < F.length := by omega
      obtain ⟨gf, cf, rfl, _, _, _, hgf⟩ := hrF.some (by intro h0; rw [h0] at hk; simp at hk)
      obtain ⟨e0, he0⟩ : ∃ e0, e0 = F.getD k ed0 := ⟨_, rfl⟩
      have hFk : F[k]? = some e0 := by rw [he0]; simp [List.getD_eq_getElem?_getD, hkF]
      have HLP := Lib.hid (show lastPut y m j F = F.set k (edPut y m j e0) by unfold lastPut; rw [hk, he0]; rfl)
      have hfb := HFB.out e0 (List.mem_of_getElem? hFk)
      have HFL := Lib.hid (show F.length ≤ n + 1 by have := HNXT.out.1; rw [lastPut_len] at this; exact this)
      have hkn : k ≤ n := by have := HFL.out; omega
      obtain ⟨ec0, ec1, ec2⟩ := ed_cells hFk hrF
      have hfr := row_free hrF
      have HRF := Lib.hid hrF
      have HBF := Lib.hid hbF
      have HFK := Lib.hid hFk
      have HKL := Lib.hid hk
      have q1 : IntKind.i64.wrap ((F.length : Int) - 1) = (k : Int) := by rw [IntWalk.i64_in _ (by omega)]; omega
      have q2 : (k : Int) < F.length := by omega
      have hne : bm ≠ gf := fun h => by
        obtain ⟨hb1, _⟩ := row_block hrF gf rfl
        rcases HM3.out.2 with h0 | ⟨b', o', he, hl, hc⟩
        · rw [h0] at hn; simp at hn
        · cases he; omega
      have HNE := Lib.hid hne
      clear hrF hbF hF hFl hk hFk he0 HROW HB HBD HFB HE1 HLMM hne
      rcases HCS.out with ⟨hm1, hia, hjb, hms⟩ | ⟨hm2, hia, hms⟩ | ⟨hm3, hjb, hms⟩
      · subst hm1
        have q3 : IntKind.i64.wrap (e0.1 + 1) = e0.1 + 1 := IntWalk.i64_in _ (by omega)
        have HS := Lib.hid (ed_set0 (e0.1 + 1) HFK.out HRF.out)
        have HMS := Lib.hid hms
        have HLP2 := Lib.hid (show lastPut y 1 j F = F.set k (e0.1 + 1, e0.2.1, e0.2.2) from HLP.out)
        have z := hfr (k * 3)
        have e1s : (wc.setCell ⟨gf, k * 3, none⟩ (.int .i64 (e0.1 + 1))).cell? ⟨bm, om + n, none⟩ = some (.int .u8 1) := by rw [cell_other (Below.heap_setCell wc ⟨gf, k * 3, none⟩ _ bm HNE.out)]; exact e1
        clear hms hfr ec1 ec2
        go_wp2
        go_roundg (gk - 1)
        case measure => have := HG.out; omega
        case rel => exact ⟨n + 1, i + 1, j + 1, 1, _, by have := HG.out; omega, by go_num, HLM.out, by go_num, hia, hjb, HMS.out, HGN.out, by rw [lastPut_len]; have := HKL.out; omega, HNXT.out, by rw [HLP2.out]; have := HS.out.1; simpa using this, HBF.out.trans HS.out.2⟩
      · subst hm2
        have q3 : IntKind.i64.wrap (e0.2.1 + 1) = e0.2.1 + 1 := IntWalk.i64_in _ (by omega)
        have HS := Lib.hid (ed_set1 (e0.2.1 + 1) HFK.out HRF.out)
        have HMS := Lib.hid hms
        have HLP2 := Lib.hid (show lastPut y 2 j F = F.set k (e0.1, e0.2.1 + 1, e0.2.2) from HLP.out)
        have z := hfr (k * 3 + 1)
        have e1s : (wc.setCell ⟨gf, k * 3 + 1, none⟩ (.int .i64 (e0.2.1 + 1))).cell? ⟨bm, om + n, none⟩ = some (.int .u8 2) := by rw [cell_other (Below.heap_setCell wc ⟨gf, k * 3 + 1, none⟩ _ bm HNE.out)]; exact e1
        clear hms hfr ec0 ec2
        go_wp2
        go_roundg (gk - 1)
        case measure => have := HG.out; omega
        case rel => exact ⟨n + 1, i + 1, j, 2, _, by have := HG.out; omega, by go_num, HLM.out, rfl, hia, hj, HMS.out, HGN.out, by rw [lastPut_len]; have := HKL.out; omega, HNXT.out, by rw [HLP2.out]; exact HS.out.1, HBF.out.trans HS.out.2⟩
      · subst hm3
        have HMS := Lib.hid hms
        have hjz : (j : Int) < y.length := by omega
        rcases (HY3.out.below HBF.out).2 with h0 | ⟨by', oy, rfl, hly, hcy⟩
        · rw [h0] at hjb; simp at hjb
        have e2 := num_cell (hcy j _ (show y[j]? = some (y.getD j 0) by simp [List.getD_eq_getElem?_getD, hjb]))
        have hmay : may (y.getD j 0) = true := HGY.out _ (by rw [List.getD_eq_getElem?_getD, List.getElem?_eq_getElem hjb]; exact List.getElem_mem hjb)
        have HLP2 := Lib.hid (show lastPut y 3 j F = F.set k (e0.1, e0.2.1, e0.2.2 ++ enc (y.getD j 0)) from HLP.out)
        obtain ⟨r, hr⟩ : ∃ r, r = y.getD j 0 := ⟨_, rfl⟩
        rw [← hr] at e2 hmay HLP2
        have HS := Lib.hid (fun W (h : edR.row 42 w3.heap.size F (.slice (some ⟨gf, 0, none⟩) F.length cf) W) => ed_set2 (e0.2.2 ++ enc r) HFK.out h)
        have hesl : (enc r).length ≤ 4 := (enc_ne r).2
        have hadd := add_bytes e0.2.2 (enc r) (by omega)
        have HADD := Lib.hid hadd
        have HBY := Lib.hid (fun w' => Bytes_any r hmay w')
        have HMAY := Lib.hid hmay
        have HGL := Lib.hid (show gf < wc.heap.size from hgf)
        have HFR := Lib.hid (hfr (k * 3 + 2))
        clear hesl hms hcy hr hfr ec0 ec1 hmay hadd
        go_upto_region 22 with fail
        obtain ⟨W, hW⟩ : ∃ W, W = wc := ⟨_, rfl⟩
        rw [← hW] at HRF HBF HGL HFR ec2 e2 hgf hly ⊢
        clear hW e1 hlm
        obtain ⟨sv, hsv⟩ : ∃ sv : Value, sv = .string ⟨(e0.2.2 ++ enc r).toArray⟩ := ⟨_, rfl⟩
        have HSV := Lib.hid hsv
        obtain ⟨ad, had⟩ : ∃ ad : Addr, ad = ⟨gf, k * 3 + 2, none⟩ := ⟨_, rfl⟩
        have HAD := Lib.hid had
        clear hsv had
        apply wp_region_storeL [[], [], [0, 1], [2], [3], [], [], [5, 6], [7], [8], [9], [4, 10], [0, 1], [12], [0, 1, 2, 3, 4, 5, 6, 7, 8, 9, 10, 11, 13]] [some 108, some 109, some 110, some 111, some 112, some 113, some 114, some 115, some 116, some 117, some 118, some 119, some 120, some 121, none] [0, 1, 2, 3, 4, 5, 6, 7, 8, 9, 10, 11, 12, 13, 14] 14
          [eqv _, eqv _, eqv _, eqv _, eqv _, eqv _, eqv _, eqv _, eqv _, SB W.heap.size r, eqv _, eqv _, eqv _, eqv _, StoreF W ad sv]
        case hm => kernel_rfl
        case hok => kernel_rfl
        case hop =>
          refine ⟨?_, ?_, ?_, ?_, ?_, ?_, ?_, ?_, ?_, ?_, ?_, ?_, ?_, ?_, ?_, trivial⟩
          · intro vs w1 hG hP hd
            obtain ⟨x1, rfl⟩ := ov_of (hP (by decide))
            simp only [putL]
            clear hd hP hG 
            repeat (first | go_skip | go_guarded | go_step | go_upon | go_in | go_back)
            exact opEnds_mk rfl (by simp only [List.getElem?_toArray, List.getElem?_cons_succ, List.getElem?_cons_zero] <;> rfl) rfl (RS_b (by decide) (Below.refl _ _)) rfl
          · intro vs w1 hG hP hd
            obtain ⟨x1, rfl⟩ := ov_of (hP (by decide))
            simp only [putL]
            clear hd hP hG 
            repeat (first | go_skip | go_guarded | go_step | go_upon | go_in | go_back)
            exact opEnds_mk rfl (by simp only [List.getElem?_toArray, List.getElem?_cons_succ, List.getElem?_cons_zero] <;> rfl) rfl (RS_b (by decide) (Below.refl _ _)) rfl
          · intro vs w1 hG hP hd
            obtain ⟨x1, rfl⟩ := ov_of (hP (by decide))
            have h0 := hd.get 0 rfl
            change vs 0 = _ at h0
            have h1 := hd.get 1 rfl
            change vs 1 = _ at h1
            simp only [putL, h0, h1]
            clear hd hP hG h0 h1
            repeat (first | go_skip | go_guarded | go_step | go_upon | go_in | go_back)
            exact opEnds_mk rfl (by simp only [List.getElem?_toArray, List.getElem?_cons_succ, List.getElem?_cons_zero] <;> rfl) rfl (RS_b (by decide) (Below.refl _ _)) rfl
          · intro vs w1 hG hP hd
            obtain ⟨x1, rfl⟩ := ov_of (hP (by decide))
            have h2 := hd.get 2 rfl
            change vs 2 = _ at h2
            simp only [putL, h2]
            clear hd hP hG h2
            repeat (first | go_skip | go_guarded | go_step | go_upon | go_in | go_back)
            exact opEnds_mk rfl (by simp only [List.getElem?_toArray, List.getElem?_cons_succ, List.getElem?_cons_zero] <;> rfl) rfl (RS_b (by decide) (Below.refl _ _)) rfl
          · intro vs w1 hG hP hd
            obtain ⟨x1, rfl⟩ := ov_of (hP (by decide))
            have h3 := hd.get 3 rfl
            change vs 3 = _ at h3
            simp only [putL, h3]
            clear hd hP hG h3
            repeat (first | go_skip | go_guarded | go_step | go_upon | go_in | go_back)
            exact opEnds_mk rfl (by simp only [List.getElem?_toArray, List.getElem?_cons_succ, List.getElem?_cons_zero] <;> rfl) rfl (RS_b (by decide) (Below.refl _ _)) rfl
          · intro vs w1 hG hP hd
            obtain ⟨x1, rfl⟩ := ov_of (hP (by decide))
            simp only [putL]
            clear hd hP hG 
            repeat (first | go_skip | go_guarded | go_step | go_upon | go_in | go_back)
            exact opEnds_mk rfl (by simp only [List.getElem?_toArray, List.getElem?_cons_succ, List.getElem?_cons_zero] <;> rfl) rfl (RS_b (by decide) (Below.refl _ _)) rfl
          · intro vs w1 hG hP hd
            obtain ⟨x1, rfl⟩ := ov_of (hP (by decide))
            simp only [putL]
            clear hd hP hG 
            repeat (first | go_skip | go_guarded | go_step | go_upon | go_in | go_back)
            exact opEnds_mk rfl (by simp only [List.getElem?_toArray, List.getElem?_cons_succ, List.getElem?_cons_zero] <;> rfl) rfl (RS_b (by decide) (Below.refl _ _)) rfl
          · intro vs w1 hG hP hd
            obtain ⟨x1, rfl⟩ := ov_of (hP (by decide))
            have h5 := hd.get 5 rfl
            change vs 5 = _ at h5
            have h6 := hd.get 6 rfl
            change vs 6 = _ at h6
            simp only [putL, h5, h6]
            clear hd hP hG h5 h6
            repeat (first | go_skip | go_guarded | go_step | go_upon | go_in | go_back)
            exact opEnds_mk rfl (by simp only [List.getElem?_toArray, List.getElem?_cons_succ, List.getElem?_cons_zero] <;> rfl) rfl (RS_b (by decide) (Below.refl _ _)) rfl
          · intro vs w1 hG hP hd
            obtain ⟨x1, rfl⟩ := ov_of (hP (by decide))
            have h7 := hd.get 7 rfl
            change vs 7 = _ at h7
            simp only [putL, h7]
            clear hd hP hG h7
            repeat (first | go_skip | go_guarded | go_step | go_upon | go_in | go_back)
            exact opEnds_mk rfl (by simp only [List.getElem?_toArray, List.getElem?_cons_succ, List.getElem?_cons_zero] <;> rfl) rfl (RS_b (by decide) (Below.refl _ _)) rfl
          · intro vs w1 hG hP hd
            obtain ⟨x1, rfl⟩ := ov_of (hP (by decide))
            have h8 := hd.get 8 rfl
            change vs 8 = _ at h8
            simp only [putL, h8]
            clear hd hP hG h8
            repeat (first | go_skip | go_guarded | go_step | go_upon)
            refine (HBY.out _).mono ?_
            rintro e w2 ⟨rfl, hw2⟩
            dsimp only
            repeat (first | go_skip | go_guarded | go_step | go_upon | go_in | go_back)
            exact opEnds_mk rfl (by simp only [List.getElem?_toArray, List.getElem?_cons_succ, List.getElem?_cons_zero] <;> rfl) rfl (RS_b (by decide) (by rw [← hw2]; exact (Below.refl _ _).alloc (Nat.le_refl _) _)) ⟨_, rfl, ov_size _ _, by rw [← hw2]; exact (MapKept.heap_alloc _ _).1⟩
          · intro vs w1 hG hP hd
            obtain ⟨x1, rfl⟩ := ov_of (hP (by decide))
            have h9 := hd.get 9 rfl
            obtain ⟨gx, hv9, hgx, hxx⟩ := h9
            have hcv := (conv_of _ gx (encV r).length (encV r) rfl hxx).trans (by rw [strOfNums_enc r HMAY.out])
            simp only [putL, hv9]
            clear hd hP hG hv9
            repeat (first | go_skip | go_guarded | go_step | go_upon | go_in | go_back)
            exact opEnds_mk rfl (by simp only [List.getElem?_toArray, List.getElem?_cons_succ, List.getElem?_cons_zero] <;> rfl) rfl (RS_b (by decide) (Below.refl _ _)) rfl
          · intro vs w1 hG hP hd
            obtain ⟨x1, rfl⟩ := ov_of (hP (by decide))
            have h4 := hd.get 4 rfl
            change vs 4 = _ at h4
            have h10 := hd.get 10 rfl
            change vs 10 = _ at h10
            have hadd := HADD.out
            simp only [putL, h4, h10]
            clear hd hP hG h4 h10
            repeat (first | go_skip | go_guarded | go_step | go_upon | go_in | go_back)
            exact opEnds_mk rfl (by simp only [List.getElem?_toArray, List.getElem?_cons_succ, List.getElem?_cons_zero] <;> rfl) rfl (RS_b (by decide) (Below.refl _ _)) rfl
          · intro vs w1 hG hP hd
            have h0 := hd.get 0 rfl
            change vs 0 = _ at h0
            have h1 := hd.get 1 rfl
            change vs 1 = _ at h1
            simp only [putL, h0, h1]
            clear hd hP hG h0 h1
            repeat (first | go_skip | go_guarded | go_step | go_upon | go_in | go_back)
            exact opEnds_mk rfl (by simp only [List.getElem?_toArray, List.getElem?_cons_succ, List.getElem?_cons_zero] <;> rfl) rfl (RS_b (by decide) (Below.refl _ _)) rfl
          · intro vs w1 hG hP hd
            obtain ⟨x1, rfl⟩ := ov_of (hP (by decide))
            have h12 := hd.get 12 rfl
            change vs 12 = _ at h12
            simp only [putL, h12]
            clear hd hP hG h12
            repeat (first | go_skip | go_guarded | go_step | go_upon | go_in | go_back)
            exact opEnds_mk rfl (by simp only [List.getElem?_toArray, List.getElem?_cons_succ, List.getElem?_cons_zero] <;> rfl) rfl (RS_b (by decide) (Below.refl _ _)) rfl
          · intro vs w1 hG hP hd
            obtain ⟨x1, rfl⟩ := ov_of (hP (by decide))
            have h11 := hd.get 11 rfl
            change vs 11 = _ at h11
            have h13 := hd.get 13 rfl
            change vs 13 = _ at h13
            have z : (ov W x1).frozen? ⟨gf, k * 3 + 2, none⟩ = false := ((ov_below W x1).frozen (p := ⟨gf, k * 3 + 2, none⟩) HGL.out).trans HFR.out
            simp only [putL, h11, h13]
            clear hd hP hG h11 h13
            repeat (first | go_skip | go_guarded | go_step | go_upon | go_in | go_back)
            exact ⟨rfl, rfl, RS_set _ ⟨gf, k * 3 + 2, none⟩ _ HGL.out, _, ov_below W x1, by rw [HSV.out, HAD.out]; exact Below.refl _ _⟩
        case hst => exact ⟨eqv_ab _ _, eqv_ab _ _, eqv_ab _ _, eqv_ab _ _, eqv_ab _ _, eqv_ab _ _, eqv_ab _ _, eqv_ab _ _, eqv_ab _ _, SB_st _ _, eqv_ab _ _, eqv_ab _ _, eqv_ab _ _, eqv_ab _ _, (fun _ _ _ _ _ => trivial), trivial⟩
        case hfin =>
          intro v w8 w9 h8 h9
          change (StoreF W ad sv) v w8 at h8
          change (StoreF W ad sv) v w9
          exact storeF_st v w8 w9 h8 h9
        case hend =>
          intro vs w9 hd
          have h0 := hd.get 0 rfl
          change vs 0 = _ at h0
          have h1 := hd.get 1 rfl
          change vs 1 = _ at h1
          have h2 := hd.get 2 rfl
          change vs 2 = _ at h2
          have h3 := hd.get 3 rfl
          change vs 3 = _ at h3
          have h4 := hd.get 4 rfl
          change vs 4 = _ at h4
          have h5 := hd.get 5 rfl
          change vs 5 = _ at h5
          have h6 := hd.get 6 rfl
          change vs 6 = _ at h6
          have h7 := hd.get 7 rfl
          change vs 7 = _ at h7
          have h8 := hd.get 8 rfl
          change vs 8 = _ at h8
          have h9 := hd.get 9 rfl
          have h10 := hd.get 10 rfl
          change vs 10 = _ at h10
          have h11 := hd.get 11 rfl
          change vs 11 = _ at h11
          have h12 := hd.get 12 rfl
          change vs 12 = _ at h12
          have h13 := hd.get 13 rfl
          change vs 13 = _ at h13
          have h14 := hd.get 14 rfl
          simp only [putL, List.getD_cons_zero, List.getD_cons_succ, Act.put, List.setIfInBounds_toArray, List.set_cons_zero, List.set_cons_succ, h0, h1, h2, h3, h4, h5, h6, h7, h8, h10, h11, h12, h13]
          clear hd h0 h1 h2 h3 h4 h5 h6 h7 h8 h10 h11 h12 h13
          obtain ⟨w8, hb8, hb9⟩ := h14
          rw [HSV.out, HAD.out] at hb9
          have HS8 := Lib.hid (HS.out w8 (HRF.out.below hb8))
          have HR9 := Lib.hid (HS8.out.1.below (by simpa using hb9))
          have HB9 := Lib.hid ((HBF.out.trans (hb8.mono HBF.out.size)).trans (HS8.out.2.trans (hb9.mono (by have := (HBF.out.trans (hb8.mono HBF.out.size)).size; simp; exact this))))
          clear hb8 hb9 e2 ec2
          go_wp2
          go_roundg (gk - 1)
          case measure => have := HG.out; omega
          case rel => exact ⟨n + 1, i, j + 1, 3, _, by have := HG.out; omega, by go_num, HLM.out, by go_num, hi, hjb, HMS.out, HGN.out, by rw [lastPut_len]; have := HKL.out; omega, HNXT.out, by rw [HLP2.out]; exact HR9.out, HB9.out⟩
    · have HE := Lib.hid (show E = R by
        have h1 := HGO.out
        rw [List.drop_of_length_le (by omega)] at h1
        exact h1)
      go_wp2
      go_ret2
      exact ⟨_, rfl, by rw [← HE.out]; exact HROW.out.base HB3.out.size, HB3.out.trans (HB.out.mono HB3.out.size)⟩
end Go.Proofs.Ytipoifokcnbfnaa
