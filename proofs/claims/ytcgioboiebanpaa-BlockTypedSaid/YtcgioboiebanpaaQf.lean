/- Each live element is found at its place: the walk. -/
import Derived.Test.YtcgioboiebanpaaQd
import Derived.Test.YtcgioboiebanpaaPl
namespace Go.Proofs.Ytcgioboiebanpaa
open Go.RowKit Go.Maps Go.WideShapes Go.ChangeShapes Go.Deep
set_option linter.unusedVariables false

/-- The cells of a key. -/
theorem key_cells {w : World} {b o : Nat} {k : KV} (hk : k.2.1.length = 32) (hf : fits w ⟨b, o, none⟩ 34) (ha : aggAt w ⟨b, o, none⟩ 34 = keyB k.1 k.2.1 k.2.2) :
    w.cell? ⟨b, o, none⟩ = some (.int .i64 k.1) ∧ (fits w ⟨b, o + 1, none⟩ 32 ∧ aggAt w ⟨b, o + 1, none⟩ 32 = idB k.2.1) ∧ w.cell? ⟨b, o + 33, none⟩ = some (.int .i64 k.2.2) := by
  have hg : ∀ j, j < 34 → w.cell? ⟨b, o + j, none⟩ = (keyB k.1 k.2.1 k.2.2)[j]? := fun j hj => by rw [aggAt_get hf hj, ha]
  refine ⟨?_, ?_, ?_⟩
  · have := hg 0 (by decide)
    rw [Nat.add_zero] at this
    rw [this, keyB_0]
  · refine sub_agg hf (l := (keyB k.1 k.2.1 k.2.2).toList) (by rw [ha]) (k := 1) (m := 32) (by decide) ((idB k.2.1).toList) ?_ ?_
    · have := keyB_id k.1 k.2.1 k.2.2 hk
      rw [← this]
      simp
    · simp [idB, Lib.byteCells, hk]
  · rw [hg 33 (by decide), keyB_33 _ _ _ hk]
/-- The cells of a piece. -/
theorem piece_cells {w : World} {b o : Nat} {P : PV} (hk : P.1.2.1.length = 32) (h : pieceR.At w ⟨b, o, none⟩ P) :
    w.cell? ⟨b, o, none⟩ = some (.int .i64 P.1.1) ∧ (fits w ⟨b, o + 1, none⟩ 32 ∧ aggAt w ⟨b, o + 1, none⟩ 32 = idB P.1.2.1) ∧ w.cell? ⟨b, o + 33, none⟩ = some (.int .i64 P.1.2.2) ∧
    w.cell? ⟨b, o + 34, none⟩ = some (.int .i64 P.2.1) ∧ w.cell? ⟨b, o + 35, none⟩ = some (.string (strB P.2.2)) := by
  obtain ⟨hf, ha⟩ := h
  change fits w ⟨b, o, none⟩ 36 at hf
  change aggAt w ⟨b, o, none⟩ 36 = pieceB P at ha
  have hs : (keyB P.1.1 P.1.2.1 P.1.2.2).size = 34 := by rw [keyB_size, hk]
  have hg : ∀ j, j < 36 → w.cell? ⟨b, o + j, none⟩ = (pieceB P)[j]? := fun j hj => by rw [aggAt_get hf hj, ha]
  have hl : (keyB P.1.1 P.1.2.1 P.1.2.2).toList.length = 34 := by simpa using hs
  have hkk := sub_agg hf (l := (pieceB P).toList) (by rw [ha]) (k := 0) (m := 34) (by decide) ((keyB P.1.1 P.1.2.1 P.1.2.2).toList) (by
    unfold pieceB
    rw [Array.toList_append, List.drop_zero, List.take_left' hl]) hl
  rw [Nat.add_zero] at hkk
  obtain ⟨g1, g2, g3⟩ := key_cells (k := P.1) hk hkk.1 (by rw [hkk.2])
  refine ⟨g1, g2, g3, ?_, ?_⟩
  · rw [hg 34 (by decide)]
    unfold pieceB
    rw [Array.getElem?_append_right (by omega), hs]; rfl
  · rw [hg 35 (by decide)]
    unfold pieceB
    rw [Array.getElem?_append_right (by omega), hs]; rfl
set_option maxHeartbeats 8000000 in
set_option maxRecDepth 100000 in
theorem lawPlaces_any (p : Option Addr) (c1 : Nat) (xs : List AV) (w : World) (hp : actQ.In w p xs) : Calls Try.prog 6 #[.slice p xs.length c1] w fun e w' => e = .returned (.bool true) ∧ Below w.heap.size w w' := by
  have HP := Lib.hid hp
  clear hp
  go_enter Try.func6, Try.ntmps6
  go_wp2_with fail
  refine (light_any p c1 xs 20 w (by decide) (actQ.r HP.out)).mono ?_
  rintro e w1 ⟨rfl, hb⟩
  have HB1 := Lib.hid hb
  clear hb
  cases hlx : lightL xs 20 with
  | false =>
    go_wp2
    go_ret
    exact ⟨rfl, HB1.out⟩
  | true =>
  have HLX := Lib.hid (light_iff xs hlx)
  clear hlx
  go_wp2_with fail
  refine (new_P w1).mono ?_
  rintro e w2 ⟨rfl, hd, hb⟩
  have HB2 := Lib.hid (HB1.out.trans (hb.mono HB1.out.size))
  obtain ⟨d, hdd⟩ : ∃ d, d = w1.heap.size := ⟨_, rfl⟩
  rw [← hdd] at hd ⊢
  have HD2 := Lib.hid hd
  have HL := Lib.hid (show w.heap.size ≤ d by rw [hdd]; exact HB1.out.size)
  clear hd hb hdd
  obtain ⟨R, hR⟩ : ∃ R, R = actsM [] xs := ⟨_, rfl⟩
  have HR := Lib.hid hR
  have HT := Lib.hid (show tot R ≤ 400 by rw [hR]; exact first_small HLX.out)
  have HIX := Lib.hid (show ∀ r ∈ R, idxOk r by rw [hR]; exact (actsM_facts xs [] (by simp) HLX.out.2).1)
  have HMX := Lib.hid (show mayF R by rw [hR]; exact acts_may xs [] (by simp) HP.out.1 (by intro e he; simp [flat] at he))
  have HND := Lib.hid (show ND R by rw [hR]; exact acts_nd xs [] (by simp) HP.out.1 (by simp [ND, flat]))
  have HT5 := Lib.hid (show tot R ≤ 5000 by have := HT.out; omega)
  have HLV := Lib.hid (show liveM R ≤ 400 from Nat.le_trans (liveM_tot R) HT.out)
  clear hR
  go_wp2_with fail
  refine (acts_any d _ [] p c1 w.heap.size xs w2 HL.out (below_all HB2.out HP.out) HLX.out.2 (by have := HLX.out.1; simp only [tot, List.map_nil, List.sum_nil]; omega) HD2.out).mono ?_
  rintro e w3 ⟨rfl, v, hd, hs⟩
  rw [← HR.out] at hd
  have HD3 := Lib.hid hd
  have HB3 := Lib.hid (HB2.out.trans (HD2.out.step hs HL.out))
  clear hd hs
  go_wp2_with fail
  refine (pieces_P d v R w3 HT5.out HD3.out).mono ?_
  rintro e w4 ⟨p1, rfl, hr, hb⟩
  have HB4 := Lib.hid (HB3.out.trans (hb.mono HB3.out.size))
  have HD4 := Lib.hid (HD3.out.below hb)
  obtain ⟨pa, ca, rfl, _, _, hi1, _⟩ := hr.sl
  have HI4 := Lib.hid hi1
  clear hr hb hi1
  have HPK := Lib.hid (fun (i k : Nat) (hi : i < (piecesM R).length) (hk : (k : Int) < (piecesM R)[i].2.1) => place_key HIX.out HMX.out HND.out (by have := HLV.out; omega) hi hk)
  have HPA := Lib.hid (place_all HIX.out HMX.out)
  have HPL := Lib.hid (pieces_live HIX.out HMX.out)
  have HPN := Lib.hid (show (piecesM R).length ≤ 400 from Nat.le_trans (pgo_len R) (Nat.le_trans (tot_len HIX.out) HT.out))
  obtain ⟨O, hO⟩ : ∃ O, O = piecesM R := ⟨_, rfl⟩
  rw [← hO] at HPA HPL HPN HI4 ⊢
  have HPK2 := Lib.hid (show ∀ (i k : Nat) (hi : i < O.length), (k : Int) < O[i].2.1 → atM R ((keysP (O.take i)).length + k : Nat) = ((O[i].1.1, O[i].1.2.1, O[i].1.2.2 + (k : Int)), 0) ∧ FindM R (O[i].1.1, O[i].1.2.1, O[i].1.2.2 + (k : Int)) = ((((keysP (O.take i)).length + k : Nat) : Int), true, 0) by
    subst hO
    exact HPK.out)
  clear hO HPK
  have HTX := Lib.hid (show ∀ j, (textP (O.take j)).length ≤ 1000000000 by
    intro j
    have h1 : (textP O).length ≤ 1000000000 := by
      rw [HPL.out.2.1, docText_live HMX.out]
      have h2 := encs_len4 (liveU (flat R))
      rw [liveU_len] at h2
      have := HLV.out
      omega
    have h3 : textP O = textP (O.take j) ++ textP (O.drop j) := by
      conv => lhs; rw [← List.take_append_drop j O]
      exact List.flatMap_append
    rw [h3, List.length_append] at h1
    omega)
  have hx6 : O.length ≤ 1000000 := by have := HPN.out; omega
  go_wp2_with fail
  go_loopg [5, 6, 7] O.length (fun g un ut ui wr => ∃ i : Nat, g + i = O.length ∧ ui = .int .i64 i ∧ un = .int .i64 (keysP (O.take i)).length ∧ ut = .string (strB (textP (O.take i))) ∧ Below w4.heap.size w4 wr)
  case atStart => exact ⟨0, by omega, rfl, by simp [keysP], by simp [textP, strB], Below.refl _ _⟩
  case round =>
    obtain ⟨i, hg, rfl, rfl, rfl, hwr⟩ := hrel
    have HG := Lib.hid hg
    have HWR := Lib.hid hwr
    clear hg hwr
    by_cases hk : i < O.length
    · have HK := Lib.hid hk
      have i1 : (i : Int) < O.length := by omega
      have HBW := Lib.hid (HB4.out.trans (HWR.out.mono HB4.out.size))
      have HPI := Lib.hid (fun k => HPK2.out i k hk)
      have HNX := Lib.hid (keysP_next hk)
      have HOK := Lib.hid (HPL.out.2.2 O[i] (List.getElem_mem hk))
      have HSUM := Lib.hid (show (keysP (O.take i)).length + (O[i].2.1).toNat ≤ 400 by
        have h1 := keysP_split (O := O) (i + 1)
        have h2 := congrArg List.length h1
        rw [(keysP_next hk).1, List.length_append, List.length_append, keysP1_len, HPA.out] at h2
        have := HLV.out
        omega)
      obtain ⟨b, o, rfl, hf, ha, h32⟩ := piece_ld HI4.out hk
      have HAT := Lib.hid (show pieceR.At w4 ⟨b, o + i * 36, none⟩ O[i] from ⟨hf, ha⟩)
      have H32 := Lib.hid h32
      have HLB := Lib.hid (show b < w4.heap.size by
        obtain ⟨_, c, e, f, hh, _⟩ := hf
        exact (Array.getElem?_eq_some_iff.1 hh).1)
      obtain ⟨L, hL⟩ : ∃ L, L = (keysP (O.take i)).length := ⟨_, rfl⟩
      rw [← hL] at HPI HSUM ⊢
      have HLe := Lib.hid hL
      obtain ⟨T, hT⟩ : ∃ T, T = textP (O.take i) := ⟨_, rfl⟩
      rw [← hT]
      have HTe := Lib.hid hT
      have HSZ := Lib.hid (show T.length + O[i].2.2.length ≤ 1000000000 by
        have h1 := congrArg List.length (keysP_next hk).2
        rw [List.length_append, ← hT] at h1
        have h2 := HTX.out (i + 1)
        omega)
      generalize O[i] = P at *
      obtain ⟨⟨pt, pc, pi⟩, PN, ptx⟩ := P
      obtain ⟨N, hN⟩ : ∃ N : Nat, PN = N := ⟨PN.toNat, by have := HOK.out.1; simp only at this; omega⟩
      subst hN
      have HN := Lib.hid (show L + N ≤ 400 by have := HSUM.out; simp only at this; omega)
      obtain ⟨q, hq⟩ : ∃ q, q = o + i * 36 := ⟨_, rfl⟩
      rw [← hq] at HAT
      have HQ := Lib.hid hq
      clear hf ha h32 hL hT hq HSUM
      go_wp2_with fail
      go_loopg [5, 8] N (fun g un uk wq => ∃ k : Nat, g + k = N ∧ un = .int .i64 ((L + k : Nat) : Int) ∧ uk = .int .i64 k ∧ Below w4.heap.size w4 wq)
      case atStart => exact ⟨0, by omega, rfl, rfl, HWR.out⟩
      case round =>
        obtain ⟨k, hg2, rfl, rfl, hwq⟩ := hrel
        have HG2 := Lib.hid hg2
        have HWQ := Lib.hid hwq
        clear hg2 hwq
        obtain ⟨pc1, pc2, pc3, pc4, pc5⟩ := piece_cells H32.out (HAT.out.below HWQ.out)
        simp only at pc1 pc2 pc3 pc4 pc5
        rw [HQ.out] at pc1 pc2 pc3 pc4 pc5
        by_cases hk2 : k < N
        · have HK2 := Lib.hid hk2
          have i2 : (k : Int) < N := by omega
          have i3 : (k : Int) < 1000 := by have := HN.out; omega
          have HAT1 := Lib.hid (show atM R ((L : Int) + (k : Int)) = ((pt, pc, pi + (k : Int)), 0) by have := (HPI.out k i2).1; rwa [Int.natCast_add] at this)
          have HFI1 := Lib.hid (show FindM R (pt, pc, pi + (k : Int)) = ((L : Int) + (k : Int), true, 0) by have := (HPI.out k i2).2; rwa [Int.natCast_add] at this)
          have HDq := Lib.hid (HD4.out.below HWQ.out)
          clear pc1 pc2 pc3 pc5
          go_wp2_with fail
          clear pc4
          refine (at_P d v R ((L : Int) + (k : Int)) wr HT5.out HDq.out).mono ?_
          rintro e w5 ⟨rfl, hb⟩
          rw [HAT1.out]
          have HB5 := Lib.hid (HWQ.out.trans (hb.mono HWQ.out.size))
          have HD5 := Lib.hid (HDq.out.below hb)
          clear hb
          go_upto_region 15 with (refine wpList_store_blk 26 34 (by kernel_rfl) rfl _ _ rfl w5.heap.size (keyB pt pc (pi + (k : Int))) (by rw [keyB_size, H32.out]) (key_one _ _ _) rfl rfl _ (MapKept.heap_alloc w5 _).1 (by rfl) ?_)
          intro w6 s1 s2 s3
          have hb2 : Below w5.heap.size w5 w6 := ((Below.refl w5.heap.size w5).alloc (Nat.le_refl _) _).trans ⟨s3.os, s3.tape, s3.output, s3.size, fun j hj => s3.block j (by simp; omega) (by simp; omega)⟩
          have HB6 := Lib.hid (HB5.out.trans (hb2.mono HB5.out.size))
          have HD6 := Lib.hid (HD5.out.below hb2)
          obtain ⟨m, hm⟩ : ∃ m, m = w5.heap.size := ⟨_, rfl⟩
          rw [← hm] at s1 ⊢
          have hk34 : (keyB pt pc (pi + (k : Int))).size = 34 := by rw [keyB_size, H32.out]
          have HM := Lib.hid s1
          have f1 := (blk_ld s1 hk34).1
          have f2 := (blk_ld s1 hk34).2
          have HML := Lib.hid (show m < w6.heap.size from (Array.getElem?_eq_some_iff.1 s1).1)
          clear s1 s2 s3 hb2 hm hk34
          go_wp2_with fail
          refine (find_P d v R (pt, pc, pi + (k : Int)) w6 H32.out HT5.out HD6.out).mono ?_
          rintro e w7 ⟨rfl, hb⟩
          rw [HFI1.out]
          have HB7 := Lib.hid (HB6.out.trans (hb.mono HB6.out.size))
          have HM7 := Lib.hid (show w7.heap[m]? = some (.cells (keyB pt pc (pi + (k : Int))) 26 (0, 0)) from (hb.block m HML.out).trans HM.out)
          have HLE7 := Lib.hid hb.size
          clear f1 f2 hb
          obtain ⟨pc1, pc2, pc3, pc4, pc5⟩ := piece_cells H32.out (HAT.out.below HB7.out)
          simp only at pc1 pc2 pc3 pc4 pc5
          rw [HQ.out] at pc1 pc2 pc3 pc4 pc5
          have hk34 : (keyB pt pc (pi + (k : Int))).size = 34 := by rw [keyB_size, H32.out]
          obtain ⟨kc1, kc2, kc3⟩ := key_cells (b := m) (o := 0) (k := (pt, pc, pi + (k : Int))) H32.out (blk_ld HM7.out hk34).1 (blk_ld HM7.out hk34).2
          simp only [Nat.zero_add] at kc1 kc2 kc3
          obtain ⟨pf1, pf2⟩ := pc2
          obtain ⟨kf1, kf2⟩ := kc2
          clear pc4 pc5 hk34
          have h32 := H32.out
          have hwr : IntKind.i64.wrap (pi + (k : Int) - pi) = k := (IntWalk.i64_in (pi + (k : Int) - pi) (by omega)).trans (by omega)
          go_upto_region 16 with fail
          have hlm := Nat.lt_of_lt_of_le HML.out HLE7.out
          have hlb := Nat.lt_of_lt_of_le HLB.out HB7.out.size
          refine wp_region_over (by kernel_rfl) (by kernel_rfl) ?_
          repeat (go_big_quiet_step (fail))
          refine wpQuiet_nil ?_
          rintro _ ⟨z0, rfl⟩
          have HB8 := Lib.hid (HB7.out.trans ((ov_below w7 z0).mono HB7.out.size))
          clear pc1 pc3 pf1 pf2 kc1 kc3 kf1 kf2
          have hLk : L + k + 1 ≤ 400 := by have := HN.out; omega
          go_wp2
          go_roundg (gk - 1)
          case measure => have := HG2.out; have := HK2.out; omega
          case rel => exact ⟨k + 1, by have := HG2.out; have := HK2.out; omega, by go_num, by go_num, HB8.out⟩
        · have i2 : ¬ (k : Int) < N := by omega
          have HKN := Lib.hid (show k = N by have := HG2.out; omega)
          have HADD := strB_add T ptx (HSZ.out)
          go_wp2
          go_roundg (O.length - (i + 1))
          case measure => have := HG.out; have := HK.out; omega
          case rel => exact ⟨i + 1, by have := HK.out; omega, by go_num, by rw [HNX.out.1, List.length_append, keysP1_len, ← HLe.out, HKN.out]; simp, by rw [HNX.out.2, ← HTe.out], HWQ.out⟩
    · have HE := Lib.hid (show O.take i = O from List.take_of_length_le (by omega))
      have i1 : ¬ (i : Int) < O.length := by omega
      have HDw := Lib.hid (HD4.out.below HWR.out)
      rw [HE.out, HPA.out, HPL.out.2.1]
      have HAE := Lib.hid (atM_end HIX.out (by have := HLV.out; omega))
      have HBW := Lib.hid (HB4.out.trans (HWR.out.mono HB4.out.size))
      go_wp2_with fail
      refine (at_P d v R (liveM R) wr HT5.out HDw.out).mono ?_
      rintro e w5 ⟨rfl, hb⟩
      rw [HAE.out]
      have HB5 := Lib.hid (HBW.out.trans (hb.mono HBW.out.size))
      have HD5 := Lib.hid (HDw.out.below hb)
      clear hb
      go_upto_region 21 with (refine wpList_store_blk 26 34 (by kernel_rfl) rfl _ _ rfl w5.heap.size key0 (by rfl) (key_one _ _ _) rfl rfl _ (MapKept.heap_alloc w5 _).1 (by rfl) ?_)
      intro w6 s1 s2 s3
      have hb2 : Below w5.heap.size w5 w6 := ((Below.refl w5.heap.size w5).alloc (Nat.le_refl _) _).trans ⟨s3.os, s3.tape, s3.output, s3.size, fun j hj => s3.block j (by simp; omega) (by simp; omega)⟩
      have HB6 := Lib.hid (HB5.out.trans (hb2.mono HB5.out.size))
      have HD6 := Lib.hid (HD5.out.below hb2)
      clear s1 s2 s3 hb2
      go_wp2_with fail
      refine (len_P d v R w6 HD6.out).mono ?_
      rintro e w7 ⟨rfl, hb⟩
      have HB7 := Lib.hid (HB6.out.trans (hb.mono HB6.out.size))
      have HD7 := Lib.hid (HD6.out.below hb)
      clear hb
      go_wp2_with fail
      refine (text_P d v R w7 HT5.out HD7.out).mono ?_
      rintro e w8 ⟨rfl, hb⟩
      have HB8 := Lib.hid (HB7.out.trans (hb.mono HB7.out.size))
      have HD8 := Lib.hid (HD7.out.below hb)
      clear hb
      go_wp2_with fail
      refine (size_P d v R w8 HD8.out).mono ?_
      rintro e w9 ⟨rfl, hb⟩
      have HB9 := Lib.hid (HB8.out.trans (hb.mono HB8.out.size))
      have i9 : (liveM R : Int) ≤ tot R := by have := liveM_tot R; omega
      clear hb
      go_wp2_with fail
      refine (awake_any w9).mono ?_
      rintro e w10 ⟨rfl, hb⟩
      have HB10 := Lib.hid (HB9.out.trans (hb.mono HB9.out.size))
      clear hb
      go_wp2
      go_ret
      exact ⟨rfl, HB10.out⟩
set_option maxRecDepth 100000 in
theorem blockPlaces_walk {H : Type} {enc : TypeId × Value → H} {W : World} {b0 : Nat} {v1 : Value} {d1 : DataW H} {p1 : List MemPlace}
    (k1 : Value.okWide Try.prog W .any b0 22 v1) (h1 : DataW.Trod enc Try.prog W 0 (fun _ => true) true 22 v1 d1 p1) :
    Calls Try.prog 6 #[v1] W fun e w' => e = .returned (.bool true) ∧ Below W.heap.size W w' := by
  obtain ⟨xs, p, c, rfl, _, _, hi, _⟩ := reads_acts h1 (okWide_slice Try.underlying22 k1)
  exact lawPlaces_any p c xs W hi
end Go.Proofs.Ytcgioboiebanpaa
