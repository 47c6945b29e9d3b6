/- The law DagLogs. -/
import Derived.Test.YtmmmimkikakalaaOh
namespace Go.Proofs.Ytmmmimkikakalaa
open Go.RowKit Go.WideShapes Go.ChangeShapes Go.ChangeMaps Go.Deep
set_option linter.unusedVariables false

theorem log_at (gb mb : Nat) (G : List GN) (x : List UInt8) (w : World) (hlen : G.length ≤ 400) (hwf : Wf G) (hG : GraphAt w gb mb G) (hx : isNode G x = true) :
    Calls Try.prog 18 #[.pointer (some ⟨gb, 0, none⟩), .agg (idB x)] w fun e w' => ∃ p c, e = .returned (.tuple #[.slice p (pastL G x).length c, .int .i64 0]) ∧ SlI w' (.slice p (pastL G x).length c) (logL G x) ∧ Below w.heap.size w w' := by
  have := log_node gb mb G x w hlen hwf hG hx
  unfold Ans at this
  rwa [logL_len] at this
theorem set_log (G : List GN) (x : List UInt8) (p : Option Addr) (c : Nat) (w : World) (hwf : Wf G) (hlen : G.length ≤ 400) (h : SlI w (.slice p (pastL G x).length c) (logL G x)) : Calls Try.prog 20 #[.slice p (pastL G x).length c] w (Ans1 w (pastL G x)) := by
  obtain ⟨b, c', he, h1, h2, h3, h4⟩ := h
  injection he with e1 _ e3
  subst e1; subst e3
  have hl := pastL_len G x
  have := set_any p c (logL G x) w h1 h2 (by rw [logL_len]; omega) h3 h4
  rw [logL_set hwf, logL_len] at this
  exact this.mono fun _ _ h => ans1_row (pastL_32 hwf) h

set_option maxHeartbeats 4000000 in
set_option maxRecDepth 100000 in
theorem lawLogs_any (p : Option Addr) (c : Nat) (L : List GN) (w : World) (hL : RefG w p L) :
    Calls Try.prog 5 #[.slice p L.length c] w fun e w' => e = .returned (.bool true) ∧ Below w.heap.size w w' := by
  have HLW := Lib.hid hL
  clear hL
  go_enter Try.func5, Try.ntmps5
  go_wp2_with fail
  refine (light_any p c L w HLW.out).mono ?_
  rintro e w1 ⟨rfl, h1⟩
  have HB1 := Lib.hid h1
  clear h1
  by_cases hl : lightG L = true
  case neg =>
    have hl' : lightG L = false := by simpa using hl
    clear hl
    go_wp2_with fail
    go_ret
    exact ⟨rfl, HB1.out⟩
  case pos =>
    have HL := Lib.hid hl
    go_wp2_with fail
    refine (built_all p c L w1 HL.out (HLW.out.below HB1.out)).mono ?_
    rintro e w2 ⟨gb, mb, p', c', G, rfl, hlen, hwf, hG, hR, h2⟩
    have HLEN := Lib.hid (show G.length ≤ 400 by omega)
    have HWF := Lib.hid hwf
    have HB2 := Lib.hid (HB1.out.trans (h2.mono HB1.out.size))
    have HG2 := Lib.hid hG
    clear hl hlen hwf hG hR h2
    go_wp2_with fail
    refine (ids_all gb mb G w2 HLEN.out HWF.out HG2.out).mono ?_
    rintro e w3 ⟨p6, c6, rfl, hs, h3⟩
    have HIN := Lib.hid hs.in
    have HG := Lib.hid (HG2.out.below h3)
    have HB3 := Lib.hid (HB2.out.trans (h3.mono HB2.out.size))
    have HIL := Lib.hid (idsL_len G)
    have HIN2 := Lib.hid (@idsL_node G)
    have hcb : (idsL G).length ≤ 1000000 := by have := idsL_len G; have := HLEN.out; omega
    clear hs h3
    generalize idsL G = I at *
    go_wp2_with fail
    go_loopg [7] I.length (fun g i wr => ∃ (k : Nat), g + k = I.length ∧ i = .int .i64 k ∧ Below w3.heap.size w3 wr)
    case atStart => exact ⟨0, by omega, rfl, Below.refl _ _⟩
    case round =>
      obtain ⟨k, hg, rfl, hb⟩ := hrel
      have HGK := Lib.hid hg
      have HBR := Lib.hid hb
      clear hg hb
      by_cases hk : k < I.length
      · have HK := Lib.hid hk
        rcases HIN.out.2 with h | ⟨bm, offm, rfl, hc⟩
        · rw [h] at hk; simp at hk
        have HIK := Lib.hid (hc k hk)
        have HXM := Lib.hid (getD_mem hk)
        obtain ⟨x, hx⟩ : ∃ x, x = I.getD k [] := ⟨_, rfl⟩
        rw [← hx] at HIK HXM
        have HNX := Lib.hid (HIN2.out x HXM.out)
        have HX32 := Lib.hid (isNode_len HWF.out HNX.out)
        have hidx := idOk_agg x HX32.out
        have hxx : (x == x) = true := beq_self_eq_true x
        have hx32 := HX32.out
        have i1 : (k : Int) < I.length := by omega
        have f1 := (IdAt.below HIK.out HBR.out).1
        have f2 := (IdAt.below HIK.out HBR.out).2
        have q7 := f1.lt
        simp only at q7
        have HPLN := Lib.hid (pastL_len G x)
        have HLL := Lib.hid (logL_len G x)
        have hcp2 : (pastL G x).length ≤ 1000000 := by have := HPLN.out; have := HLEN.out; omega
        clear hc hx
        go_wp2_with fail
        refine (log_at gb mb G x wr HLEN.out HWF.out (HG.out.below HBR.out) HNX.out).mono ?_
        rintro e w4 ⟨p8, c8, rfl, hs, h4⟩
        have HS8 := Lib.hid hs
        have HB4 := Lib.hid (HBR.out.trans (h4.mono HBR.out.size))
        clear hs h4 f1 f2 q7
        have f1 := (IdAt.below HIK.out HB4.out).1
        have f2 := (IdAt.below HIK.out HB4.out).2
        have q7 := f1.lt
        simp only at q7
        go_wp2_with fail
        refine (past_node gb mb G x w4 HLEN.out HWF.out (HG.out.below HB4.out) HNX.out).mono ?_
        rintro e w5 ⟨p10, c10, rfl, hs, h5⟩
        have HS10 := Lib.hid hs.in
        have HLS := Lib.hid (HS8.out.below h5)
        have HLG := Lib.hid HLS.out.in
        have HB5 := Lib.hid (HB4.out.trans (h5.mono HB4.out.size))
        clear hs h5 f1 f2 q7 HS8
        have f1 := (IdAt.below HIK.out HB5.out).1
        have f2 := (IdAt.below HIK.out HB5.out).2
        have q7 := f1.lt
        have HFI := Lib.hid (logL_first HWF.out HNX.out)
        obtain ⟨bl, offl, hpl, hcl0⟩ : ∃ bl offl, p8 = some ⟨bl, offl, none⟩ ∧ fits w5 ⟨bl, offl, none⟩ 32 ∧ aggAt w5 ⟨bl, offl, none⟩ 32 = idB x := by
          rcases HLG.out.2 with h | ⟨bp, offp, rfl, hc⟩
          · have := HFI.out.1; rw [h] at this; simp at this
          · have := hc 0 HFI.out.1
            rw [HFI.out.2, Nat.zero_mul, Nat.add_zero] at this
            exact ⟨bp, offp, rfl, this⟩
        subst hpl
        have g1 := hcl0.1
        have g2 := hcl0.2
        have q8 := g1.lt
        simp only at q7 q8
        have i9 : (0 : Int) < (pastL G x).length := by have := HFI.out.1; have := HLL.out; omega
        have HSET := Lib.hid (fun (W : World) (h : SlI W (.slice (some ⟨bl, offl, none⟩) (pastL G x).length c8) (logL G x)) => set_log G x (some ⟨bl, offl, none⟩) c8 W HWF.out HLEN.out h)
        have HORD0 := Lib.hid (fun (j m : Nat) (hj : j < (logL G x).length) (hm : m < j) => logL_order HWF.out (x := x) (k := j) (m := m) hj hm)
        have HLN := Lib.hid (fun y (hy : y ∈ logL G x) => pastL_node y (logL_mem HWF.out y hy))
        have HL32 := Lib.hid (logL_32 HWF.out (x := x))
        clear hcl0
        generalize logL G x = LL at *
        generalize pastL G x = PA at *
        go_upto_region 10 with fail
        apply wp_region_specsL [[], [0], [1], [2], [2, 3], [2], [2, 5], [2, 4, 6], [2, 7], [8], [9], [9, 10], [9], [9, 11, 12], [9, 13], [9, 14], [15], [16], [16, 17], [16, 18], [16], [16], [16, 20, 21], [16, 22], [16, 19, 23], [16, 24]] [some 51, some 52, some 53, some 54, some 55, some 56, some 57, some 58, some 59, some 60, some 61, some 62, some 63, some 64, some 65, some 66, some 67, some 68, some 69, some 70, some 71, some 72, some 73, some 74, some 75, some 76] [0, 1, 2, 3, 4, 5, 6, 7, 8, 9, 10, 11, 12, 13, 14, 15, 16, 17, 18, 19, 20, 21, 22, 23, 24, 25]
          [eqv _, eqv _, eqv _, eqv _, eqv _, eqv _, eqv _, eqv _, eqv _, eqv _, eqv _, slW PA, eqv _, eqv _, eqv _, eqv _, eqv _, eqv _, eqv (Value.pointer (some ⟨bl, offl, none⟩)), eqv _, eqv _, eqv _, eqv _, eqv _, eqv _, eqv _]
        case hm => kernel_rfl
        case hok => kernel_rfl
        case hop =>
          refine ⟨?_, ?_, ?_, ?_, ?_, ?_, ?_, ?_, ?_, ?_, ?_, ?_, ?_, ?_, ?_, ?_, ?_, ?_, ?_, ?_, ?_, ?_, ?_, ?_, ?_, ?_, trivial⟩
          · intro vs w1 hr _ hd
            obtain ⟨x1, rfl⟩ := ov_of hr
            clear hr
            simp only [putL]
            clear hd 
            go_wp2
            exact opEnds_mk rfl (by simp only [List.getElem?_toArray, List.getElem?_cons_succ, List.getElem?_cons_zero] <;> rfl) rfl (Below.refl _ _) rfl
          · intro vs w1 hr _ hd
            obtain ⟨x1, rfl⟩ := ov_of hr
            clear hr
            have h0 := hd.get 0 rfl
            change vs 0 = _ at h0
            simp only [putL, h0]
            clear hd h0
            go_wp2
            exact opEnds_mk rfl (by simp only [List.getElem?_toArray, List.getElem?_cons_succ, List.getElem?_cons_zero] <;> rfl) rfl (Below.refl _ _) rfl
          · intro vs w1 hr _ hd
            obtain ⟨x1, rfl⟩ := ov_of hr
            clear hr
            have h1 := hd.get 1 rfl
            change vs 1 = _ at h1
            simp only [putL, h1]
            clear hd h1
            go_wp2
            exact opEnds_mk rfl (by simp only [List.getElem?_toArray, List.getElem?_cons_succ, List.getElem?_cons_zero] <;> rfl) rfl (Below.refl _ _) rfl
          · intro vs w1 hr _ hd
            obtain ⟨x1, rfl⟩ := ov_of hr
            clear hr
            have h2 := hd.get 2 rfl
            change vs 2 = _ at h2
            simp only [putL, h2]
            clear hd h2
            go_wp2
            exact opEnds_mk rfl (by simp only [List.getElem?_toArray, List.getElem?_cons_succ, List.getElem?_cons_zero] <;> rfl) rfl (Below.refl _ _) rfl
          · intro vs w1 hr _ hd
            obtain ⟨x1, rfl⟩ := ov_of hr
            clear hr
            have h2 := hd.get 2 rfl
            change vs 2 = _ at h2
            have h3 := hd.get 3 rfl
            change vs 3 = _ at h3
            simp only [putL, h2, h3]
            clear hd h2 h3
            go_wp2
            exact opEnds_mk rfl (by simp only [List.getElem?_toArray, List.getElem?_cons_succ, List.getElem?_cons_zero] <;> rfl) rfl (Below.refl _ _) rfl
          · intro vs w1 hr _ hd
            obtain ⟨x1, rfl⟩ := ov_of hr
            clear hr
            have h2 := hd.get 2 rfl
            change vs 2 = _ at h2
            simp only [putL, h2]
            clear hd h2
            go_wp2
            exact opEnds_mk rfl (by simp only [List.getElem?_toArray, List.getElem?_cons_succ, List.getElem?_cons_zero] <;> rfl) rfl (Below.refl _ _) rfl
          · intro vs w1 hr _ hd
            obtain ⟨x1, rfl⟩ := ov_of hr
            clear hr
            have h2 := hd.get 2 rfl
            change vs 2 = _ at h2
            have h5 := hd.get 5 rfl
            change vs 5 = _ at h5
            simp only [putL, h2, h5]
            clear hd h2 h5
            go_wp2
            exact opEnds_mk rfl (by simp only [List.getElem?_toArray, List.getElem?_cons_succ, List.getElem?_cons_zero] <;> rfl) rfl (Below.refl _ _) rfl
          · intro vs w1 hr _ hd
            obtain ⟨x1, rfl⟩ := ov_of hr
            clear hr
            have h2 := hd.get 2 rfl
            change vs 2 = _ at h2
            have h4 := hd.get 4 rfl
            change vs 4 = _ at h4
            have h6 := hd.get 6 rfl
            change vs 6 = _ at h6
            simp only [putL, h2, h4, h6]
            clear hd h2 h4 h6
            go_wp2
            exact opEnds_mk rfl (by simp only [List.getElem?_toArray, List.getElem?_cons_succ, List.getElem?_cons_zero] <;> rfl) rfl (Below.refl _ _) rfl
          · intro vs w1 hr _ hd
            obtain ⟨x1, rfl⟩ := ov_of hr
            clear hr
            have h2 := hd.get 2 rfl
            change vs 2 = _ at h2
            have h7 := hd.get 7 rfl
            change vs 7 = _ at h7
            simp only [putL, h2, h7]
            clear hd h2 h7
            go_wp2
            exact opEnds_mk rfl (by simp only [List.getElem?_toArray, List.getElem?_cons_succ, List.getElem?_cons_zero] <;> rfl) rfl (Below.refl _ _) rfl
          · intro vs w1 hr _ hd
            obtain ⟨x1, rfl⟩ := ov_of hr
            clear hr
            have h8 := hd.get 8 rfl
            change vs 8 = _ at h8
            simp only [putL, h8]
            clear hd h8
            go_wp2
            exact opEnds_mk rfl (by simp only [List.getElem?_toArray, List.getElem?_cons_succ, List.getElem?_cons_zero] <;> rfl) rfl (Below.refl _ _) rfl
          · intro vs w1 hr _ hd
            obtain ⟨x1, rfl⟩ := ov_of hr
            clear hr
            have h9 := hd.get 9 rfl
            change vs 9 = _ at h9
            simp only [putL, h9]
            clear hd h9
            go_wp2
            exact opEnds_mk rfl (by simp only [List.getElem?_toArray, List.getElem?_cons_succ, List.getElem?_cons_zero] <;> rfl) rfl (Below.refl _ _) rfl
          · intro vs w1 hr _ hd
            obtain ⟨x1, rfl⟩ := ov_of hr
            clear hr
            have h9 := hd.get 9 rfl
            change vs 9 = _ at h9
            have h10 := hd.get 10 rfl
            change vs 10 = _ at h10
            simp only [putL, h9, h10]
            clear hd h9 h10
            go_wp2_with fail
            refine (HSET.out (ov w5 x1) (HLS.out.below (ov_below w5 x1))).mono ?_
            rintro e w2 ⟨pa, ca, rfl, hsa, hb2⟩
            have HSA := Lib.hid hsa
            clear hsa
            go_wp2
            exact opEnds_mk rfl (by simp only [List.getElem?_toArray, List.getElem?_cons_succ, List.getElem?_cons_zero] <;> rfl) rfl hb2 ⟨pa, ca, rfl, HSA.out⟩
          · intro vs w1 hr _ hd
            obtain ⟨x1, rfl⟩ := ov_of hr
            clear hr
            have h9 := hd.get 9 rfl
            change vs 9 = _ at h9
            simp only [putL, h9]
            clear hd h9
            go_wp2
            exact opEnds_mk rfl (by simp only [List.getElem?_toArray, List.getElem?_cons_succ, List.getElem?_cons_zero] <;> rfl) rfl (Below.refl _ _) rfl
          · intro vs w1 hr _ hd
            obtain ⟨x1, rfl⟩ := ov_of hr
            clear hr
            have h9 := hd.get 9 rfl
            change vs 9 = _ at h9
            have h11 := hd.get 11 rfl
            obtain ⟨p11, c11, e11, s11⟩ := h11
            have h12 := hd.get 12 rfl
            change vs 12 = _ at h12
            have HS11 := Lib.hid s11.in
            clear s11
            simp only [putL, h9, e11, h12]
            clear hd h9 e11 h12
            go_wp2_with fail
            refine (same_self p11 p10 c11 c10 PA (ov w5 x1) PA.length PA.length rfl rfl hcp2 HS11.out (HS10.out.below (ov_below w5 x1))).mono ?_
            rintro e w2 ⟨rfl, hb2⟩
            go_wp2
            exact opEnds_mk rfl (by simp only [List.getElem?_toArray, List.getElem?_cons_succ, List.getElem?_cons_zero] <;> rfl) rfl (hb2) rfl
          · intro vs w1 hr _ hd
            obtain ⟨x1, rfl⟩ := ov_of hr
            clear hr
            have h9 := hd.get 9 rfl
            change vs 9 = _ at h9
            have h13 := hd.get 13 rfl
            change vs 13 = _ at h13
            simp only [putL, h9, h13]
            clear hd h9 h13
            go_wp2
            exact opEnds_mk rfl (by simp only [List.getElem?_toArray, List.getElem?_cons_succ, List.getElem?_cons_zero] <;> rfl) rfl (Below.refl _ _) rfl
          · intro vs w1 hr _ hd
            obtain ⟨x1, rfl⟩ := ov_of hr
            clear hr
            have h9 := hd.get 9 rfl
            change vs 9 = _ at h9
            have h14 := hd.get 14 rfl
            change vs 14 = _ at h14
            simp only [putL, h9, h14]
            clear hd h9 h14
            go_wp2
            exact opEnds_mk rfl (by simp only [List.getElem?_toArray, List.getElem?_cons_succ, List.getElem?_cons_zero] <;> rfl) rfl (Below.refl _ _) rfl
          · intro vs w1 hr _ hd
            obtain ⟨x1, rfl⟩ := ov_of hr
            clear hr
            have h15 := hd.get 15 rfl
            change vs 15 = _ at h15
            simp only [putL, h15]
            clear hd h15
            go_wp2
            exact opEnds_mk rfl (by simp only [List.getElem?_toArray, List.getElem?_cons_succ, List.getElem?_cons_zero] <;> rfl) rfl (Below.refl _ _) rfl
          · intro vs w1 hr _ hd
            obtain ⟨x1, rfl⟩ := ov_of hr
            clear hr
            have h16 := hd.get 16 rfl
            change vs 16 = _ at h16
            simp only [putL, h16]
            clear hd h16
            go_wp2
            exact opEnds_mk rfl (by simp only [List.getElem?_toArray, List.getElem?_cons_succ, List.getElem?_cons_zero] <;> rfl) rfl (Below.refl _ _) rfl
          · intro vs w1 hr _ hd
            obtain ⟨x1, rfl⟩ := ov_of hr
            clear hr
            have h16 := hd.get 16 rfl
            change vs 16 = _ at h16
            have h17 := hd.get 17 rfl
            change vs 17 = _ at h17
            simp only [putL, h16, h17]
            clear hd h16 h17
            go_wp2
            exact opEnds_mk rfl (by simp only [List.getElem?_toArray, List.getElem?_cons_succ, List.getElem?_cons_zero] <;> rfl) rfl (Below.refl _ _) rfl
          · intro vs w1 hr _ hd
            obtain ⟨x1, rfl⟩ := ov_of hr
            clear hr
            have h16 := hd.get 16 rfl
            change vs 16 = _ at h16
            have h18 := hd.get 18 rfl
            change vs 18 = _ at h18
            simp only [putL, h16, h18]
            clear hd h16 h18
            go_wp2
            exact opEnds_mk rfl (by simp only [List.getElem?_toArray, List.getElem?_cons_succ, List.getElem?_cons_zero] <;> rfl) rfl (Below.refl _ _) rfl
          · intro vs w1 hr _ hd
            obtain ⟨x1, rfl⟩ := ov_of hr
            clear hr
            have h16 := hd.get 16 rfl
            change vs 16 = _ at h16
            simp only [putL, h16]
            clear hd h16
            go_wp2
            exact opEnds_mk rfl (by simp only [List.getElem?_toArray, List.getElem?_cons_succ, List.getElem?_cons_zero] <;> rfl) rfl (Below.refl _ _) rfl
          · intro vs w1 hr _ hd
            obtain ⟨x1, rfl⟩ := ov_of hr
            clear hr
            have h16 := hd.get 16 rfl
            change vs 16 = _ at h16
            simp only [putL, h16]
            clear hd h16
            go_wp2
            exact opEnds_mk rfl (by simp only [List.getElem?_toArray, List.getElem?_cons_succ, List.getElem?_cons_zero] <;> rfl) rfl (Below.refl _ _) rfl
          · intro vs w1 hr _ hd
            obtain ⟨x1, rfl⟩ := ov_of hr
            clear hr
            have h16 := hd.get 16 rfl
            change vs 16 = _ at h16
            have h20 := hd.get 20 rfl
            change vs 20 = _ at h20
            have h21 := hd.get 21 rfl
            change vs 21 = _ at h21
            simp only [putL, h16, h20, h21]
            clear hd h16 h20 h21
            go_wp2
            exact opEnds_mk rfl (by simp only [List.getElem?_toArray, List.getElem?_cons_succ, List.getElem?_cons_zero] <;> rfl) rfl (Below.refl _ _) rfl
          · intro vs w1 hr _ hd
            obtain ⟨x1, rfl⟩ := ov_of hr
            clear hr
            have h16 := hd.get 16 rfl
            change vs 16 = _ at h16
            have h22 := hd.get 22 rfl
            change vs 22 = _ at h22
            simp only [putL, h16, h22]
            clear hd h16 h22
            go_wp2
            exact opEnds_mk rfl (by simp only [List.getElem?_toArray, List.getElem?_cons_succ, List.getElem?_cons_zero] <;> rfl) rfl (Below.refl _ _) rfl
          · intro vs w1 hr _ hd
            obtain ⟨x1, rfl⟩ := ov_of hr
            clear hr
            have h16 := hd.get 16 rfl
            change vs 16 = _ at h16
            have h19 := hd.get 19 rfl
            change vs 19 = _ at h19
            have h23 := hd.get 23 rfl
            change vs 23 = _ at h23
            simp only [putL, h16, h19, h23]
            clear hd h16 h19 h23
            go_wp2
            exact opEnds_mk rfl (by simp only [List.getElem?_toArray, List.getElem?_cons_succ, List.getElem?_cons_zero] <;> rfl) rfl (Below.refl _ _) rfl
          · intro vs w1 hr _ hd
            obtain ⟨x1, rfl⟩ := ov_of hr
            clear hr
            have h16 := hd.get 16 rfl
            change vs 16 = _ at h16
            have h24 := hd.get 24 rfl
            change vs 24 = _ at h24
            simp only [putL, h16, h24]
            clear hd h16 h24
            go_wp2
            exact opEnds_mk rfl (by simp only [List.getElem?_toArray, List.getElem?_cons_succ, List.getElem?_cons_zero] <;> rfl) rfl (Below.refl _ _) rfl
        case hst => exact ⟨eqv_st _ _, eqv_st _ _, eqv_st _ _, eqv_st _ _, eqv_st _ _, eqv_st _ _, eqv_st _ _, eqv_st _ _, eqv_st _ _, eqv_st _ _, eqv_st _ _, slW_st _, eqv_st _ _, eqv_st _ _, eqv_st _ _, eqv_st _ _, eqv_st _ _, eqv_st _ _, eqv_st _ _, eqv_st _ _, eqv_st _ _, eqv_st _ _, eqv_st _ _, eqv_st _ _, eqv_st _ _, eqv_st _ _, trivial⟩
        case hend =>
          intro vs w1 hr hd
          have h0 := hd.get 0 rfl
          change vs 0 = _ at h0
          have h1 := hd.get 1 rfl
          change vs 1 = _ at h1
          have h2 := hd.get 2 rfl
          change vs 2 = _ at h2
          have h3 := hd.get 3 rfl
          change vs 3 = _ at h3
          have h4 := hd.get 4 rfl
          change vs 4 = _ at h4
          have h5 := hd.get 5 rfl
          change vs 5 = _ at h5
          have h6 := hd.get 6 rfl
          change vs 6 = _ at h6
          have h7 := hd.get 7 rfl
          change vs 7 = _ at h7
          have h8 := hd.get 8 rfl
          change vs 8 = _ at h8
          have h9 := hd.get 9 rfl
          change vs 9 = _ at h9
          have h10 := hd.get 10 rfl
          change vs 10 = _ at h10
          have h11 := hd.get 11 rfl
          have h12 := hd.get 12 rfl
          change vs 12 = _ at h12
          have h13 := hd.get 13 rfl
          change vs 13 = _ at h13
          have h14 := hd.get 14 rfl
          change vs 14 = _ at h14
          have h15 := hd.get 15 rfl
          change vs 15 = _ at h15
          have h16 := hd.get 16 rfl
          change vs 16 = _ at h16
          have h17 := hd.get 17 rfl
          change vs 17 = _ at h17
          have h18 := hd.get 18 rfl
          have h19 := hd.get 19 rfl
          change vs 19 = _ at h19
          have h20 := hd.get 20 rfl
          change vs 20 = _ at h20
          have h21 := hd.get 21 rfl
          change vs 21 = _ at h21
          have h22 := hd.get 22 rfl
          change vs 22 = _ at h22
          have h23 := hd.get 23 rfl
          change vs 23 = _ at h23
          have h24 := hd.get 24 rfl
          change vs 24 = _ at h24
          have h25 := hd.get 25 rfl
          change vs 25 = _ at h25
          obtain ⟨x1, rfl⟩ := ov_of hr
          simp only [putL, List.getD_cons_zero, List.getD_cons_succ, Act.put, List.setIfInBounds_toArray, List.set_cons_zero, List.set_cons_succ, h0, h1, h2, h3, h4, h5, h6, h7, h8, h9, h10, h12, h13, h14, h15, h16, h17, h19, h20, h21, h22, h23, h24, h25]
          clear hd hr h0 h1 h2 h3 h4 h5 h6 h7 h8 h9 h10 h12 h13 h14 h15 h16 h17 h19 h20 h21 h22 h23 h24 h25
          have HB7 := Lib.hid (HB5.out.trans ((ov_below w5 x1).mono HB5.out.size))
          have HLG7 := Lib.hid (HLG.out.below (ov_below w5 x1))
          change vs 18 = _ at h18
          simp only [h18]
          clear h11 h18 f1 f2 g1 g2
          generalize vs 11 = z11
          generalize ov w5 x1 = w7 at *
          have hcl : PA.length ≤ 1000000 := hcp2
          go_wp2_with fail
          go_loopg [12] PA.length (fun g i wr2 => ∃ (j : Nat), g + j = PA.length ∧ i = .int .i64 j ∧ Below w7.heap.size w7 wr2)
          case atStart => exact ⟨0, by omega, rfl, Below.refl _ _⟩
          case round =>
            obtain ⟨j, hg, rfl, hb2⟩ := hrel
            have HG' := Lib.hid hg
            have HBQ := Lib.hid hb2
            have HB3Q := Lib.hid (HB7.out.trans (hb2.mono HB7.out.size))
            clear hg hb2
            by_cases hj : j < PA.length
            · have HJ := Lib.hid hj
              have hj2 : j < LL.length := by rw [HLL.out]; exact hj
              rcases HLG7.out.2 with h | ⟨bp, offp, he, hc⟩
              · rw [h] at hj2; simp at hj2
              cases he
              have HC := Lib.hid hc
              have HIJ := Lib.hid (hc j hj2)
              have HYM := Lib.hid (getD_mem hj2)
              have HORD := Lib.hid (fun m (hm : m < j) => HORD0.out j m hj2 hm)
              obtain ⟨y, hy⟩ : ∃ y, y = LL.getD j [] := ⟨_, rfl⟩
              rw [← hy] at HIJ HYM HORD
              have HNY := Lib.hid (HLN.out y HYM.out)
              have i2 : (j : Int) < PA.length := by omega
              have f1 := (IdAt.below HIJ.out HBQ.out).1
              have f2 := (IdAt.below HIJ.out HBQ.out).2
              have q7 := f1.lt
              simp only at q7
              have HPYL := Lib.hid (pars_len HWF.out y)
              clear hc hy hj2
              go_wp2_with fail
              refine (parents_node gb mb G y wr HWF.out (HG.out.below HB3Q.out) HNY.out).mono ?_
              rintro e w8 ⟨p13, c13, rfl, hs, h8⟩
              have HS13 := Lib.hid hs.in
              have HB8 := Lib.hid (HBQ.out.trans (h8.mono HBQ.out.size))
              have hcp3 : (parsOf G y).length ≤ 1000000 := by have := HPYL.out; omega
              clear hs h8 f1 f2 q7
              generalize parsOf G y = PY at *
              go_wp2_with fail
              go_loopg [15] j (fun g i wr2 => ∃ (m : Nat), g + m = j ∧ i = .int .i64 m ∧ Below w8.heap.size w8 wr2)
              case atStart => exact ⟨0, by omega, rfl, Below.refl _ _⟩
              case round =>
                obtain ⟨m, hg, rfl, hb2⟩ := hrel
                have HGM := Lib.hid hg
                have HBM := Lib.hid hb2
                have HB7M := Lib.hid (HB8.out.trans (hb2.mono HB8.out.size))
                clear hg hb2
                by_cases hm : m < j
                · have HM := Lib.hid hm
                  have hm2 : m < LL.length := by rw [HLL.out]; omega
                  have HIM := Lib.hid (HC.out m hm2)
                  have HZ := Lib.hid (HORD.out m hm)
                  have HZM := Lib.hid (getD_mem hm2)
                  obtain ⟨z, hz⟩ : ∃ z, z = LL.getD m [] := ⟨_, rfl⟩
                  rw [← hz] at HIM HZ HZM
                  have HZ32 := Lib.hid (HL32.out z HZM.out)
                  have i3 : (m : Int) < j := by omega
                  have i4 : (m : Int) < PA.length := by omega
                  have f1 := (IdAt.below HIM.out HB7M.out).1
                  have f2 := (IdAt.below HIM.out HB7M.out).2
                  have q7 := f1.lt
                  simp only at q7
                  have HIA := Lib.hid (in_any p13 c13 PY z wr hcp3 (HS13.out.below HBM.out) HZ32.out)
                  rw [decide_eq_false HZ.out] at HIA
                  clear hz hm2
                  go_wp2_with fail
                  refine HIA.out.mono ?_
                  rintro e w9 ⟨rfl, h9⟩
                  have HB9 := Lib.hid (HBM.out.trans (h9.mono HBM.out.size))
                  clear h9 f1 f2 q7 HIA
                  go_wp2_with fail
                  go_roundg (gk - 1)
                  case measure => have := HGM.out; have := HM.out; omega
                  case rel => exact ⟨m + 1, by have := HGM.out; have := HM.out; omega, by go_num, HB9.out⟩
                · have i3 : ¬ (m : Int) < j := by omega
                  go_wp2_with fail
                  go_roundg (PA.length - (j + 1))
                  case measure => have := HG'.out; have := HJ.out; omega
                  case rel => exact ⟨j + 1, by have := HG'.out; have := HJ.out; omega, by go_num, HB7M.out⟩
            · have i2 : ¬ (j : Int) < PA.length := by omega
              go_wp2_with fail
              go_roundg (I.length - (k + 1))
              case measure => have := HGK.out; have := HK.out; omega
              case rel => exact ⟨k + 1, by have := HGK.out; have := HK.out; omega, by go_num, HB3Q.out⟩
      · have i1 : ¬ (k : Int) < I.length := by omega
        go_wp2_with fail
        refine (awake_any wr).mono ?_
        rintro e w9 ⟨rfl, h9⟩
        have HB9 := Lib.hid (HB3.out.trans ((HBR.out.trans (h9.mono HBR.out.size)).mono HB3.out.size))
        clear h9
        go_wp2_with fail
        go_ret
        exact ⟨rfl, HB9.out⟩
theorem dagLogs_walk {H : Type} {enc : TypeId × Value → H} {W : World} {b0 : Nat} {v0 : Value} {d0 : DataW H} {p0 : List MemPlace}
    (k0 : Value.okWide Try.prog W .any b0 22 v0) (h0 : DataW.Trod enc Try.prog W 0 (fun _ => true) true 22 v0 d0 p0) :
    Calls Try.prog 5 #[v0] W fun e w' => e = .returned (.bool true) ∧ Below W.heap.size W w' := by
  obtain ⟨p, c, L, rfl, hL⟩ := reads_gn h0 (okWide_slice Try.underlying22 k0)
  exact lawLogs_any p c L W hL
end Go.Proofs.Ytmmmimkikakalaa
