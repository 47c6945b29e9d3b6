/- The law DagPast. -/
import Derived.Test.YtmmmimkikakalaaOg
import Derived.Test.YtmmmimkikakalaaOf
namespace Go.Proofs.Ytmmmimkikakalaa
open Go.RowKit Go.WideShapes Go.ChangeShapes Go.ChangeMaps Go.Deep
set_option linter.unusedVariables false

/-- A slice of ids and a code; a slice of ids. -/
def ansV (L : List (List UInt8)) (er : Int) : Value → World → Prop := fun v w => ∃ p c, v = .tuple #[.slice p L.length c, .int .i64 er] ∧ SlI w (.slice p L.length c) L
def slW (L : List (List UInt8)) : Value → World → Prop := fun v w => ∃ p c, v = .slice p L.length c ∧ SlI w (.slice p L.length c) L
theorem ansV_st (L : List (List UInt8)) (er : Int) : ∀ v w w', ansV L er v w → Below w.heap.size w w' → ansV L er v w' := fun _ _ _ ⟨p, c, h, hs⟩ hb => ⟨p, c, h, hs.below hb⟩
theorem slW_st (L : List (List UInt8)) : ∀ v w w', slW L v w → Below w.heap.size w w' → slW L v w' := fun _ _ _ ⟨p, c, h, hs⟩ hb => ⟨p, c, h, hs.below hb⟩
theorem same_self (a a' : Option Addr) (cap cap' : Nat) (xs : List (List UInt8)) (w : World) (n m : Nat) (hn : n = xs.length) (hm : m = xs.length) (hl : xs.length ≤ 1000000) (hin : IdsIn w a xs) (hin' : IdsIn w a' xs) :
    Calls Try.prog 13 #[.slice a n cap, .slice a' m cap'] w fun e w' => e = .returned (.bool true) ∧ Below w.heap.size w w' := by
  subst hn; subst hm
  have := same_any a a' cap cap' xs xs w hl hl hin hin'
  rwa [show (xs == xs) = true from beq_self_eq_true _] at this
theorem ids_new1 (w : World) (x : List UInt8) (hx : x.length = 32) : IdsIn (w.alloc (.cells (idB x) 24)) (some ⟨w.heap.size, 0, none⟩) [x] := by
  have := ids_new w [x] (by simp [hx])
  rwa [show (idsC [x]).toArray = idB x by simp [idsC, idB]] at this
theorem is_true (gb mb : Nat) (G : List GN) (a b : List UInt8) (ha : a.length = 32) (hb : b.length = 32) (w : World) (hlen : G.length ≤ 400) (hwf : Wf G) (hG : GraphAt w gb mb G) (hr : isR G a b = true) :
    Calls Try.prog 14 #[.pointer (some ⟨gb, 0, none⟩), .agg (idB a), .agg (idB b)] w fun e w' => e = .returned (.bool true) ∧ Below w.heap.size w w' := by
  have := is_any gb mb G a b ha hb w (by omega) hwf hG
  rwa [hr] at this
theorem bases_one (gb mb : Nat) (G : List GN) (a b : List UInt8) (w : World) (hlen : G.length ≤ 400) (hwf : Wf G) (hG : GraphAt w gb mb G) (ha : isNode G a = true) (hb : b ∈ pastL G a) :
    Calls Try.prog 11 #[.pointer (some ⟨gb, 0, none⟩), .agg (idB a), .agg (idB b)] w (Ans w [b] 0) := by
  have := bases_all gb mb G a b (isNode_len hwf ha) (pastL_32 hwf b hb) w hlen hwf hG
  rwa [(bases_past hwf ha hb).1, (bases_past hwf ha hb).2] at this
theorem past_node (gb mb : Nat) (G : List GN) (x : List UInt8) (w : World) (hlen : G.length ≤ 400) (hwf : Wf G) (hG : GraphAt w gb mb G) (hx : isNode G x = true) : Calls Try.prog 19 #[.pointer (some ⟨gb, 0, none⟩), .agg (idB x)] w (Ans w (pastL G x) 0) := by
  have := past_all gb mb G x (isNode_len hwf hx) w hlen hwf hG
  rwa [pastE_node hx, codeE_node hx] at this
theorem log_node (gb mb : Nat) (G : List GN) (x : List UInt8) (w : World) (hlen : G.length ≤ 400) (hwf : Wf G) (hG : GraphAt w gb mb G) (hx : isNode G x = true) : Calls Try.prog 18 #[.pointer (some ⟨gb, 0, none⟩), .agg (idB x)] w (Ans w (logL G x) 0) := by
  have := log_all gb mb G x (isNode_len hwf hx) w hlen hwf hG
  rwa [logE_node hx, codeE_node hx] at this
theorem parents_node (gb mb : Nat) (G : List GN) (x : List UInt8) (w : World) (hwf : Wf G) (hG : GraphAt w gb mb G) (hx : isNode G x = true) : Calls Try.prog 21 #[.pointer (some ⟨gb, 0, none⟩), .agg (idB x)] w (Ans w (parsOf G x) 0) := by
  have := parents_all gb mb G x (isNode_len hwf hx) w hwf hG
  rwa [codeE_node hx] at this
theorem union_sl (a a' : Option Addr) (n n' cap cap' : Nat) (xs ys : List (List UInt8)) (w : World) (hn : n = xs.length) (hn' : n' = ys.length) (hl : xs.length ≤ 1000) (hl' : ys.length ≤ 1000) (hx : SlI w (.slice a n cap) xs) (hy : SlI w (.slice a' n' cap') ys) :
    Calls Try.prog 23 #[.slice a n cap, .slice a' n' cap'] w (Ans1 w (setL (xs ++ ys))) := by
  subst hn; subst hn'
  obtain ⟨b, c, he, h1, h2, h3, h4⟩ := hx
  injection he with e1 _ e3
  subst e1; subst e3
  obtain ⟨b', c', he, k1, k2, k3, k4⟩ := hy
  injection he with e1 _ e3
  subst e1; subst e3
  exact (union_any a a' cap cap' xs ys w h1 h2 hl h3 h4 k1 k2 hl' k3 k4).mono fun _ _ h => ans1_row (setL_32 fun z hz => by
    rcases List.mem_append.1 hz with hz | hz
    · exact h3.1 z hz
    · exact k3.1 z hz) h
theorem idsL_node {G : List GN} : ∀ x ∈ idsL G, isNode G x = true := fun x hx => by
  unfold idsL at hx
  rw [setL_mem] at hx
  exact isNode_mem.2 hx

set_option maxHeartbeats 4000000 in
set_option maxRecDepth 100000 in
theorem lawPast_any (p : Option Addr) (c : Nat) (L : List GN) (w : World) (hL : RefG w p L) :
    Calls Try.prog 6 #[.slice p L.length c] w fun e w' => e = .returned (.bool true) ∧ Below w.heap.size w w' := by
  have HLW := Lib.hid hL
  clear hL
  go_enter Try.func6, Try.ntmps6
  go_wp2_with fail
  refine (light_any p c L w HLW.out).mono ?_
  rintro e w1 ⟨rfl, h1⟩
  have HB1 := Lib.hid h1
  clear h1
  by_cases hl : lightG L = true
  case neg =>
    have hl' : lightG L = false := by simpa using hl
    clear hl
    go_wp2_with fail
    go_ret
    exact ⟨rfl, HB1.out⟩
  case pos =>
    have HL := Lib.hid hl
    go_wp2_with fail
    refine (built_all p c L w1 HL.out (HLW.out.below HB1.out)).mono ?_
    rintro e w2 ⟨gb, mb, p', c', G, rfl, hlen, hwf, hG, hR, h2⟩
    have HLEN := Lib.hid (show G.length ≤ 400 by omega)
    have HWF := Lib.hid hwf
    have HB2 := Lib.hid (HB1.out.trans (h2.mono HB1.out.size))
    have HG2 := Lib.hid hG
    clear hl hlen hwf hG hR h2
    go_wp2_with fail
    refine (ids_all gb mb G w2 HLEN.out HWF.out HG2.out).mono ?_
    rintro e w3 ⟨p6, c6, rfl, hs, h3⟩
    have HIN := Lib.hid hs.in
    have HG := Lib.hid (HG2.out.below h3)
    have HB3 := Lib.hid (HB2.out.trans (h3.mono HB2.out.size))
    have HIL := Lib.hid (idsL_len G)
    have HIN2 := Lib.hid (@idsL_node G)
    have hcb : (idsL G).length ≤ 1000000 := by have := idsL_len G; have := HLEN.out; omega
    clear hs h3
    generalize idsL G = I at *
    go_wp2_with fail
    go_loopg [7] I.length (fun g i wr => ∃ (k : Nat), g + k = I.length ∧ i = .int .i64 k ∧ Below w3.heap.size w3 wr)
    case atStart => exact ⟨0, by omega, rfl, Below.refl _ _⟩
    case round =>
      obtain ⟨k, hg, rfl, hb⟩ := hrel
      have HGK := Lib.hid hg
      have HBR := Lib.hid hb
      clear hg hb
      by_cases hk : k < I.length
      · have HK := Lib.hid hk
        rcases HIN.out.2 with h | ⟨bm, offm, rfl, hc⟩
        · rw [h] at hk; simp at hk
        have HIK := Lib.hid (hc k hk)
        have HXM := Lib.hid (getD_mem hk)
        obtain ⟨x, hx⟩ : ∃ x, x = I.getD k [] := ⟨_, rfl⟩
        rw [← hx] at HIK HXM
        have HNX := Lib.hid (HIN2.out x HXM.out)
        have HX32 := Lib.hid (isNode_len HWF.out HNX.out)
        have hidx := idOk_agg x HX32.out
        have i1 : (k : Int) < I.length := by omega
        have f1 := (IdAt.below HIK.out HBR.out).1
        have f2 := (IdAt.below HIK.out HBR.out).2
        have q7 := f1.lt
        simp only at q7
        clear hc hx
        go_wp2_with fail
        refine (past_node gb mb G x wr HLEN.out HWF.out (HG.out.below HBR.out) HNX.out).mono ?_
        rintro e w4 ⟨p8, c8, rfl, hs, h4⟩
        have HS8 := Lib.hid hs
        have HB4 := Lib.hid (HBR.out.trans (h4.mono HBR.out.size))
        clear hs h4 f1 f2 q7
        have f1 := (IdAt.below HIK.out HB4.out).1
        have f2 := (IdAt.below HIK.out HB4.out).2
        have q7 := f1.lt
        simp only at q7
        go_wp2_with fail
        refine (parents_node gb mb G x w4 HWF.out (HG.out.below HB4.out) HNX.out).mono ?_
        rintro e w5 ⟨p10, c10, rfl, hs, h5⟩
        have HS10 := Lib.hid hs.in
        have HS8' := Lib.hid (HS8.out.below h5)
        have HB5 := Lib.hid (HB4.out.trans (h5.mono HB4.out.size))
        have HPL := Lib.hid (pars_len HWF.out x)
        have HPN := Lib.hid (fun y (hy : y ∈ parsOf G x) => (par_up HWF.out hy).2.1)
        have HA32 := Lib.hid (allN_32 HWF.out HNX.out)
        have HALN := Lib.hid (allN_len HWF.out HNX.out)
        have HALS := Lib.hid (show ∀ k, allN G x (k + 1) = setL (allN G x k ++ pastE G ((parsOf G x).getD k [])) from fun k => rfl)
        have HALE := Lib.hid (allN_past HWF.out HNX.out)
        have HPLN := Lib.hid (pastL_len G x)
        have hcp : (parsOf G x).length ≤ 1000000 := by have := HPL.out; omega
        have hcp2 : (pastL G x).length ≤ 1000000 := by have := HPLN.out; have := HLEN.out; omega
        clear hs h5 f1 f2 q7 HS8
        have f1 := (IdAt.below HIK.out HB5.out).1
        have f2 := (IdAt.below HIK.out HB5.out).2
        have q7 := f1.lt
        simp only at q7
        have HS0 := Lib.hid (slI_new w5 [x] 1 rfl (by simp [HX32.out]) (by simp) (by show 1 ≤ maxLen; decide))
        have HQ5 := Lib.hid ((Below.refl w5.heap.size w5).alloc (Nat.le_refl _) (.cells (idsC [x]).toArray 24))
        rw [show (idsC [x]).toArray = idB x by simp [idsC, idB]] at HS0 HQ5
        generalize hPX : parsOf G x = PX at *
        go_wp2_with fail
        clear f1 f2 q7
        go_loopg [12, 13] PX.length (fun g v12 i wr2 => ∃ (j : Nat) (pa : Option Addr) (ca : Nat), g + j = PX.length ∧ i = .int .i64 j ∧ v12 = .slice pa (allN G x j).length ca ∧ SlI wr2 (.slice pa (allN G x j).length ca) (allN G x j) ∧ Below w5.heap.size w5 wr2)
        case atStart => exact ⟨0, some ⟨w5.heap.size, 0, none⟩, 1, by omega, rfl, rfl, HS0.out, HQ5.out⟩
        case round =>
          obtain ⟨j, pa, ca, hg, rfl, rfl, hsa, hb2⟩ := hrel
          have HG' := Lib.hid hg
          have HSA := Lib.hid hsa
          have HBQ := Lib.hid hb2
          have HB3Q := Lib.hid (HB5.out.trans (hb2.mono HB5.out.size))
          clear hg hb2 hsa
          by_cases hj : j < PX.length
          · have HJ := Lib.hid hj
            rcases HS10.out.2 with h | ⟨bp, offp, rfl, hc⟩
            · rw [h] at hj; simp at hj
            have HIJ := Lib.hid (hc j hj)
            have HYM := Lib.hid (getD_mem hj)
            have HALJ := Lib.hid (HALS.out j)
            obtain ⟨y, hy⟩ : ∃ y, y = PX.getD j [] := ⟨_, rfl⟩
            rw [← hy] at HIJ HYM HALJ
            have HNY := Lib.hid (HPN.out y HYM.out)
            rw [pastE_node HNY.out] at HALJ
            have i2 : (j : Int) < PX.length := by omega
            have f1 := (IdAt.below HIJ.out HBQ.out).1
            have f2 := (IdAt.below HIJ.out HBQ.out).2
            have q7 := f1.lt
            simp only at q7
            have HPYL := Lib.hid (pastL_len G y)
            have HAJL := Lib.hid (HALN.out j (by omega))
            clear hc hy
            go_wp2_with fail
            refine (past_node gb mb G y wr HLEN.out HWF.out (HG.out.below HB3Q.out) HNY.out).mono ?_
            rintro e w6 ⟨p14, c14, rfl, hs, h6⟩
            have HS14 := Lib.hid hs
            have HSA6 := Lib.hid (HSA.out.below h6)
            have HB6 := Lib.hid (HBQ.out.trans (h6.mono HBQ.out.size))
            clear hs h6 f1 f2 q7
            go_wp2_with fail
            refine (union_sl pa p14 _ _ ca c14 (allN G x j) (pastL G y) w6 rfl rfl (by have := HAJL.out; have := HLEN.out; omega) (by have := HPYL.out; have := HLEN.out; omega) HSA6.out HS14.out).mono ?_
            rw [← HALJ.out]
            rintro e w7 ⟨p15, c15, rfl, hs, h7⟩
            have HS15 := Lib.hid hs
            have HB7 := Lib.hid (HB6.out.trans (h7.mono HB6.out.size))
            clear hs h7
            go_wp2_with fail
            go_roundg (gk - 1)
            case measure => have := HG'.out; have := HJ.out; omega
            case rel => exact ⟨j + 1, p15, c15, by have := HG'.out; have := HJ.out; omega, by go_num, rfl, HS15.out, HB7.out⟩
          · have i2 : ¬ (j : Int) < PX.length := by omega
            have hje : j = PX.length := by have := HG'.out; omega
            subst hje
            rw [HALE.out] at HSA ⊢
            have hSm := same_self p8 pa c8 ca (pastL G x) wr (pastL G x).length (pastL G x).length rfl rfl hcp2 (HS8'.out.below HBQ.out).in HSA.out.in
            have HSm := Lib.hid hSm
            clear hSm
            go_wp2_with fail
            refine HSm.out.mono ?_
            rintro e w7 ⟨rfl, h7⟩
            have HB37 := Lib.hid (HB3Q.out.trans (h7.mono HB3Q.out.size))
            have HP7 := Lib.hid ((HS8'.out.below HBQ.out).below h7).in
            clear h7 HSA HSm
            have HPN7 := Lib.hid (@pastL_node G x)
            have HBP7 := Lib.hid (fun y (hy : y ∈ pastL G x) => isR_past HNX.out hy)
            have HYY := Lib.hid (show ∀ y, y ∈ pastL G x → y ∈ pastL G x from fun y h => h)
            have HP32 := Lib.hid (pastL_32 HWF.out (x := x))
            generalize hPA : pastL G x = PA at *
            go_wp2_with fail
            go_loopg [16] PA.length (fun g i wr2 => ∃ (j : Nat), g + j = PA.length ∧ i = .int .i64 j ∧ Below w7.heap.size w7 wr2)
            case atStart => exact ⟨0, by omega, rfl, Below.refl _ _⟩
            case round =>
              obtain ⟨j, hg, rfl, hb2⟩ := hrel
              have HG' := Lib.hid hg
              have HBQ := Lib.hid hb2
              have HB3Q := Lib.hid (HB37.out.trans (hb2.mono HB37.out.size))
              clear hg hb2
              by_cases hj : j < PA.length
              · have HJ := Lib.hid hj
                rcases HP7.out.2 with h | ⟨bp, offp, rfl, hc⟩
                · rw [h] at hj; simp at hj
                have HIJ := Lib.hid (hc j hj)
                have HYM := Lib.hid (getD_mem hj)
                obtain ⟨y, hy⟩ : ∃ y, y = PA.getD j [] := ⟨_, rfl⟩
                rw [← hy] at HIJ HYM
                have HYP := Lib.hid (show y ∈ pastL G x by rw [hPA]; exact HYM.out)
                have HY32 := Lib.hid (HP32.out y HYM.out)
                have HRX := Lib.hid (HBP7.out y HYM.out)
                have hidy := idOk_agg y HY32.out
                have HGQ := Lib.hid (HG.out.below HB3Q.out)
                have i2 : (j : Int) < PA.length := by omega
                have f1 := (IdAt.below HIK.out HB3Q.out).1
                have f2 := (IdAt.below HIK.out HB3Q.out).2
                have g1 := (IdAt.below HIJ.out HBQ.out).1
                have g2 := (IdAt.below HIJ.out HBQ.out).2
                have q7 := f1.lt
                have q8 := g1.lt
                simp only at q7 q8
                clear hc hy
                go_upto_region 21 with fail
                apply wp_region_specsL [[], [], [], [1, 2], [3], [], [], [5, 6], [7], [0, 4, 8], [9], [10], [10], [11], [12]] [some 96, some 97, some 98, some 99, some 100, some 101, some 102, some 103, some 104, some 105, some 95, some 106, some 107, some 17, some 18] [0, 1, 2, 3, 4, 5, 6, 7, 8, 9, 10, 11, 12, 13, 14]
                  [eqv _, eqv _, eqv _, eqv _, eqv _, eqv _, eqv _, eqv _, eqv _, ansV [y] 0, ansV [y] 0, slW [y], eqv _, slW [y], eqv _]
                case hm => kernel_rfl
                case hok => kernel_rfl
                case hop =>
                  refine ⟨?_, ?_, ?_, ?_, ?_, ?_, ?_, ?_, ?_, ?_, ?_, ?_, ?_, ?_, ?_, trivial⟩
                  · intro vs w1 hr _ hd
                    obtain ⟨x1, rfl⟩ := ov_of hr
                    clear hr
                    simp only [putL]
                    clear hd 
                    go_wp2
                    exact opEnds_mk rfl (by simp only [List.getElem?_toArray, List.getElem?_cons_succ, List.getElem?_cons_zero] <;> rfl) rfl (Below.refl _ _) rfl
                  · intro vs w1 hr _ hd
                    obtain ⟨x1, rfl⟩ := ov_of hr
                    clear hr
                    simp only [putL]
                    clear hd 
                    go_wp2
                    exact opEnds_mk rfl (by simp only [List.getElem?_toArray, List.getElem?_cons_succ, List.getElem?_cons_zero] <;> rfl) rfl (Below.refl _ _) rfl
                  · intro vs w1 hr _ hd
                    obtain ⟨x1, rfl⟩ := ov_of hr
                    clear hr
                    simp only [putL]
                    clear hd 
                    go_wp2
                    exact opEnds_mk rfl (by simp only [List.getElem?_toArray, List.getElem?_cons_succ, List.getElem?_cons_zero] <;> rfl) rfl (Below.refl _ _) rfl
                  · intro vs w1 hr _ hd
                    obtain ⟨x1, rfl⟩ := ov_of hr
                    clear hr
                    have h1 := hd.get 1 rfl
                    change vs 1 = _ at h1
                    have h2 := hd.get 2 rfl
                    change vs 2 = _ at h2
                    simp only [putL, h1, h2]
                    clear hd h1 h2
                    go_wp2
                    exact opEnds_mk rfl (by simp only [List.getElem?_toArray, List.getElem?_cons_succ, List.getElem?_cons_zero] <;> rfl) rfl (Below.refl _ _) rfl
                  · intro vs w1 hr _ hd
                    obtain ⟨x1, rfl⟩ := ov_of hr
                    clear hr
                    have h3 := hd.get 3 rfl
                    change vs 3 = _ at h3
                    simp only [putL, h3]
                    clear hd h3
                    go_wp2
                    exact opEnds_mk rfl (by simp only [List.getElem?_toArray, List.getElem?_cons_succ, List.getElem?_cons_zero] <;> rfl) rfl (Below.refl _ _) rfl
                  · intro vs w1 hr _ hd
                    obtain ⟨x1, rfl⟩ := ov_of hr
                    clear hr
                    simp only [putL]
                    clear hd 
                    go_wp2
                    exact opEnds_mk rfl (by simp only [List.getElem?_toArray, List.getElem?_cons_succ, List.getElem?_cons_zero] <;> rfl) rfl (Below.refl _ _) rfl
                  · intro vs w1 hr _ hd
                    obtain ⟨x1, rfl⟩ := ov_of hr
                    clear hr
                    simp only [putL]
                    clear hd 
                    go_wp2
                    exact opEnds_mk rfl (by simp only [List.getElem?_toArray, List.getElem?_cons_succ, List.getElem?_cons_zero] <;> rfl) rfl (Below.refl _ _) rfl
                  · intro vs w1 hr _ hd
                    obtain ⟨x1, rfl⟩ := ov_of hr
                    clear hr
                    have h5 := hd.get 5 rfl
                    change vs 5 = _ at h5
                    have h6 := hd.get 6 rfl
                    change vs 6 = _ at h6
                    simp only [putL, h5, h6]
                    clear hd h5 h6
                    go_wp2
                    exact opEnds_mk rfl (by simp only [List.getElem?_toArray, List.getElem?_cons_succ, List.getElem?_cons_zero] <;> rfl) rfl (Below.refl _ _) rfl
                  · intro vs w1 hr _ hd
                    obtain ⟨x1, rfl⟩ := ov_of hr
                    clear hr
                    have h7 := hd.get 7 rfl
                    change vs 7 = _ at h7
                    simp only [putL, h7]
                    clear hd h7
                    go_wp2
                    exact opEnds_mk rfl (by simp only [List.getElem?_toArray, List.getElem?_cons_succ, List.getElem?_cons_zero] <;> rfl) rfl (Below.refl _ _) rfl
                  · intro vs w1 hr _ hd
                    obtain ⟨x1, rfl⟩ := ov_of hr
                    clear hr
                    have h0 := hd.get 0 rfl
                    change vs 0 = _ at h0
                    have h4 := hd.get 4 rfl
                    change vs 4 = _ at h4
                    have h8 := hd.get 8 rfl
                    change vs 8 = _ at h8
                    simp only [putL, h0, h4, h8]
                    clear hd h0 h4 h8
                    go_wp2_with fail
                    refine (bases_one gb mb G x y (ov wr x1) HLEN.out HWF.out (HGQ.out.below (ov_below wr x1)) HNX.out HYP.out).mono ?_
                    rintro e w2 ⟨pa, ca, rfl, hsa, hb2⟩
                    have HSA := Lib.hid hsa
                    clear hsa
                    go_wp2
                    exact opEnds_mk rfl (by simp only [List.getElem?_toArray, List.getElem?_cons_succ, List.getElem?_cons_zero] <;> rfl) rfl hb2 ⟨pa, ca, rfl, HSA.out⟩
                  · intro vs w1 hr _ hd
                    obtain ⟨x1, rfl⟩ := ov_of hr
                    clear hr
                    have h9 := hd.get 9 rfl
                    obtain ⟨p9, c9, e9, s9⟩ := h9
                    simp only [putL, e9]
                    clear hd e9
                    go_wp2
                    exact opEnds_mk rfl (by simp only [List.getElem?_toArray, List.getElem?_cons_succ, List.getElem?_cons_zero] <;> rfl) rfl (Below.refl _ _) ⟨p9, c9, rfl, s9⟩
                  · intro vs w1 hr _ hd
                    obtain ⟨x1, rfl⟩ := ov_of hr
                    clear hr
                    have h10 := hd.get 10 rfl
                    obtain ⟨p10, c10, e10, s10⟩ := h10
                    simp only [putL, e10]
                    clear hd e10
                    go_wp2
                    exact opEnds_mk rfl (by simp only [List.getElem?_toArray, List.getElem?_cons_succ, List.getElem?_cons_zero] <;> rfl) rfl (Below.refl _ _) ⟨p10, c10, rfl, s10⟩
                  · intro vs w1 hr _ hd
                    obtain ⟨x1, rfl⟩ := ov_of hr
                    clear hr
                    have h10 := hd.get 10 rfl
                    obtain ⟨p10, c10, e10, s10⟩ := h10
                    simp only [putL, e10]
                    clear hd e10
                    go_wp2
                    exact opEnds_mk rfl (by simp only [List.getElem?_toArray, List.getElem?_cons_succ, List.getElem?_cons_zero] <;> rfl) rfl (Below.refl _ _) rfl
                  · intro vs w1 hr _ hd
                    obtain ⟨x1, rfl⟩ := ov_of hr
                    clear hr
                    have h11 := hd.get 11 rfl
                    obtain ⟨p11, c11, e11, s11⟩ := h11
                    simp only [putL, e11]
                    clear hd e11
                    go_wp2
                    exact opEnds_mk rfl (by simp only [List.getElem?_toArray, List.getElem?_cons_succ, List.getElem?_cons_zero] <;> rfl) rfl (Below.refl _ _) ⟨p11, c11, rfl, s11⟩
                  · intro vs w1 hr _ hd
                    obtain ⟨x1, rfl⟩ := ov_of hr
                    clear hr
                    have h12 := hd.get 12 rfl
                    change vs 12 = _ at h12
                    simp only [putL, h12]
                    clear hd h12
                    go_wp2
                    exact opEnds_mk rfl (by simp only [List.getElem?_toArray, List.getElem?_cons_succ, List.getElem?_cons_zero] <;> rfl) rfl (Below.refl _ _) rfl
                case hst => exact ⟨eqv_st _ _, eqv_st _ _, eqv_st _ _, eqv_st _ _, eqv_st _ _, eqv_st _ _, eqv_st _ _, eqv_st _ _, eqv_st _ _, ansV_st _ _, ansV_st _ _, slW_st _, eqv_st _ _, slW_st _, eqv_st _ _, trivial⟩
                case hend =>
                  intro vs w1 hr hd
                  have h0 := hd.get 0 rfl
                  change vs 0 = _ at h0
                  have h1 := hd.get 1 rfl
                  change vs 1 = _ at h1
                  have h2 := hd.get 2 rfl
                  change vs 2 = _ at h2
                  have h3 := hd.get 3 rfl
                  change vs 3 = _ at h3
                  have h4 := hd.get 4 rfl
                  change vs 4 = _ at h4
                  have h5 := hd.get 5 rfl
                  change vs 5 = _ at h5
                  have h6 := hd.get 6 rfl
                  change vs 6 = _ at h6
                  have h7 := hd.get 7 rfl
                  change vs 7 = _ at h7
                  have h8 := hd.get 8 rfl
                  change vs 8 = _ at h8
                  have h9 := hd.get 9 rfl
                  have h10 := hd.get 10 rfl
                  have h11 := hd.get 11 rfl
                  have h12 := hd.get 12 rfl
                  change vs 12 = _ at h12
                  have h13 := hd.get 13 rfl
                  have h14 := hd.get 14 rfl
                  change vs 14 = _ at h14
                  obtain ⟨x1, rfl⟩ := ov_of hr
                  simp only [putL, List.getD_cons_zero, List.getD_cons_succ, Act.put, List.setIfInBounds_toArray, List.set_cons_zero, List.set_cons_succ, h0, h1, h2, h3, h4, h5, h6, h7, h8, h12, h14]
                  clear hd hr h0 h1 h2 h3 h4 h5 h6 h7 h8 h12 h14
                  obtain ⟨pm, cm, em, sm⟩ := h13
                  simp only [em]
                  have HSM := Lib.hid sm.in
                  have HB8 := Lib.hid (HBQ.out.trans ((ov_below wr x1).mono HBQ.out.size))
                  clear em sm h9 h10 h11 f1 f2 g1 g2 q7 q8
                  generalize vs 9 = z9
                  generalize vs 10 = z10
                  generalize vs 11 = z11
                  generalize ov wr x1 = w8 at *
                  have HG8 := Lib.hid (HG.out.below (HB37.out.trans (HB8.out.mono HB37.out.size)))
                  have HB38 := Lib.hid (HB37.out.trans (HB8.out.mono HB37.out.size))
                  have f1 := (IdAt.below HIK.out HB38.out).1
                  have f2 := (IdAt.below HIK.out HB38.out).2
                  have g1 := (IdAt.below HIJ.out HB8.out).1
                  have g2 := (IdAt.below HIJ.out HB8.out).2
                  have q7 := f1.lt
                  have q8 := g1.lt
                  simp only at q7 q8
                  go_upto_region 22 with fail
                  apply wp_region_specsL [[], [0], [1], [2], [2], [2], [2, 4, 5], [2, 6], [2, 7], [2, 3, 8], [2, 9], [2, 10], [11], [12], [12], [12], [12, 14, 15], [12, 16], [12], [12], [12, 18, 19], [12, 20], [12, 13, 17, 21], [12, 22], [12, 23]] [some 108, some 109, some 110, some 111, some 112, some 113, some 114, some 115, some 116, some 117, some 118, some 119, some 120, some 121, some 122, some 123, some 124, some 125, some 126, some 127, some 128, some 129, some 130, some 131, some 132] [0, 1, 2, 3, 4, 5, 6, 7, 8, 9, 10, 11, 12, 13, 14, 15, 16, 17, 18, 19, 20, 21, 22, 23, 24]
                    [eqv _, eqv _, eqv _, eqv _, eqv _, eqv _, eqv _, eqv _, slF [y], eqv _, eqv _, eqv _, eqv _, eqv _, eqv _, eqv _, eqv _, eqv _, eqv _, eqv _, eqv _, eqv _, eqv _, eqv _, eqv _]
                  case hm => kernel_rfl
                  case hok => kernel_rfl
                  case hop =>
                    refine ⟨?_, ?_, ?_, ?_, ?_, ?_, ?_, ?_, ?_, ?_, ?_, ?_, ?_, ?_, ?_, ?_, ?_, ?_, ?_, ?_, ?_, ?_, ?_, ?_, ?_, trivial⟩
                    · intro vs w1 hr _ hd
                      obtain ⟨x1, rfl⟩ := ov_of hr
                      clear hr
                      simp only [putL]
                      clear hd 
                      go_wp2
                      exact opEnds_mk rfl (by simp only [List.getElem?_toArray, List.getElem?_cons_succ, List.getElem?_cons_zero] <;> rfl) rfl (Below.refl _ _) rfl
                    · intro vs w1 hr _ hd
                      obtain ⟨x1, rfl⟩ := ov_of hr
                      clear hr
                      have h0 := hd.get 0 rfl
                      change vs 0 = _ at h0
                      simp only [putL, h0]
                      clear hd h0
                      go_wp2
                      exact opEnds_mk rfl (by simp only [List.getElem?_toArray, List.getElem?_cons_succ, List.getElem?_cons_zero] <;> rfl) rfl (Below.refl _ _) rfl
                    · intro vs w1 hr _ hd
                      obtain ⟨x1, rfl⟩ := ov_of hr
                      clear hr
                      have h1 := hd.get 1 rfl
                      change vs 1 = _ at h1
                      simp only [putL, h1]
                      clear hd h1
                      go_wp2
                      exact opEnds_mk rfl (by simp only [List.getElem?_toArray, List.getElem?_cons_succ, List.getElem?_cons_zero] <;> rfl) rfl (Below.refl _ _) rfl
                    · intro vs w1 hr _ hd
                      obtain ⟨x1, rfl⟩ := ov_of hr
                      clear hr
                      have h2 := hd.get 2 rfl
                      change vs 2 = _ at h2
                      simp only [putL, h2]
                      clear hd h2
                      go_wp2
                      exact opEnds_mk rfl (by simp only [List.getElem?_toArray, List.getElem?_cons_succ, List.getElem?_cons_zero] <;> rfl) rfl (Below.refl _ _) rfl
                    · intro vs w1 hr _ hd
                      obtain ⟨x1, rfl⟩ := ov_of hr
                      clear hr
                      have h2 := hd.get 2 rfl
                      change vs 2 = _ at h2
                      simp only [putL, h2]
                      clear hd h2
                      go_wp2
                      exact opEnds_mk rfl (by simp only [List.getElem?_toArray, List.getElem?_cons_succ, List.getElem?_cons_zero] <;> rfl) rfl (Below.refl _ _) rfl
                    · intro vs w1 hr _ hd
                      obtain ⟨x1, rfl⟩ := ov_of hr
                      clear hr
                      have h2 := hd.get 2 rfl
                      change vs 2 = _ at h2
                      simp only [putL, h2]
                      clear hd h2
                      go_wp2
                      exact opEnds_mk rfl (by simp only [List.getElem?_toArray, List.getElem?_cons_succ, List.getElem?_cons_zero] <;> rfl) rfl (Below.refl _ _) rfl
                    · intro vs w1 hr _ hd
                      obtain ⟨x1, rfl⟩ := ov_of hr
                      clear hr
                      have h2 := hd.get 2 rfl
                      change vs 2 = _ at h2
                      have h4 := hd.get 4 rfl
                      change vs 4 = _ at h4
                      have h5 := hd.get 5 rfl
                      change vs 5 = _ at h5
                      simp only [putL, h2, h4, h5]
                      clear hd h2 h4 h5
                      go_wp2
                      exact opEnds_mk rfl (by simp only [List.getElem?_toArray, List.getElem?_cons_succ, List.getElem?_cons_zero] <;> rfl) rfl (Below.refl _ _) rfl
                    · intro vs w1 hr _ hd
                      obtain ⟨x1, rfl⟩ := ov_of hr
                      clear hr
                      have h2 := hd.get 2 rfl
                      change vs 2 = _ at h2
                      have h6 := hd.get 6 rfl
                      change vs 6 = _ at h6
                      simp only [putL, h2, h6]
                      clear hd h2 h6
                      go_wp2
                      exact opEnds_mk rfl (by simp only [List.getElem?_toArray, List.getElem?_cons_succ, List.getElem?_cons_zero] <;> rfl) rfl (Below.refl _ _) rfl
                    · intro vs w1 hr _ hd
                      obtain ⟨x1, rfl⟩ := ov_of hr
                      clear hr
                      have h2 := hd.get 2 rfl
                      change vs 2 = _ at h2
                      have h7 := hd.get 7 rfl
                      change vs 7 = _ at h7
                      simp only [putL, h2, h7]
                      clear hd h2 h7
                      go_wp2
                      exact opEnds_mk rfl (by simp only [List.getElem?_toArray, List.getElem?_cons_succ, List.getElem?_cons_zero] <;> rfl) rfl ((Below.refl _ _).alloc (Nat.le_refl _) _) ⟨_, rfl, ids_new1 _ y HY32.out⟩
                    · intro vs w1 hr _ hd
                      obtain ⟨x1, rfl⟩ := ov_of hr
                      clear hr
                      have h2 := hd.get 2 rfl
                      change vs 2 = _ at h2
                      have h3 := hd.get 3 rfl
                      change vs 3 = _ at h3
                      have h8 := hd.get 8 rfl
                      obtain ⟨g8, e8, s8⟩ := h8
                      have HS8 := Lib.hid s8
                      clear s8
                      simp only [putL, h2, h3, e8]
                      clear hd h2 h3 e8
                      go_wp2_with fail
                      refine (same_self pm (some ⟨g8, 0, none⟩) cm 1 [y] _ 1 1 rfl rfl (by show 1 ≤ 1000000; decide) (HSM.out.below (ov_below w8 x1)) HS8.out).mono ?_
                      rintro e w2 ⟨rfl, hb2⟩
                      go_wp2
                      exact opEnds_mk rfl (by simp only [List.getElem?_toArray, List.getElem?_cons_succ, List.getElem?_cons_zero] <;> rfl) rfl (hb2) rfl
                    · intro vs w1 hr _ hd
                      obtain ⟨x1, rfl⟩ := ov_of hr
                      clear hr
                      have h2 := hd.get 2 rfl
                      change vs 2 = _ at h2
                      have h9 := hd.get 9 rfl
                      change vs 9 = _ at h9
                      simp only [putL, h2, h9]
                      clear hd h2 h9
                      go_wp2
                      exact opEnds_mk rfl (by simp only [List.getElem?_toArray, List.getElem?_cons_succ, List.getElem?_cons_zero] <;> rfl) rfl (Below.refl _ _) rfl
                    · intro vs w1 hr _ hd
                      obtain ⟨x1, rfl⟩ := ov_of hr
                      clear hr
                      have h2 := hd.get 2 rfl
                      change vs 2 = _ at h2
                      have h10 := hd.get 10 rfl
                      change vs 10 = _ at h10
                      simp only [putL, h2, h10]
                      clear hd h2 h10
                      go_wp2
                      exact opEnds_mk rfl (by simp only [List.getElem?_toArray, List.getElem?_cons_succ, List.getElem?_cons_zero] <;> rfl) rfl (Below.refl _ _) rfl
                    · intro vs w1 hr _ hd
                      obtain ⟨x1, rfl⟩ := ov_of hr
                      clear hr
                      have h11 := hd.get 11 rfl
                      change vs 11 = _ at h11
                      simp only [putL, h11]
                      clear hd h11
                      go_wp2
                      exact opEnds_mk rfl (by simp only [List.getElem?_toArray, List.getElem?_cons_succ, List.getElem?_cons_zero] <;> rfl) rfl (Below.refl _ _) rfl
                    · intro vs w1 hr _ hd
                      obtain ⟨x1, rfl⟩ := ov_of hr
                      clear hr
                      have h12 := hd.get 12 rfl
                      change vs 12 = _ at h12
                      simp only [putL, h12]
                      clear hd h12
                      go_wp2
                      exact opEnds_mk rfl (by simp only [List.getElem?_toArray, List.getElem?_cons_succ, List.getElem?_cons_zero] <;> rfl) rfl (Below.refl _ _) rfl
                    · intro vs w1 hr _ hd
                      obtain ⟨x1, rfl⟩ := ov_of hr
                      clear hr
                      have h12 := hd.get 12 rfl
                      change vs 12 = _ at h12
                      simp only [putL, h12]
                      clear hd h12
                      go_wp2
                      exact opEnds_mk rfl (by simp only [List.getElem?_toArray, List.getElem?_cons_succ, List.getElem?_cons_zero] <;> rfl) rfl (Below.refl _ _) rfl
                    · intro vs w1 hr _ hd
                      obtain ⟨x1, rfl⟩ := ov_of hr
                      clear hr
                      have h12 := hd.get 12 rfl
                      change vs 12 = _ at h12
                      simp only [putL, h12]
                      clear hd h12
                      go_wp2
                      exact opEnds_mk rfl (by simp only [List.getElem?_toArray, List.getElem?_cons_succ, List.getElem?_cons_zero] <;> rfl) rfl (Below.refl _ _) rfl
                    · intro vs w1 hr _ hd
                      obtain ⟨x1, rfl⟩ := ov_of hr
                      clear hr
                      have h12 := hd.get 12 rfl
                      change vs 12 = _ at h12
                      have h14 := hd.get 14 rfl
                      change vs 14 = _ at h14
                      have h15 := hd.get 15 rfl
                      change vs 15 = _ at h15
                      simp only [putL, h12, h14, h15]
                      clear hd h12 h14 h15
                      go_wp2
                      exact opEnds_mk rfl (by simp only [List.getElem?_toArray, List.getElem?_cons_succ, List.getElem?_cons_zero] <;> rfl) rfl (Below.refl _ _) rfl
                    · intro vs w1 hr _ hd
                      obtain ⟨x1, rfl⟩ := ov_of hr
                      clear hr
                      have h12 := hd.get 12 rfl
                      change vs 12 = _ at h12
                      have h16 := hd.get 16 rfl
                      change vs 16 = _ at h16
                      simp only [putL, h12, h16]
                      clear hd h12 h16
                      go_wp2
                      exact opEnds_mk rfl (by simp only [List.getElem?_toArray, List.getElem?_cons_succ, List.getElem?_cons_zero] <;> rfl) rfl (Below.refl _ _) rfl
                    · intro vs w1 hr _ hd
                      obtain ⟨x1, rfl⟩ := ov_of hr
                      clear hr
                      have h12 := hd.get 12 rfl
                      change vs 12 = _ at h12
                      simp only [putL, h12]
                      clear hd h12
                      go_wp2
                      exact opEnds_mk rfl (by simp only [List.getElem?_toArray, List.getElem?_cons_succ, List.getElem?_cons_zero] <;> rfl) rfl (Below.refl _ _) rfl
                    · intro vs w1 hr _ hd
                      obtain ⟨x1, rfl⟩ := ov_of hr
                      clear hr
                      have h12 := hd.get 12 rfl
                      change vs 12 = _ at h12
                      simp only [putL, h12]
                      clear hd h12
                      go_wp2
                      exact opEnds_mk rfl (by simp only [List.getElem?_toArray, List.getElem?_cons_succ, List.getElem?_cons_zero] <;> rfl) rfl (Below.refl _ _) rfl
                    · intro vs w1 hr _ hd
                      obtain ⟨x1, rfl⟩ := ov_of hr
                      clear hr
                      have h12 := hd.get 12 rfl
                      change vs 12 = _ at h12
                      have h18 := hd.get 18 rfl
                      change vs 18 = _ at h18
                      have h19 := hd.get 19 rfl
                      change vs 19 = _ at h19
                      simp only [putL, h12, h18, h19]
                      clear hd h12 h18 h19
                      go_wp2
                      exact opEnds_mk rfl (by simp only [List.getElem?_toArray, List.getElem?_cons_succ, List.getElem?_cons_zero] <;> rfl) rfl (Below.refl _ _) rfl
                    · intro vs w1 hr _ hd
                      obtain ⟨x1, rfl⟩ := ov_of hr
                      clear hr
                      have h12 := hd.get 12 rfl
                      change vs 12 = _ at h12
                      have h20 := hd.get 20 rfl
                      change vs 20 = _ at h20
                      simp only [putL, h12, h20]
                      clear hd h12 h20
                      go_wp2
                      exact opEnds_mk rfl (by simp only [List.getElem?_toArray, List.getElem?_cons_succ, List.getElem?_cons_zero] <;> rfl) rfl (Below.refl _ _) rfl
                    · intro vs w1 hr _ hd
                      obtain ⟨x1, rfl⟩ := ov_of hr
                      clear hr
                      have h12 := hd.get 12 rfl
                      change vs 12 = _ at h12
                      have h13 := hd.get 13 rfl
                      change vs 13 = _ at h13
                      have h17 := hd.get 17 rfl
                      change vs 17 = _ at h17
                      have h21 := hd.get 21 rfl
                      change vs 21 = _ at h21
                      simp only [putL, h12, h13, h17, h21]
                      clear hd h12 h13 h17 h21
                      go_wp2_with fail
                      refine (is_true gb mb G y x HY32.out HX32.out _ HLEN.out HWF.out (HG8.out.below (ov_below w8 x1)) HRX.out).mono ?_
                      rintro e w2 ⟨rfl, hb2⟩
                      go_wp2
                      exact opEnds_mk rfl (by simp only [List.getElem?_toArray, List.getElem?_cons_succ, List.getElem?_cons_zero] <;> rfl) rfl (hb2) rfl
                    · intro vs w1 hr _ hd
                      obtain ⟨x1, rfl⟩ := ov_of hr
                      clear hr
                      have h12 := hd.get 12 rfl
                      change vs 12 = _ at h12
                      have h22 := hd.get 22 rfl
                      change vs 22 = _ at h22
                      simp only [putL, h12, h22]
                      clear hd h12 h22
                      go_wp2
                      exact opEnds_mk rfl (by simp only [List.getElem?_toArray, List.getElem?_cons_succ, List.getElem?_cons_zero] <;> rfl) rfl (Below.refl _ _) rfl
                    · intro vs w1 hr _ hd
                      obtain ⟨x1, rfl⟩ := ov_of hr
                      clear hr
                      have h12 := hd.get 12 rfl
                      change vs 12 = _ at h12
                      have h23 := hd.get 23 rfl
                      change vs 23 = _ at h23
                      simp only [putL, h12, h23]
                      clear hd h12 h23
                      go_wp2
                      exact opEnds_mk rfl (by simp only [List.getElem?_toArray, List.getElem?_cons_succ, List.getElem?_cons_zero] <;> rfl) rfl (Below.refl _ _) rfl
                  case hst => exact ⟨eqv_st _ _, eqv_st _ _, eqv_st _ _, eqv_st _ _, eqv_st _ _, eqv_st _ _, eqv_st _ _, eqv_st _ _, slF_st _, eqv_st _ _, eqv_st _ _, eqv_st _ _, eqv_st _ _, eqv_st _ _, eqv_st _ _, eqv_st _ _, eqv_st _ _, eqv_st _ _, eqv_st _ _, eqv_st _ _, eqv_st _ _, eqv_st _ _, eqv_st _ _, eqv_st _ _, eqv_st _ _, trivial⟩
                  case hend =>
                    intro vs w1 hr hd
                    have h0 := hd.get 0 rfl
                    change vs 0 = _ at h0
                    have h1 := hd.get 1 rfl
                    change vs 1 = _ at h1
                    have h2 := hd.get 2 rfl
                    change vs 2 = _ at h2
                    have h3 := hd.get 3 rfl
                    change vs 3 = _ at h3
                    have h4 := hd.get 4 rfl
                    change vs 4 = _ at h4
                    have h5 := hd.get 5 rfl
                    change vs 5 = _ at h5
                    have h6 := hd.get 6 rfl
                    change vs 6 = _ at h6
                    have h7 := hd.get 7 rfl
                    change vs 7 = _ at h7
                    have h8 := hd.get 8 rfl
                    have h9 := hd.get 9 rfl
                    change vs 9 = _ at h9
                    have h10 := hd.get 10 rfl
                    change vs 10 = _ at h10
                    have h11 := hd.get 11 rfl
                    change vs 11 = _ at h11
                    have h12 := hd.get 12 rfl
                    change vs 12 = _ at h12
                    have h13 := hd.get 13 rfl
                    change vs 13 = _ at h13
                    have h14 := hd.get 14 rfl
                    change vs 14 = _ at h14
                    have h15 := hd.get 15 rfl
                    change vs 15 = _ at h15
                    have h16 := hd.get 16 rfl
                    change vs 16 = _ at h16
                    have h17 := hd.get 17 rfl
                    change vs 17 = _ at h17
                    have h18 := hd.get 18 rfl
                    change vs 18 = _ at h18
                    have h19 := hd.get 19 rfl
                    change vs 19 = _ at h19
                    have h20 := hd.get 20 rfl
                    change vs 20 = _ at h20
                    have h21 := hd.get 21 rfl
                    change vs 21 = _ at h21
                    have h22 := hd.get 22 rfl
                    change vs 22 = _ at h22
                    have h23 := hd.get 23 rfl
                    change vs 23 = _ at h23
                    have h24 := hd.get 24 rfl
                    change vs 24 = _ at h24
                    obtain ⟨x1, rfl⟩ := ov_of hr
                    simp only [putL, List.getD_cons_zero, List.getD_cons_succ, Act.put, List.setIfInBounds_toArray, List.set_cons_zero, List.set_cons_succ, h0, h1, h2, h3, h4, h5, h6, h7, h9, h10, h11, h12, h13, h14, h15, h16, h17, h18, h19, h20, h21, h22, h23, h24]
                    clear hd hr h0 h1 h2 h3 h4 h5 h6 h7 h9 h10 h11 h12 h13 h14 h15 h16 h17 h18 h19 h20 h21 h22 h23 h24
                    have HB9 := Lib.hid (HB8.out.trans ((ov_below w8 x1).mono HB8.out.size))
                    clear h8 f1 f2 g1 g2 q7 q8
                    generalize vs 8 = z8
                    generalize ov w8 x1 = w9 at *
                    go_wp2_with fail
                    go_roundg (gk - 1)
                    case measure => have := HG'.out; have := HJ.out; omega
                    case rel => exact ⟨j + 1, by have := HG'.out; have := HJ.out; omega, by go_num, HB9.out⟩
              · have i2 : ¬ (j : Int) < PA.length := by omega
                go_wp2_with fail
                go_roundg (I.length - (k + 1))
                case measure => have := HGK.out; have := HK.out; omega
                case rel => exact ⟨k + 1, by have := HGK.out; have := HK.out; omega, by go_num, HB3Q.out⟩
      · have i1 : ¬ (k : Int) < I.length := by omega
        go_wp2_with fail
        refine (awake_any wr).mono ?_
        rintro e w9 ⟨rfl, h9⟩
        have HB9 := Lib.hid (HB3.out.trans ((HBR.out.trans (h9.mono HBR.out.size)).mono HB3.out.size))
        clear h9
        go_wp2_with fail
        go_ret
        exact ⟨rfl, HB9.out⟩
theorem dagPast_walk {H : Type} {enc : TypeId × Value → H} {W : World} {b0 : Nat} {v0 : Value} {d0 : DataW H} {p0 : List MemPlace}
    (k0 : Value.okWide Try.prog W .any b0 22 v0) (h0 : DataW.Trod enc Try.prog W 0 (fun _ => true) true 22 v0 d0 p0) :
    Calls Try.prog 6 #[v0] W fun e w' => e = .returned (.bool true) ∧ Below W.heap.size W w' := by
  obtain ⟨p, c, L, rfl, hL⟩ := reads_gn h0 (okWide_slice Try.underlying22 k0)
  exact lawPast_any p c L W hL
end Go.Proofs.Ytmmmimkikakalaa
