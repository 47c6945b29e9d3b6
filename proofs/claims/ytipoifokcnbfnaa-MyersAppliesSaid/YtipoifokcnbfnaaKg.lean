/- The walk of Moves. -/
import Derived.Test.YtipoifokcnbfnaaKf
import Derived.Test.YtipoifokcnbfnaaPb
namespace Go.Proofs.Ytipoifokcnbfnaa
open Go.RowKit
set_option linter.unusedVariables false

theorem St.at_world {W0 : WW} {w : World} {s m : Nat} {a b : List Int} {pa pb : Option Addr} {ca cb : Nat} {blk : Value} {fr : Int} (h : St W0 w s m a b pa pb ca cb blk fr) : St ⟨W0.o, w⟩ w s m a b pa pb ca cb blk fr :=
  { h with k5 := KeptT.refl 5 w }
theorem St.dist {W0 : WW} {w : World} {t : World} {s m : Nat} {a b : List Int} {pa pb : Option Addr} {ca cb : Nat} {blk : Value} {fr : Int} (h : St ⟨W0.o, t⟩ w s m a b pa pb ca cb blk fr) : KeptT 5 t w := h.k5

theorem St.app5 {W0 : WW} {w w' : World} {s m : Nat} {a b : List Int} {pa pb : Option Addr} {ca cb : Nat} {blk v : Value} {fr : Int} {O : List Int} (h : St W0 w s m a b pa pb ca cb blk fr) (hr : (numR .u8).row 5 W0.o.heap.size O v w) (hg : w.grownBy w' v.ownBlock) : St ⟨W0.o, w'⟩ w' s m a b pa pb ca cb blk fr := by
  have h2 : v.ownBlock ≠ some s := fun e => by
    obtain ⟨_, cur, h2⟩ := row_block hr s e
    rw [h.at'] at h2
    injection h2 with h3
    injection h3 with _ h4
    cases h4
  exact { h with bel := h.bel.grown hg h.bel.size (fun g e => (row_block hr g e).1), k5 := KeptT.refl 5 w', at' := (hg.block s h.lt (fun e => h2 e.symm)).trans h.at' }
theorem own_app5 {w w' : World} {base m n : Nat} {D : DataW Unit} {v : Value} {O : List Int} (h : w.ownsMap Try.prog 3 slR m n D) (hr : (numR .u8).row 5 base O v w) (hg : w.grownBy w' v.ownBlock) : w'.ownsMap Try.prog 3 slR m n D := by
  refine h.kept hg (fun e => ?_)
  obtain ⟨es, clock, h1, _⟩ := h
  obtain ⟨_, cur, h2⟩ := row_block hr m e.symm
  rw [h1] at h2
  cases h2
theorem Blk.kept {w w' : World} {base : Nat} {a b : List Int} {blk : Value} {fr : Int} (h : Blk w base a b blk fr) (h1 : KeptT 21 w w') (h2 : KeptT 22 w w') : Blk w' base a b blk fr := by
  obtain ⟨hs, h3, h4⟩ := h
  refine ⟨hs, row_keptT h3 h2, ?_⟩
  rcases h4 with h4 | ⟨h4, q, h5, h6, h7⟩
  · exact .inl h4
  · exact .inr ⟨h4, q, h5, h6, h7.kept h1⟩

set_option maxHeartbeats 400000 in
set_option maxRecDepth 100000 in
theorem moves_long (pa pb : Option Addr) (ca cb : Nat) (a b : List Int) (w : World) (h : 4096 < a.length ∨ 4096 < b.length) :
    Calls Try.prog 10 #[.slice pa a.length ca, .slice pb b.length cb] w fun e w' => e = .returned (.tuple #[.slice none 0 0, .int .i64 2]) ∧ w' = w := by
  by_cases ha : 4096 < a.length
  · go_enter Try.func10, Try.ntmps10
    go_wp2
    go_ret2
    exact ⟨rfl, rfl⟩
  · have hb : 4096 < b.length := by omega
    clear h
    go_enter Try.func10, Try.ntmps10
    go_wp2
    go_ret2
    exact ⟨rfl, rfl⟩

set_option maxHeartbeats 8000000 in
set_option maxRecDepth 100000 in
theorem moves_any (pa pb : Option Addr) (ca cb : Nat) (a b : List Int) (w : World) (ha : a.length ≤ 4096) (hb : b.length ≤ 4096) (hia : (numR .i32).In w pa a) (hib : (numR .i32).In w pb b) :
    Calls Try.prog 10 #[.slice pa a.length ca, .slice pb b.length cb] w fun e w' => ∃ v, e = .returned (.tuple #[v, .int .i64 0]) ∧ (numR .u8).row 5 w.heap.size (script a b) v w' ∧ Below w.heap.size w w' := by
  have HIA := Lib.hid hia
  have HIB := Lib.hid hib
  have hna : ¬ 4096 < a.length := by omega
  have hnb : ¬ 4096 < b.length := by omega
  clear hia hib
  have hmm := @run_makeMap Try.prog
  go_enter Try.func10, Try.ntmps10
  go_upto_region 4 with fail
  obtain ⟨m, hm⟩ : ∃ m, m = w.heap.size := ⟨_, rfl⟩
  obtain ⟨s, hs⟩ : ∃ s, s = w.heap.size + 1 := ⟨_, rfl⟩
  obtain ⟨W1, hW1⟩ : ∃ W1, W1 = (w.alloc (Obj.map #[] 0)).alloc (Obj.cells #[.slice pa a.length ca, .slice pb b.length cb, .map (some w.heap.size), .slice none 0 0, .int .i64 0] 58) := ⟨_, rfl⟩
  have hst : St ⟨w, w⟩ W1 s m a b pa pb ca cb (.slice none 0 0) 0 := by
    have hbel : Below w.heap.size w W1 := by rw [hW1]; exact ((Below.refl w.heap.size w).alloc (Nat.le_refl _) _).alloc (by simp) _
    refine ⟨hbel, HIA.out, HIB.out, by show w.heap.size ≤ s; omega, by show w.heap.size ≤ m; omega, by omega, KeptT.of_below hbel, ?_⟩
    rw [hW1, hs, hm]
    have := (MapKept.heap_alloc (w.alloc (Obj.map #[] 0)) (Obj.cells #[.slice pa a.length ca, .slice pb b.length cb, .map (some w.heap.size), .slice none 0 0, .int .i64 0] 58)).1
    simp only [World.size_alloc] at this
    exact this
  have hmp : W1.ownsMap Try.prog 3 slR m 0 (.map []) := by
    rw [hW1, hm]; exact (World.ownsMap_made w Try.prog 3 slR).alloc _
  have HCO := Lib.hid (cost_any ⟨w, w⟩ W1 s m a b pa pb ca cb ha hb hst hmp)
  rw [← hW1, ← hs]
  clear hst hmp hmm hW1 hm hs
  go_wp2_with fail
  refine HCO.out.mono ?_
  rintro e w2 ⟨rfl, hst, n, D, hmp, hsv⟩
  have HT := Lib.hid hst.at_world
  have HM := Lib.hid hmp
  have HV := Lib.hid hsv
  have hC := C_len a b 0 0 (by omega) (by omega)
  obtain ⟨D0, hD0⟩ : ∃ D0, D0 = C a b 0 0 := ⟨_, rfl⟩
  rw [← hD0] at HV hC ⊢
  have HD0 := Lib.hid hD0
  have hD08 : D0 ≤ 8192 := by omega
  clear hst hmp hsv HCO hD0 hC hna hnb
  go_wp2_with fail
  go_loopg [7, 8, 9, 10] (a.length + b.length) (fun g v7 v8 v9 v10 wr => ∃ (i j r : Nat) (O : List Int) (blk : Value) (fr : Int), g + i + j = a.length + b.length ∧ i ≤ a.length ∧ j ≤ b.length ∧ v7 = .int .i64 r ∧ v9 = .int .i64 i ∧ v10 = .int .i64 j ∧
    r = C a b i j ∧ (i : Int) - j + r ≤ D0 ∧ (j : Int) - i + r ≤ D0 ∧ O ++ SC a b i j = SC a b 0 0 ∧ (numR .u8).row 5 w.heap.size O v8 wr ∧ St ⟨w, wr⟩ wr s m a b pa pb ca cb blk fr ∧ wr.ownsMap Try.prog 3 slR m n D ∧ Saved wr w.heap.size a b D (D0 + 1) ∧ Blk wr w.heap.size a b blk fr)
  case atStart => exact ⟨0, 0, D0, [], .slice none 0 0, 0, by omega, by omega, by omega, rfl, rfl, rfl, HD0.out, by omega, by omega, rfl, Rec.row.nil, HT.out, HM.out, HV.out, [], Rec.row.nil, .inl ⟨rfl, rfl⟩⟩
  case round =>
    obtain ⟨i, j, r, O, blk, fr, hg, hi, hj, rfl, rfl, rfl, hr, hr1, hr2, hO, hrow, hst, hmp, hsv, hbk⟩ := hrel
    have HG := Lib.hid hg
    have HRC := Lib.hid hr
    have HR12 := Lib.hid (And.intro hr1 hr2)
    have HO := Lib.hid hO
    have HOL := Lib.hid (show O.length ≤ 8192 by
      have h1 := script_len _ a b rfl
      have h2 := congrArg List.length hO
      unfold SC at h2
      simp only [List.drop_zero, List.length_append] at h2
      omega)
    have HROW := Lib.hid hrow
    have HST := Lib.hid hst
    have HMP := Lib.hid hmp
    have HSV := Lib.hid hsv
    have HBK := Lib.hid hbk
    clear hg hr hr1 hr2 hO hrow hst hmp hsv hbk HT HM HV
    by_cases hend : i = a.length ∧ j = b.length
    · have g1 : decide ((i : Int) < a.length) = false := decide_eq_false (by omega)
      have g2 : decide ((j : Int) < b.length) = false := decide_eq_false (by omega)
      have HE := Lib.hid (show O = script a b by
        have h1 := HO.out
        rw [hend.1, hend.2, SC_end] at h1
        unfold SC at h1
        simpa using h1)
      have hn1 : ¬ i < a.length := by omega
      have hn2 : ¬ j < b.length := by omega
      clear hend
      go_wp2
      go_ret2
      exact ⟨_, rfl, by rw [← HE.out]; exact HROW.out, HST.out.bel⟩
    · have HND := Lib.hid hend
      go_upto_region 7 with fail
      go_cut [35] (fun v35 wx => v35 = .bool true ∧ wr = wx)
      case first =>
        by_cases hin : i < a.length
        · have g1 : decide ((i : Int) < a.length) = true := decide_eq_true (by omega)
          go_wp2_with fail
          go_meet
          exact ⟨rfl, rfl⟩
        · have g1 : decide ((i : Int) < a.length) = false := decide_eq_false (by omega)
          have g2n : j < b.length := by have := HND.out; omega
          have g2 : decide ((j : Int) < b.length) = true := decide_eq_true (by omega)
          go_wp2_with fail
          go_meet
          exact ⟨rfl, rfl⟩
      case rest =>
      obtain ⟨rfl, rfl⟩ := hcut
      obtain ⟨B, hB⟩ : ∃ B : Bool, B = decide (i < a.length ∧ j < b.length ∧ a.getD i 0 = b.getD j 0) := ⟨_, rfl⟩
      have HBE := Lib.hid hB
      clear hB
      go_upto_region 10 with fail
      go_cut [41] (fun v41 wx => v41 = .bool B ∧ Below wr.heap.size wr wx)
      case first =>
        by_cases hin : i < a.length
        · have g1 : decide ((i : Int) < a.length) = true := decide_eq_true (by omega)
          have g1z : (i : Int) < a.length := by omega
          by_cases hjm : j < b.length
          · have g2 : decide ((j : Int) < b.length) = true := decide_eq_true (by omega)
            have g2z : (j : Int) < b.length := by omega
            have h1 := HIA.out.below HST.out.bel
            have h2 := HIB.out.below HST.out.bel
            rcases h1.2 with h0 | ⟨ba, oa, rfl, hla, hca⟩
            · subst h0; simp at hin
            rcases h2.2 with h0 | ⟨bb, ob, rfl, hlb, hcb⟩
            · subst h0; simp at hjm
            have e1 := num_cell (hca i _ (show a[i]? = some (a.getD i 0) by simp [List.getD_eq_getElem?_getD, hin]))
            have e2 := num_cell (hcb j _ (show b[j]? = some (b.getD j 0) by simp [List.getD_eq_getElem?_getD, hjm]))
            have hBB : B = decide (a.getD i 0 = b.getD j 0) := by rw [HBE.out]; simp [hin, hjm]
            clear h1 h2 hca hcb
            generalize a.getD i 0 = x at *
            generalize b.getD j 0 = y at *
            have g3 : (x == y) = B := by rw [hBB]; rfl
            clear hBB
            refine wp_region_over (by kernel_rfl) (by kernel_rfl) ?_
            repeat (go_big_quiet_step (fail))
            refine wpQuiet_nil ?_
            rintro _ ⟨x0, rfl⟩
            go_wp2_with fail
            go_meet
            exact ⟨rfl, ov_below wr x0⟩
          · have g2 : decide ((j : Int) < b.length) = false := decide_eq_false (by omega)
            have HBF := Lib.hid (show B = false by rw [HBE.out]; exact decide_eq_false (fun h => hjm h.2.1))
            refine wp_region_over (by kernel_rfl) (by kernel_rfl) ?_
            repeat (go_big_quiet_step (fail))
            refine wpQuiet_nil ?_
            rintro _ ⟨x0, rfl⟩
            go_wp2_with fail
            go_meet
            exact ⟨by rw [HBF.out], ov_below wr x0⟩
        · have g1 : decide ((i : Int) < a.length) = false := decide_eq_false (by omega)
          have HBF := Lib.hid (show B = false by rw [HBE.out]; exact decide_eq_false (fun h => hin h.1))
          refine wp_region_over (by kernel_rfl) (by kernel_rfl) ?_
          repeat (go_big_quiet_step (fail))
          refine wpQuiet_nil ?_
          rintro _ ⟨x0, rfl⟩
          go_wp2_with fail
          go_meet
          exact ⟨by rw [HBF.out], ov_below wr x0⟩
      case rest =>
      obtain ⟨rfl, hbw⟩ := hcut
      obtain ⟨W, hW⟩ : ∃ W, W = wc := ⟨_, rfl⟩
      rw [← hW] at hbw ⊢
      have HTW := Lib.hid (HST.out.below hbw).at_world
      have HOW := Lib.hid (HROW.out.below hbw)
      have HMW := Lib.hid (own_below HMP.out hbw)
      have HVW := Lib.hid (HSV.out.kept (KeptT.of_below hbw))
      have HKW := Lib.hid (HBK.out.kept (KeptT.of_below hbw) (KeptT.of_below hbw))
      clear hbw hW
      cases B with
      | true =>
        have hb1 := of_decide_eq_true HBE.out.symm
        have HB1 := Lib.hid hb1
        have HSC := Lib.hid (SC_keep a b i j hb1.1 hb1.2.1 hb1.2.2)
        have HCE := Lib.hid (C_eq a b i j hb1.1 hb1.2.1 hb1.2.2)
        clear hb1
        have hbn := (Below.refl W.heap.size W).alloc (Nat.le_refl _) (.cells #[.int .u8 1] 5)
        have HRN := Lib.hid (HOW.out.below hbn)
        have HSN := Lib.hid (HTW.out.below hbn)
        have HMN := Lib.hid (own_below HMW.out hbn)
        have HVN := Lib.hid (HVW.out.kept (KeptT.of_below hbn))
        have HKN := Lib.hid (HKW.out.kept (KeptT.of_below hbn) (KeptT.of_below hbn))
        have HNEW := Lib.hid (show (numR .u8).In (W.alloc (.cells #[.int .u8 1] 5)) (some ⟨W.heap.size, 0, none⟩) [1] from Rec.In.one W 5 (1 : Int) trivial)
        have HCN := Lib.hid (show O.length + [(1 : Int)].length ≤ 100000000 by have := HOL.out; simp only [List.length_cons, List.length_nil]; omega)
        obtain ⟨O1, hO1⟩ : ∃ O1, O1 = O ++ [(1 : Int)] := ⟨_, rfl⟩
        have HO1 := Lib.hid hO1
        have HSZ := Lib.hid HSN.out.bel.size
        clear hbn hO1
        go_wp2_with (at_builtin; refine Rec.wpList_app byte23 rfl _ _ rfl w.heap.size _ O [(1 : Int)] O1 HO1.out rfl HRN.out _ 1 rfl HNEW.out (fun e => by cases e) HCN.out HSZ.out ?_)
        rintro v' w7 ho7 hg7 hb7
        have HO7 := Lib.hid ho7
        have HT7 := Lib.hid (St.app5 HSN.out HRN.out hg7)
        have HM7 := Lib.hid (own_app5 HMN.out HRN.out hg7)
        have hk1 := KeptT.grown (e := 21) (e' := 0) hg7 (row_tag HRN.out (by decide))
        have hk2 := KeptT.grown (e := 22) (e' := 0) hg7 (row_tag HRN.out (by decide))
        have HV7 := Lib.hid (HVN.out.kept hk1)
        have HK7 := Lib.hid (HKN.out.kept hk1 hk2)
        clear ho7 hg7 hb7 hk1 hk2
        go_wp2
        go_roundg (gk - 2)
        case measure => have := HG.out; have := HB1.out; omega
        case rel => exact ⟨i + 1, j + 1, r, O1, blk, fr, by have := HG.out; have := HB1.out; omega, by have := HB1.out; omega, by have := HB1.out; omega, rfl, by go_num, by go_num, by rw [← HCE.out]; exact HRC.out, by have := HR12.out; omega, by have := HR12.out; omega, by rw [HO1.out, List.append_assoc]; have h1 := HO.out; rw [HSC.out] at h1; exact h1, HO7.out, HT7.out, HM7.out, HV7.out, HK7.out⟩
      | false =>
        have hb1 := of_decide_eq_false HBE.out.symm
        have HB1 := Lib.hid hb1
        have hrp : 1 ≤ r := by
          have h1 := HRC.out
          have h2 := C_len a b i j hi hj
          have h3 := HND.out
          by_cases e1 : i < a.length
          · by_cases e2 : j < b.length
            · have := C_ne a b i j e1 e2 (fun h => hb1 ⟨e1, e2, h⟩); omega
            · omega
          · omega
        obtain ⟨d, rfl⟩ : ∃ d, r = d + 1 := ⟨r - 1, by omega⟩
        have f0 : IntKind.i64.wrap (((d + 1 : Nat) : Int) - 1) = (d : Int) := by rw [IntWalk.i64_in _ (by have := HR12.out; omega)]; omega
        have f0' : IntKind.i64.wrap ((d : Int) + 1 - 1) = (d : Int) := by rw [IntWalk.i64_in _ (by have := HR12.out; omega)]; omega
        have hd8 : d < D0 + 1 := by have := HR12.out; omega
        clear hb1 hrp
        by_cases hin : i < a.length
        · have g1 : decide ((i : Int) < a.length) = true := decide_eq_true (by omega)
          have f1 : IntKind.i64.wrap ((i : Int) + 1) = (i : Int) + 1 := IntWalk.i64_in _ (by omega)
          have f2 : IntKind.i64.wrap ((i : Int) + 1 - j) = (i : Int) + 1 - j := IntWalk.i64_in _ (by omega)
          have HLI := Lib.hid (list_any ⟨w, W⟩ W s m a b pa pb ca cb ha hb blk fr n (D0 + 1) D d HTW.out HMW.out HVW.out HKW.out hd8 (by omega))
          have HDI := Lib.hid (drop_iff a b (by unfold never; omega) i j d hin hj HRC.out.symm (by rw [← HD0.out]; have := HR12.out; omega) (by rw [← HD0.out]; have := HR12.out; omega))
          go_wp2_with fail
          refine HLI.out.mono ?_
          rintro e w3 ⟨v3, blk3, fr3, rfl, hr3, ht3, hm3, hv3, hk3⟩
          obtain ⟨pl, c3, rfl, _, _, hin3, _⟩ := hr3.sl
          have hls := least_any s a b d pl (PL a b d) c3 ((i : Int) + 1 - j) w3 ht3.srch ha hb (by omega) (by omega) hin3 (by rw [PL_len]; omega) (PL_in a b ha d)
          have HLS := Lib.hid hls
          have HO3 := Lib.hid (row_keptT HOW.out (St.dist (W0 := ⟨w, W⟩) ht3))
          have HT3 := Lib.hid ht3
          have HM3 := Lib.hid hm3
          have HV3 := Lib.hid hv3
          have HK3 := Lib.hid hk3
          clear hr3 ht3 hm3 hv3 hk3 hls hin3 HLI HTW HOW HMW HVW HKW
          obtain ⟨x, hx⟩ : ∃ x, x = leastL a b d (PL a b d) ((i : Int) + 1 - j) := ⟨_, rfl⟩
          rw [← hx] at HLS HDI
          clear hx
          go_wp2_with fail
          refine HLS.out.mono ?_
          rintro e w4 ⟨rfl, hb4⟩
          have HOX := Lib.hid (HO3.out.below hb4)
          have HTX := Lib.hid (HT3.out.below hb4).at_world
          have HMX := Lib.hid (own_below HM3.out hb4)
          have HVX := Lib.hid (HV3.out.kept (KeptT.of_below hb4))
          have HKX := Lib.hid (HK3.out.kept (KeptT.of_below hb4) (KeptT.of_below hb4))
          clear hb4 HO3 HT3 HM3 HV3 HK3
          by_cases hdr : C a b (i + 1) j = d
          · have g4 : decide (x ≤ (i : Int) + 1) = true := decide_eq_true (HDI.out.2 hdr)
            have HDR := Lib.hid hdr
            have HSC := Lib.hid (SC_drop a b i j hin (by
              by_cases hjm : j < b.length
              · exact .inr ⟨hjm, fun h => HB1.out ⟨hin, hjm, h⟩, by rw [hdr]; exact HRC.out⟩
              · exact .inl (by omega)))
            clear hdr
            have hbn := (Below.refl w4.heap.size w4).alloc (Nat.le_refl _) (.cells #[.int .u8 2] 5)
            have HRN := Lib.hid (HOX.out.below hbn)
            have HSN := Lib.hid (HTX.out.below hbn)
            have HMN := Lib.hid (own_below HMX.out hbn)
            have HVN := Lib.hid (HVX.out.kept (KeptT.of_below hbn))
            have HKN := Lib.hid (HKX.out.kept (KeptT.of_below hbn) (KeptT.of_below hbn))
            have HNEW := Lib.hid (show (numR .u8).In (w4.alloc (.cells #[.int .u8 2] 5)) (some ⟨w4.heap.size, 0, none⟩) [2] from Rec.In.one w4 5 (2 : Int) trivial)
            have HCN := Lib.hid (show O.length + [(2 : Int)].length ≤ 100000000 by have := HOL.out; simp only [List.length_cons, List.length_nil]; omega)
            obtain ⟨O1, hO1⟩ : ∃ O1, O1 = O ++ [(2 : Int)] := ⟨_, rfl⟩
            have HO1 := Lib.hid hO1
            have HSZ := Lib.hid HSN.out.bel.size
            clear hbn hO1
            go_wp2_with (at_builtin; refine Rec.wpList_app byte23 rfl _ _ rfl w.heap.size _ O [(2 : Int)] O1 HO1.out rfl HRN.out _ 1 rfl HNEW.out (fun e => by cases e) HCN.out HSZ.out ?_)
            rintro v' w7 ho7 hg7 hb7
            have HO7 := Lib.hid ho7
            have HT7 := Lib.hid (St.app5 HSN.out HRN.out hg7)
            have HM7 := Lib.hid (own_app5 HMN.out HRN.out hg7)
            have hk1 := KeptT.grown (e := 21) (e' := 0) hg7 (row_tag HRN.out (by decide))
            have hk2 := KeptT.grown (e := 22) (e' := 0) hg7 (row_tag HRN.out (by decide))
            have HV7 := Lib.hid (HVN.out.kept hk1)
            have HK7 := Lib.hid (HKN.out.kept hk1 hk2)
            clear ho7 hg7 hb7 hk1 hk2
            go_wp2
            go_roundg (gk - 1)
            case measure => have := HG.out; omega
            case rel => exact ⟨i + 1, j, d, O1, blk3, fr3, by have := HG.out; omega, by omega, hj, by go_num, by go_num, rfl, HDR.out.symm, by have := HR12.out; omega, by have := HR12.out; omega, by rw [HO1.out, List.append_assoc]; have h1 := HO.out; rw [HSC.out] at h1; exact h1, HO7.out, HT7.out, HM7.out, HV7.out, HK7.out⟩
          · have g4 : decide (x ≤ (i : Int) + 1) = false := decide_eq_false (fun h => hdr (HDI.out.1 h))
            have hjm : j < b.length := by
              apply Classical.byContradiction
              intro hn
              have e1 : j = b.length := by omega
              have h1 := HRC.out
              rw [e1, C_m] at h1
              rw [e1, C_m] at hdr
              omega
            have HSC := Lib.hid (SC_add a b i j hi hjm (.inr ⟨hin, fun h => HB1.out ⟨hin, hjm, h⟩, by rw [← HRC.out]; omega⟩))
            clear hdr
            have hbn := (Below.refl w4.heap.size w4).alloc (Nat.le_refl _) (.cells #[.int .u8 3] 5)
            have HRN := Lib.hid (HOX.out.below hbn)
            have HSN := Lib.hid (HTX.out.below hbn)
            have HMN := Lib.hid (own_below HMX.out hbn)
            have HVN := Lib.hid (HVX.out.kept (KeptT.of_below hbn))
            have HKN := Lib.hid (HKX.out.kept (KeptT.of_below hbn) (KeptT.of_below hbn))
            have HNEW := Lib.hid (show (numR .u8).In (w4.alloc (.cells #[.int .u8 3] 5)) (some ⟨w4.heap.size, 0, none⟩) [3] from Rec.In.one w4 5 (3 : Int) trivial)
            have HCN := Lib.hid (show O.length + [(3 : Int)].length ≤ 100000000 by have := HOL.out; simp only [List.length_cons, List.length_nil]; omega)
            obtain ⟨O1, hO1⟩ : ∃ O1, O1 = O ++ [(3 : Int)] := ⟨_, rfl⟩
            have HO1 := Lib.hid hO1
            have HSZ := Lib.hid HSN.out.bel.size
            clear hbn hO1
            go_wp2_with (at_builtin; refine Rec.wpList_app byte23 rfl _ _ rfl w.heap.size _ O [(3 : Int)] O1 HO1.out rfl HRN.out _ 1 rfl HNEW.out (fun e => by cases e) HCN.out HSZ.out ?_)
            rintro v' w7 ho7 hg7 hb7
            have HO7 := Lib.hid ho7
            have HT7 := Lib.hid (St.app5 HSN.out HRN.out hg7)
            have HM7 := Lib.hid (own_app5 HMN.out HRN.out hg7)
            have hk1 := KeptT.grown (e := 21) (e' := 0) hg7 (row_tag HRN.out (by decide))
            have hk2 := KeptT.grown (e := 22) (e' := 0) hg7 (row_tag HRN.out (by decide))
            have HV7 := Lib.hid (HVN.out.kept hk1)
            have HK7 := Lib.hid (HKN.out.kept hk1 hk2)
            clear ho7 hg7 hb7 hk1 hk2
            go_wp2
            go_roundg (gk - 1)
            case measure => have := HG.out; omega
            case rel => exact ⟨i, j + 1, d, O1, blk3, fr3, by have := HG.out; omega, hi, by omega, by go_num, rfl, by go_num, by have h1 := HSC.out.2; have h2 := HRC.out; omega, by have := HR12.out; omega, by have := HR12.out; omega, by rw [HO1.out, List.append_assoc]; have h1 := HO.out; rw [HSC.out.1] at h1; exact h1, HO7.out, HT7.out, HM7.out, HV7.out, HK7.out⟩
        · have g1 : decide ((i : Int) < a.length) = false := decide_eq_false (by omega)
          have hjm : j < b.length := by have := HND.out; omega
          have HSC := Lib.hid (SC_add a b i j hi hjm (.inl (by omega)))
          have hbn := (Below.refl W.heap.size W).alloc (Nat.le_refl _) (.cells #[.int .u8 3] 5)
          have HRN := Lib.hid (HOW.out.below hbn)
          have HSN := Lib.hid (HTW.out.below hbn)
          have HMN := Lib.hid (own_below HMW.out hbn)
          have HVN := Lib.hid (HVW.out.kept (KeptT.of_below hbn))
          have HKN := Lib.hid (HKW.out.kept (KeptT.of_below hbn) (KeptT.of_below hbn))
          have HNEW := Lib.hid (show (numR .u8).In (W.alloc (.cells #[.int .u8 3] 5)) (some ⟨W.heap.size, 0, none⟩) [3] from Rec.In.one W 5 (3 : Int) trivial)
          have HCN := Lib.hid (show O.length + [(3 : Int)].length ≤ 100000000 by have := HOL.out; simp only [List.length_cons, List.length_nil]; omega)
          obtain ⟨O1, hO1⟩ : ∃ O1, O1 = O ++ [(3 : Int)] := ⟨_, rfl⟩
          have HO1 := Lib.hid hO1
          have HSZ := Lib.hid HSN.out.bel.size
          clear hbn hO1
          go_wp2_with (at_builtin; refine Rec.wpList_app byte23 rfl _ _ rfl w.heap.size _ O [(3 : Int)] O1 HO1.out rfl HRN.out _ 1 rfl HNEW.out (fun e => by cases e) HCN.out HSZ.out ?_)
          rintro v' w7 ho7 hg7 hb7
          have HO7 := Lib.hid ho7
          have HT7 := Lib.hid (St.app5 HSN.out HRN.out hg7)
          have HM7 := Lib.hid (own_app5 HMN.out HRN.out hg7)
          have hk1 := KeptT.grown (e := 21) (e' := 0) hg7 (row_tag HRN.out (by decide))
          have hk2 := KeptT.grown (e := 22) (e' := 0) hg7 (row_tag HRN.out (by decide))
          have HV7 := Lib.hid (HVN.out.kept hk1)
          have HK7 := Lib.hid (HKN.out.kept hk1 hk2)
          clear ho7 hg7 hb7 hk1 hk2
          go_wp2
          go_roundg (gk - 1)
          case measure => have := HG.out; omega
          case rel => exact ⟨i, j + 1, d, O1, blk, fr, by have := HG.out; omega, hi, by omega, by go_num, rfl, by go_num, by have h1 := HSC.out.2; have h2 := HRC.out; omega, by have := HR12.out; omega, by have := HR12.out; omega, by rw [HO1.out, List.append_assoc]; have h1 := HO.out; rw [HSC.out.1] at h1; exact h1, HO7.out, HT7.out, HM7.out, HV7.out, HK7.out⟩
end Go.Proofs.Ytipoifokcnbfnaa
