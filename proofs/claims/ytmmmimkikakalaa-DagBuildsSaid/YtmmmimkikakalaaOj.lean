/- The law DagBuilds. -/
import Derived.Test.YtmmmimkikakalaaOi
namespace Go.Proofs.Ytmmmimkikakalaa
open Go.RowKit Go.WideShapes Go.ChangeShapes Go.ChangeMaps Go.Deep
set_option linter.unusedVariables false

/-- Ids as records. -/
def idR : Rec (List UInt8) where
  enc x := Lib.byteCells x
  sz := 32
  ok x := x.length = 32
  pos := by decide
  len x h := by simp [Lib.byteCells, h]
  one x h u hu := by
    obtain ⟨c, _, rfl⟩ := List.mem_map.1 hu
    rfl
theorem idTy : idR.Ty Try.prog 30 24 32 := ⟨Try.underlying30, by kernel_rfl, by kernel_rfl, by decide⟩
theorem idR_row {base : Nat} {L : List (List UInt8)} {v : Value} {w : World} (h32 : ∀ x ∈ L, x.length = 32) (h : rowI base L v w) : idR.row 24 base L v w := ⟨h32, h⟩
theorem idR_one (w : World) (g : Nat) (x : List UInt8) (hx : x.length = 32) (h : w.heap[g]? = some (.cells (idB x) 24 (0, 0))) : idR.In w (some ⟨g, 0, none⟩) [x] := by
  refine ⟨by intro z hz; rw [List.mem_singleton.1 hz]; exact hx, .inr ⟨g, 0, rfl, (Array.getElem?_eq_some_iff.1 h).1, fun i y hy => ?_⟩⟩
  have hs : (idB x).size = 32 := by rw [idB_size, hx]
  match i, hy with
  | 0, hy =>
    simp at hy
    subst hy
    have h32 : idR.sz = 32 := rfl
    rw [Nat.zero_mul, Nat.add_zero]
    refine ⟨⟨rfl, idB x, 24, (0, 0), h, by show 0 + idR.sz ≤ _; rw [hs, h32]; exact Nat.le_refl _⟩, ?_⟩
    unfold aggAt
    rw [show w.heap[(⟨g, 0, none⟩ : Addr).block]? = some (.cells (idB x) 24 (0, 0)) from h]
    show (idB x).extract 0 (0 + idR.sz) = (Lib.byteCells x).toArray
    rw [h32, Nat.zero_add, ← hs, Array.extract_size]
    rfl
  | i + 1, hy => simp at hy
/-- What an operation of the region leaves. -/
def RB (base : Nat) (I : List (List UInt8)) (o : List UInt8) (j : Nat) (w w' : World) : Prop :=
  if j = 4 then Below base w w' ∧ (∀ v, idR.row 24 base I v w → idR.row 24 base I v w') ∧ (∀ g : Nat, w.heap[g]? = some (.cells (idB o) 24 (0, 0)) → w'.heap[g]? = some (.cells (idB o) 24 (0, 0))) else Below w.heap.size w w'
theorem RB.of {base : Nat} {I : List (List UInt8)} {o : List UInt8} {j : Nat} {w w' : World} (hj : j ≠ 4) (h : Below w.heap.size w w') : RB base I o j w w' := by unfold RB; rw [if_neg hj]; exact h
theorem RB.out {base : Nat} {I : List (List UInt8)} {o : List UInt8} {j : Nat} {w w' : World} (hj : j ≠ 4) (h : RB base I o j w w') : Below w.heap.size w w' := by unfold RB at h; rwa [if_neg hj] at h
theorem RB.app {base : Nat} {I : List (List UInt8)} {o : List UInt8} {w w' : World} (h : RB base I o 4 w w') : Below base w w' ∧ (∀ v, idR.row 24 base I v w → idR.row 24 base I v w') ∧ (∀ g : Nat, w.heap[g]? = some (.cells (idB o) 24 (0, 0)) → w'.heap[g]? = some (.cells (idB o) 24 (0, 0))) := by unfold RB at h; rwa [if_pos rfl] at h
def oneAt (o : List UInt8) : Value → World → Prop := fun v w => ∃ g : Nat, v = .slice (some ⟨g, 0, none⟩) 1 1 ∧ w.heap[g]? = some (.cells (idB o) 24 (0, 0))
theorem RB.row {base : Nat} {I L : List (List UInt8)} {o : List UInt8} {j : Nat} {v : Value} {w w' : World} (hj : j ≠ 4) (hr : RB base I o j w w') (h : idR.row 24 base L v w) : idR.row 24 base L v w' := Rec.row.below h (hr.out hj)
theorem RB.one {base : Nat} {I : List (List UInt8)} {o : List UInt8} {j : Nat} {v : Value} {w w' : World} (hr : RB base I o j w w') (h : oneAt o v w) : oneAt o v w' := by
  obtain ⟨g, e, hg⟩ := h
  by_cases hj : j = 4
  · subst hj; exact ⟨g, e, hr.app.2.2 g hg⟩
  · exact ⟨g, e, ((hr.out hj).block g (Array.getElem?_eq_some_iff.1 hg).1).trans hg⟩
theorem RB.row1 {base : Nat} {I : List (List UInt8)} {o : List UInt8} {j : Nat} {v : Value} {w w' : World} (hr : RB base I o j w w') (h : idR.row 24 base I v w) : idR.row 24 base I v w' := by
  by_cases hj : j = 4
  · subst hj; exact hr.app.2.1 v h
  · exact hr.row hj h
theorem parsOf_at {G : List GN} (hG : Wf G) {k : Nat} (hk : k < G.length) : parsOf G G[k].1 = G[k].2.1 := by
  have hn : isNode G G[k].1 = true := isNode_mem.2 (List.mem_map.2 ⟨G[k], List.getElem_mem hk, rfl⟩)
  obtain ⟨h1, h2⟩ := nodeOf_mem hn
  obtain ⟨j, hj, he⟩ := List.getElem_of_mem h1
  have hjk : j = k := nodup_idx hG.nodup (show j < (G.map (·.1)).length by simpa using hj) (show k < (G.map (·.1)).length by simpa using hk) (by simp only [List.getElem_map]; rw [he, h2])
  subst hjk
  unfold parsOf
  rw [← he]
theorem codeE_is (G : List GN) (x : List UInt8) : decide (codeE G x = 0) = isNode G x := by
  unfold codeE
  cases isNode G x with
  | true => rfl
  | false => rfl

set_option maxHeartbeats 8000000 in
set_option maxRecDepth 100000 in
theorem lawBuilds_any (p : Option Addr) (c : Nat) (L : List GN) (o : List UInt8) (ho : o.length = 32) (w : World) (hL : RefG w p L) :
    Calls Try.prog 8 #[.slice p L.length c, .agg (idB o)] w fun e w' => e = .returned (.bool true) ∧ Below w.heap.size w w' := by
  obtain ⟨W, hW⟩ : ∃ W, W = w.alloc (.cells (idB o) 24) := ⟨_, rfl⟩
  obtain ⟨blk, hblk⟩ : ∃ b, b = w.heap.size := ⟨_, rfl⟩
  obtain ⟨hb0, f1, f2, hbq, hin⟩ := box_one w o ho W hW blk hblk
  have HQ := Lib.hid hb0
  have HLW := Lib.hid (hL.below hb0)
  have HBX := Lib.hid (And.intro f1 f2)
  have HO := Lib.hid ho
  have hido := idOk_agg o ho
  clear hb0 hbq hin hL ho f1 f2
  go_enter Try.func8, Try.ntmps8
  go_upto_region 1 with fail
  rw [← hW, ← hblk]
  clear hW hblk
  go_wp2_with fail
  refine (light_any p c L W HLW.out).mono ?_
  rintro e w1 ⟨rfl, h1⟩
  have HB1 := Lib.hid h1
  clear h1
  by_cases hl : lightG L = true
  case neg =>
    have hl' : lightG L = false := by simpa using hl
    clear hl
    go_wp2_with fail
    go_ret
    exact ⟨rfl, HQ.out.trans (HB1.out.mono HQ.out.size)⟩
  case pos =>
    have HL := Lib.hid hl
    go_wp2_with fail
    refine (built_all p c L w1 HL.out (HLW.out.below HB1.out)).mono ?_
    rintro e w2 ⟨gb, mb, p', c', G, rfl, hlen, hwf, hG, hR, h2⟩
    have HLEN := Lib.hid (show G.length ≤ 400 by omega)
    have HWF := Lib.hid hwf
    have HB2 := Lib.hid (HB1.out.trans (h2.mono HB1.out.size))
    have HG2 := Lib.hid hG
    have HR2 := Lib.hid hR
    have HIL := Lib.hid (show (idsL G).length ≤ 400 by have := idsL_len G; omega)
    have HHL := Lib.hid (show (headsL G).length ≤ 400 by have := headsL_len G; omega)
    have HI32 := Lib.hid (idsL_32 hwf)
    clear hl hlen hwf hG hR h2
    go_wp2_with fail
    refine (ids_all gb mb G w2 HLEN.out HWF.out HG2.out).mono ?_
    rintro e w3 ⟨p3, c3, rfl, hs, h3⟩
    have HS3 := Lib.hid hs.in
    have HB3 := Lib.hid h3
    clear hs h3
    go_wp2_with fail
    refine (rids_all p' c' G w3 HLEN.out HWF.out (HR2.out.below HB3.out)).mono ?_
    rintro e w4 ⟨p4, c4, rfl, hs, h4⟩
    have HS4 := Lib.hid hs.in
    have HS34 := Lib.hid (HS3.out.below h4)
    have HB4 := Lib.hid (HB3.out.trans (h4.mono HB3.out.size))
    clear hs h4
    go_wp2_with fail
    refine (same_self p3 p4 c3 c4 (idsL G) w4 _ _ rfl rfl (by have := HIL.out; omega) HS34.out HS4.out).mono ?_
    rintro e w5 ⟨rfl, h5⟩
    have HB5 := Lib.hid (HB4.out.trans (h5.mono HB4.out.size))
    clear h5 HS3 HS4 HS34
    go_wp2_with fail
    refine (heads_all gb mb G w5 HLEN.out HWF.out (HG2.out.below HB5.out)).mono ?_
    rintro e w6 ⟨p6, c6, rfl, hs, h6⟩
    have HS6 := Lib.hid hs.in
    have HB6 := Lib.hid (HB5.out.trans (h6.mono HB5.out.size))
    clear hs h6
    go_wp2_with fail
    refine (rheads_all p' c' G w6 HLEN.out HWF.out (HR2.out.below HB6.out)).mono ?_
    rintro e w7 ⟨p7, c7, rfl, hs, h7⟩
    have HS7 := Lib.hid hs.in
    have HS67 := Lib.hid (HS6.out.below h7)
    have HB7 := Lib.hid (HB6.out.trans (h7.mono HB6.out.size))
    clear hs h7
    go_wp2_with fail
    refine (same_self p6 p7 c6 c7 (headsL G) w7 _ _ rfl rfl (by have := HHL.out; omega) HS67.out HS7.out).mono ?_
    rintro e w8 ⟨rfl, h8⟩
    have HB8 := Lib.hid (HB7.out.trans (h8.mono HB7.out.size))
    clear h8 HS6 HS7 HS67 HB3 HB4 HB5 HB6 HB7
    have HG8 := Lib.hid (HG2.out.below HB8.out)
    have HR8 := Lib.hid (HR2.out.below HB8.out)
    have HBX8 := Lib.hid (And.intro (fits_below (HB2.out.trans (HB8.out.mono HB2.out.size)) HBX.out.1) ((agg_below (HB2.out.trans (HB8.out.mono HB2.out.size)) HBX.out.1).trans HBX.out.2))
    have HF8 := Lib.hid (show Below w.heap.size w w8 from HQ.out.trans ((HB2.out.trans (HB8.out.mono HB2.out.size)).mono HQ.out.size))
    generalize headsL G = HH at *
    obtain ⟨I, hI⟩ : ∃ I, I = idsL G := ⟨_, rfl⟩
    rw [← hI] at HIL HI32 ⊢
    have HIE := Lib.hid hI
    clear hI
    go_upto_region 6 with fail
    refine wp_region_specs2 [[], [0], [], [2], [1, 3], [4]] [some 48, some 49, some 50, some 51, some 52, some 8] [0, 1, 2, 3, 4, 5]
      (fun w_ => Below w8.heap.size w8 w_) (fun i w_ => True) (fun j w_ w_' => RB w8.heap.size I o j w_ w_')
      (fun ix_ => [eqv (.slice p' G.length c'), idR.row 24 w8.heap.size I, eqv (.agg (idB o)), oneAt o, idR.row 24 w8.heap.size (I ++ [o]), idR.row 24 w8.heap.size (I ++ [o])].getD ix_ anyv) (by kernel_rfl) (by kernel_rfl) (below_drewN (Below.refl _ _) 1) (fun _ => trivial) ?_ ?_ ?_ ?_ ?_
    · intro j w_ w_' hg hr
      by_cases hj : j = 4
      · subst hj; exact hg.trans hr.app.1
      · exact hg.trans ((hr.out hj).mono hg.size)
    · exact fun _ _ _ _ _ _ _ _ => trivial
    · intro i j v w_ w_' hij hd h hr
      match i, hij, hd, h with
      | 0, _, _, h => exact h
      | 1, _, _, h => exact hr.row1 h
      | 2, _, _, h => exact h
      | 3, _, _, h => exact hr.one h
      | 4, hij, _, h => exact hr.row (fun e => hij e.symm) h
      | 5, _, hd, h => exact hr.row (fun e => hd (by rw [e]; decide)) h
      | i + 6, _, _, h => exact trivial
    · refine ⟨?_, ?_, ?_, ?_, ?_, ?_, trivial⟩
      · intro vs wq hG hP hd
        clear hd hP hG
        go_wp2
        exact ⟨rfl, rfl, RB.of (by decide) (Below.refl _ _), rfl⟩
      · intro vs wq hG hP hd
        have h0 := hd.get 0 rfl
        change vs 0 = _ at h0
        have HGQ := Lib.hid hG
        simp only [putL, h0]
        clear hd hP hG h0
        go_wp2_with fail
        refine (rids_any p' c' G wq (Nat.le_trans HLEN.out (by decide)) HWF.out (HR8.out.below HGQ.out)).mono ?_
        rintro e w9 ⟨v9, rfl, hr9, hb9⟩
        have HX9 := Lib.hid (RB.of (base := w8.heap.size) (I := I) (o := o) (j := 1) (by decide) hb9)
        rw [← HIE.out] at hr9
        have HR9 := Lib.hid (show idR.row 24 w8.heap.size I v9 w9 from idR_row HI32.out (ownsRow_base hr9 HGQ.out.size))
        clear hr9 hb9
        go_wp2
        exact ⟨rfl, rfl, HX9.out, HR9.out⟩
      · intro vs wq hG hP hd
        have HGQ := Lib.hid hG
        have f1 := fits_below hG HBX8.out.1
        have f2 := (agg_below hG HBX8.out.1).trans HBX8.out.2
        have q7 := f1.lt
        simp only at q7
        simp only [putL]
        clear hd hP hG
        go_wp2
        exact ⟨rfl, rfl, RB.of (by decide) (Below.refl _ _), rfl⟩
      · intro vs wq hG hP hd
        have h2 := hd.get 2 rfl
        change vs 2 = _ at h2
        simp only [putL, h2]
        clear hd hP hG h2
        go_wp2
        exact ⟨rfl, rfl, RB.of (by decide) ((Below.refl _ _).alloc (Nat.le_refl _) _), _, rfl, World.alloc_heap_new wq _⟩
      · intro vs wq hG hP hd
        have H1 := Lib.hid (show idR.row 24 w8.heap.size I (vs 1) wq from hd.get 1 rfl)
        obtain ⟨g3, e3, q3⟩ := (show oneAt o (vs 3) wq from hd.get 3 rfl)
        have HQ3 := Lib.hid q3
        have HGQ := Lib.hid hG
        simp only [putL, e3]
        clear hd hP hG e3 q3
        have HSZ := Lib.hid (show I.length + [o].length ≤ 100000000 by have := HIL.out; simp only [List.length_singleton]; omega)
        have HI3 := Lib.hid (idR_one wq g3 o HO.out HQ3.out)
        have HP1 := Lib.hid (show 0 < [o].length by show 0 < 1; decide)
        generalize vs 1 = v1 at *
        go_wp2_with (at_builtin; refine wpList_appK idTy rfl _ _ rfl w8.heap.size v1 I [o] (I ++ [o]) rfl rfl H1.out ⟨g3, 0, none⟩ 1 rfl HI3.out HP1.out HSZ.out HGQ.out.size ?_)
        rintro v' w' r1 r2 r3 r4
        refine ⟨rfl, rfl, ?_, r1⟩
        show RB w8.heap.size I o 4 wq w'
        unfold RB
        rw [if_pos rfl]
        refine ⟨r3, fun v hv => row_front r4 hv, fun g hg => one_front (R := idR) (x := o) (by simp [idB, Rec.cells, idR]) HO.out r4 hg⟩
      · intro vs wq hG hP hd
        have H4 := Lib.hid (show idR.row 24 w8.heap.size (I ++ [o]) (vs 4) wq from hd.get 4 rfl)
        simp only [putL]
        clear hd hP hG
        go_wp2
        exact ⟨rfl, rfl, RB.of (by decide) (Below.refl _ _), H4.out⟩
    intro vs wz hG hd
    have HZ := Lib.hid hG
    have H5 := Lib.hid (show idR.row 24 w8.heap.size (I ++ [o]) (vs 5) wz from hd.get 5 rfl)
    have h0 := hd.get 0 rfl
    have h2 := hd.get 2 rfl
    change vs 0 = _ at h0
    change vs 2 = _ at h2
    simp only [putL, List.getD_cons_zero, List.getD_cons_succ, Act.put, List.setIfInBounds_toArray, List.set_cons_zero, List.set_cons_succ, h0, h2]
    clear hd hG h0 h2
    have HA32 := Lib.hid H5.out.1
    obtain ⟨pA, cA, eA, sA⟩ := row_sl H5.out.1 (show rowI w8.heap.size (I ++ [o]) (vs 5) wz from H5.out.2)
    simp only [eA]
    have HIN := Lib.hid sA.in
    clear eA sA H5
    generalize vs 1 = z1
    generalize vs 3 = z3
    generalize vs 4 = z4
    have HGZ := Lib.hid (HG8.out.below HZ.out)
    have HRZ := Lib.hid (HR8.out.below HZ.out)
    have HFZ := Lib.hid (HF8.out.trans (HZ.out.mono HF8.out.size))
    have hal : (I ++ [o]).length ≤ 1000000 := by have := HIL.out; simp; omega
    have hgl : G.length ≤ 1000000 := by have := HLEN.out; omega
    generalize I ++ [o] = AL at *
    clear HG2 HR2 HG8 HR8 HBX HBX8 HB8 HB2 HB1 HF8 HZ HIE HI32 HIL HHL HLW HQ HL hido
    go_wp2_with fail
    go_loopg [9] AL.length (fun g i wr => ∃ (k : Nat), g + k = AL.length ∧ i = .int .i64 k ∧ Below wz.heap.size wz wr)
    case atStart => exact ⟨0, by omega, rfl, Below.refl _ _⟩
    case round =>
      obtain ⟨k, hg, rfl, hb⟩ := hrel
      have HGK := Lib.hid hg
      have HBR := Lib.hid hb
      clear hg hb
      by_cases hk : k < AL.length
      · have HK := Lib.hid hk
        rcases HIN.out.2 with h | ⟨bm, offm, rfl, hc⟩
        · rw [h] at hk; simp at hk
        have HIK := Lib.hid (hc k hk)
        have HXM := Lib.hid (getD_mem hk)
        obtain ⟨x, hx⟩ : ∃ x, x = AL.getD k [] := ⟨_, rfl⟩
        rw [← hx] at HIK HXM
        have HX32 := Lib.hid (HA32.out x HXM.out)
        have hx32 := HX32.out
        have i1 : (k : Int) < AL.length := by omega
        have HPEL := Lib.hid (show (pastE G x).length ≤ 1000000 by have := pastE_len G x; have := HLEN.out; omega)
        have HLEL := Lib.hid (show (logE G x).length ≤ 1000000 by have := logE_len G x; have := HLEN.out; omega)
        have HPAL := Lib.hid (show (parsOf G x).length ≤ 1000000 by have := pars_len HWF.out x; omega)
        have HHAS := Lib.hid (fun w' hG' => has_any gb mb G x HX32.out w' hG')
        have HNB := Lib.hid (show (decide (x ∈ G.map (·.1))) = isNode G x from rfl)
        rw [HNB.out] at HHAS
        have hq1 := codeE_is G x
        have hq2 : (codeE G x == 0) = isNode G x := hq1
        have hq3 : (isNode G x != isNode G x) = false := by simp
        clear hc hx
        have f1 := (IdAt.below HIK.out HBR.out).1
        have f2 := (IdAt.below HIK.out HBR.out).2
        have q7 := f1.lt
        simp only at q7
        go_wp2_with fail
        refine (past_all gb mb G x HX32.out wr HLEN.out HWF.out (HGZ.out.below HBR.out)).mono ?_
        rintro e wc0 ⟨pP1, cP1, rfl, hs, hb⟩
        have HSP1 := Lib.hid hs.in
        have HBC0 := Lib.hid ((HBR.out).trans (hb.mono (HBR.out).size))
        clear hs hb f1 f2 q7
        have f1 := (IdAt.below HIK.out HBC0.out).1
        have f2 := (IdAt.below HIK.out HBC0.out).2
        have q7 := f1.lt
        simp only at q7
        go_wp2_with fail
        refine (rpast_all p' c' G x HX32.out wc0 HLEN.out HWF.out (HRZ.out.below HBC0.out)).mono ?_
        rintro e wc1 ⟨pP2, cP2, rfl, hs, hb⟩
        have HSP2 := Lib.hid hs.in
        have HBC1 := Lib.hid ((HBC0.out).trans (hb.mono (HBC0.out).size))
        have HSP1 := Lib.hid (HSP1.out.below hb)
        clear hs hb f1 f2 q7
        have f1 := (IdAt.below HIK.out HBC1.out).1
        have f2 := (IdAt.below HIK.out HBC1.out).2
        have q7 := f1.lt
        simp only at q7
        go_wp2_with fail
        refine (log_all gb mb G x HX32.out wc1 HLEN.out HWF.out (HGZ.out.below HBC1.out)).mono ?_
        rintro e wc2 ⟨pL1, cL1, rfl, hs, hb⟩
        have HSL1 := Lib.hid hs.in
        have HBC2 := Lib.hid ((HBC1.out).trans (hb.mono (HBC1.out).size))
        have HSP1 := Lib.hid (HSP1.out.below hb)
        have HSP2 := Lib.hid (HSP2.out.below hb)
        clear hs hb f1 f2 q7
        have f1 := (IdAt.below HIK.out HBC2.out).1
        have f2 := (IdAt.below HIK.out HBC2.out).2
        have q7 := f1.lt
        simp only at q7
        go_wp2_with fail
        refine (rlog_all p' c' G x HX32.out wc2 HLEN.out HWF.out (HRZ.out.below HBC2.out)).mono ?_
        rintro e wc3 ⟨pL2, cL2, rfl, hs, hb⟩
        have HSL2 := Lib.hid hs.in
        have HBC3 := Lib.hid ((HBC2.out).trans (hb.mono (HBC2.out).size))
        have HSP1 := Lib.hid (HSP1.out.below hb)
        have HSP2 := Lib.hid (HSP2.out.below hb)
        have HSL1 := Lib.hid (HSL1.out.below hb)
        clear hs hb f1 f2 q7
        have f1 := (IdAt.below HIK.out HBC3.out).1
        have f2 := (IdAt.below HIK.out HBC3.out).2
        have q7 := f1.lt
        simp only at q7
        go_wp2_with fail
        refine (parents_all gb mb G x HX32.out wc3 HWF.out (HGZ.out.below HBC3.out)).mono ?_
        rintro e wc4 ⟨pPA, cPA, rfl, hs, hb⟩
        have HSPA := Lib.hid hs.in
        have HBC4 := Lib.hid ((HBC3.out).trans (hb.mono (HBC3.out).size))
        have HSP1 := Lib.hid (HSP1.out.below hb)
        have HSP2 := Lib.hid (HSP2.out.below hb)
        have HSL1 := Lib.hid (HSL1.out.below hb)
        have HSL2 := Lib.hid (HSL2.out.below hb)
        clear hs hb f1 f2 q7
        have f1 := (IdAt.below HIK.out HBC4.out).1
        have f2 := (IdAt.below HIK.out HBC4.out).2
        have q7 := f1.lt
        simp only at q7
        go_wp2_with fail
        refine (same_self pP1 pP2 cP1 cP2 (pastE G x) wc4 _ _ rfl rfl HPEL.out HSP1.out HSP2.out).mono ?_
        rintro e wd1 ⟨rfl, hb⟩
        have HBD1 := Lib.hid (HBC4.out.trans (hb.mono HBC4.out.size))
        have HSL1 := Lib.hid (HSL1.out.below hb)
        have HSL2 := Lib.hid (HSL2.out.below hb)
        have HSPA := Lib.hid (HSPA.out.below hb)
        clear hb f1 f2 q7
        go_wp2_with fail
        refine (same_self pL1 pL2 cL1 cL2 (logE G x) wd1 _ _ rfl rfl HLEL.out HSL1.out HSL2.out).mono ?_
        rintro e wd2 ⟨rfl, hb⟩
        have HBD2 := Lib.hid (HBD1.out.trans (hb.mono HBD1.out.size))
        have HSPA := Lib.hid (HSPA.out.below hb)
        clear hb
        have f1 := (IdAt.below HIK.out HBD2.out).1
        have f2 := (IdAt.below HIK.out HBD2.out).2
        have q7 := f1.lt
        simp only at q7
        go_wp2_with fail
        refine (HHAS.out wd2 (HGZ.out.below HBD2.out)).mono ?_
        rintro e wd3 ⟨rfl, hb⟩
        have HBD3 := Lib.hid (HBD2.out.trans (hb.mono HBD2.out.size))
        have HSP3 := Lib.hid (HSPA.out.below hb)
        clear hb f1 f2 q7
        go_wp2_with fail
        clear hq1 hq2 hq3
        go_loopg [20] G.length (fun g i wr2 => ∃ (m : Nat), g + m = G.length ∧ i = .int .i64 m ∧ Below wd3.heap.size wd3 wr2)
        case atStart => exact ⟨0, by omega, rfl, Below.refl _ _⟩
        case round =>
          obtain ⟨m, hg, rfl, hb2⟩ := hrel
          have HGM := Lib.hid hg
          have HBM := Lib.hid hb2
          have HBZM := Lib.hid (HBD3.out.trans (hb2.mono HBD3.out.size))
          clear hg hb2
          by_cases hm : m < G.length
          · have HM := Lib.hid hm
            obtain ⟨b, off, a, ca, y, ps, st, rfl, hlt, hget, h32, hat, hsl⟩ := (HRZ.out.below HBZM.out).at hm
            have HPS := Lib.hid (show y = x → parsOf G x = ps from by
              intro hyx
              rw [List.getElem?_eq_getElem hm] at hget
              injection hget with hget
              have := parsOf_at HWF.out hm
              rw [hget] at this
              rw [← hyx]; exact this)
            have HSL := Lib.hid hsl.in
            have i2 : (m : Int) < G.length := by omega
            have g1 := hat.kf
            have g2 := hat.ka
            have g3 := hat.p
            have q8 : b < wr.heap.size := hlt
            have f1 := (IdAt.below HIK.out HBZM.out).1
            have f2 := (IdAt.below HIK.out HBZM.out).2
            have q7 := f1.lt
            simp only at q7 g2 g3
            clear hat hget hsl hlt
            by_cases hyx : y = x
            · subst hyx
              obtain rfl := HPS.out rfl
              have hyy : (y == y) = true := beq_self_eq_true y
              go_wp2_with fail
              refine wp_region_over (by kernel_rfl) (by kernel_rfl) ?_
              repeat (go_big_quiet_step ((go_at_call 13; exact Calls.over_of (same_self pPA a cPA ca (parsOf G y) _ _ _ rfl rfl HPAL.out (HSP3.out.below (HBM.out.trans ((ov_below wr _).mono HBM.out.size))) (HSL.out.below (ov_below wr _))))))
              refine wpQuiet_nil ?_
              rintro _ ⟨z0, rfl⟩
              have HB4 := Lib.hid (HBM.out.trans ((ov_below wr z0).mono HBM.out.size))
              clear f1 f2 q7 g1 g2 g3 q8
              go_wp2
              go_roundg (gk - 1)
              case measure => have := HGM.out; have := HM.out; omega
              case rel => exact ⟨m + 1, by have := HGM.out; have := HM.out; omega, by go_num, HB4.out⟩
            · have hyy : (y == x) = false := beq_eq_false_iff_ne.2 hyx
              have hx33 : x.length = 32 := HX32.out
              have hy33 : y.length = 32 := h32
              clear hyx
              go_wp2_with fail
              refine wp_region_over (by kernel_rfl) (by kernel_rfl) ?_
              repeat (go_big_quiet_step (fail))
              refine wpQuiet_nil ?_
              rintro _ ⟨z0, rfl⟩
              have HB4 := Lib.hid (HBM.out.trans ((ov_below wr z0).mono HBM.out.size))
              clear f1 f2 q7 g1 g2 g3 q8
              go_wp2
              go_roundg (gk - 1)
              case measure => have := HGM.out; have := HM.out; omega
              case rel => exact ⟨m + 1, by have := HGM.out; have := HM.out; omega, by go_num, HB4.out⟩
          · have i2 : ¬ (m : Int) < G.length := by omega
            go_wp2_with fail
            go_roundg (AL.length - (k + 1))
            case measure => have := HGK.out; have := HK.out; omega
            case rel => exact ⟨k + 1, by have := HGK.out; have := HK.out; omega, by go_num, HBZM.out⟩
      · have i1 : ¬ (k : Int) < AL.length := by omega
        go_wp2_with fail
        refine (awake_any wr).mono ?_
        rintro e w9 ⟨rfl, h9⟩
        have HB9 := Lib.hid (HFZ.out.trans ((HBR.out.trans (h9.mono HBR.out.size)).mono HFZ.out.size))
        clear h9
        go_wp2_with fail
        go_ret
        exact ⟨rfl, HB9.out⟩
theorem dagBuilds_walk {H : Type} {enc : TypeId × Value → H} {W : World} {b0 : Nat} {v0 v1 : Value} {d0 d1 : DataW H} {p0 p1 : List MemPlace}
    (k0 : Value.okWide Try.prog W .any b0 22 v0) (h0 : DataW.Trod enc Try.prog W 0 (fun _ => true) true 22 v0 d0 p0)
    (k1 : Value.okWide Try.prog W .any b0 24 v1) (h1 : DataW.Trod enc Try.prog W 0 (fun _ => true) true 24 v1 d1 p1) :
    Calls Try.prog 8 #[v0, v1] W fun e w' => e = .returned (.bool true) ∧ Below W.heap.size W w' := by
  obtain ⟨p, c, L, rfl, hL⟩ := reads_gn h0 (okWide_slice Try.underlying22 k0)
  obtain ⟨x, hx, rfl⟩ := reads_id (ok_arr Try.underlying24 k1) h1
  exact lawBuilds_any p c L x hx W hL
end Go.Proofs.Ytmmmimkikakalaa
