/- The reference's Add: walk. -/
import Derived.Test.YtmmmimkikakalaaMl
namespace Go.Proofs.Ytmmmimkikakalaa
open Go.RowKit Go.WideShapes Go.ChangeShapes Go.ChangeMaps Go.Deep Go.Maps
set_option linter.unusedVariables false

/-- The reference's graph with a node more. -/
theorem refG_snoc {w w' : World} {p' : Option Addr} {base : Nat} {G : List GN} {rs : List RN} {y : RN} {x : List UInt8} {ps : List (List UInt8)} {st : Int} (h32 : ∀ z ∈ ps, z.length = 32) (h1 : rs.length = G.length)
    (h3 : ∀ i (h : i < G.length), ∃ r, rs[i]? = some r ∧ r.1 = G[i].1 ∧ r.2.2 = G[i].2.2 ∧ r.2.1.2.1 = G[i].2.1.length ∧ SlI w (.slice r.2.1.1 r.2.1.2.1 r.2.1.2.2) G[i].2.1) (hb : Below w.heap.size w w')
    (hin : rnR.In w' p' (rs ++ [y])) (hy : raK base x ps st y w') : RefG w' p' (G ++ [(x, ps, st)]) := by
  refine ⟨rs ++ [y], by simp [h1], hin, fun i hi => ?_⟩
  by_cases hl : i < G.length
  · obtain ⟨r, a1, a2, a3, a4, a5⟩ := h3 i hl
    refine ⟨r, ?_, ?_, ?_, ?_, ?_⟩
    · rw [List.getElem?_append_left (by omega)]; exact a1
    · rw [List.getElem_append_left hl]; exact a2
    · rw [List.getElem_append_left hl]; exact a3
    · rw [List.getElem_append_left hl]; exact a4
    · rw [List.getElem_append_left hl]; exact a5.below hb
  · have : i = G.length := by simp at hi; omega
    subst this
    refine ⟨y, ?_, ?_, ?_, ?_, ?_⟩
    · rw [List.getElem?_append_right (by omega), h1]; simp
    · simp [hy.1]
    · simp [hy.2.1]
    · simp [hy.2.2.1]
    · simpa using SlI_row h32 hy.2.2.2
theorem ret_ga {a : Option Addr} {n n' c : Nat} {i i' : Int} (h1 : n = n') (h2 : i = i') : Ending.returned (.tuple #[.slice a n c, .int .i64 i]) = .returned (.tuple #[.slice a n' c, .int .i64 i']) := by rw [h1, h2]

set_option maxHeartbeats 4000000 in
set_option maxRecDepth 100000 in
theorem radd_any (p : Option Addr) (c : Nat) (G : List GN) (x : List UInt8) (hx : x.length = 32) (q : Option Addr) (d : Nat) (ps : List (List UInt8)) (st : Int) (w : World) (hlG : G.length ≤ 1000) (hlp : ps.length ≤ 1000000)
    (hG : RefG w p G) (hpn : p = none → G = [] ∧ c = 0) (hps : SlI w (.slice q ps.length d) ps) :
    Calls Try.prog 33 #[.slice p G.length c, .agg (idB x), .slice q ps.length d, .int .i64 st] w fun e w' => ∃ p' c', e = .returned (.tuple #[.slice p' (addG G x ps st).length c', .int .i64 (addE G x ps)]) ∧
      RefG w' p' (addG G x ps st) ∧ (p' = none → addG G x ps st = [] ∧ c' = 0) ∧ Below w.heap.size w w' := by
  have hz32 : zeroId.length = 32 := by simp [zeroId]
  obtain ⟨W, hW⟩ : ∃ W, W = w.alloc (.cells (idB x) 24) := ⟨_, rfl⟩
  have hb0 := (Below.refl w.heap.size w).alloc (Nat.le_refl _) (.cells (idB x) 24)
  obtain ⟨blk, hblk⟩ : ∃ b, b = w.heap.size := ⟨_, rfl⟩
  have f1 := fits_new w (idB x) 24 32 (by rw [idB_size, hx])
  have f2 := aggAt_new w (idB x) 24 32 (by rw [idB_size, hx])
  rw [← hW, ← hblk] at f1 f2
  rw [← hW] at hb0
  have HGA := Lib.hid (hG.below hb0)
  have HSP := Lib.hid (hps.below hb0)
  have HB0 := Lib.hid hb0
  have HF1 := Lib.hid f1
  have HF2 := Lib.hid f2
  have HXL := Lib.hid hx
  have HPL := Lib.hid hlp
  have HGN := Lib.hid hlG
  have HPN := Lib.hid hpn
  have hout : addE G x ps ≠ 0 → ∀ w', Below W.heap.size W w' → ∃ p' c', Ending.returned (.tuple #[.slice p G.length c, .int .i64 (addE G x ps)]) = Ending.returned (.tuple #[.slice p' (addG G x ps st).length c', .int .i64 (addE G x ps)]) ∧
      RefG w' p' (addG G x ps st) ∧ (p' = none → addG G x ps st = [] ∧ c' = 0) ∧ Below w.heap.size w w' := by
    intro h0 w' hb
    have he : addG G x ps st = G := by unfold addG; rw [if_neg h0]
    rw [he]
    exact ⟨p, c, rfl, HGA.out.below hb, hpn, hb0.trans (hb.mono hb0.size)⟩
  have HOUT := Lib.hid hout
  have HHA := Lib.hid (fun w' hb => rplace_any p c G x hx w' hlG (HGA.out.below hb))
  clear hb0 hout hG hps hlG hpn
  obtain ⟨q0, d0, he0, _, _, hi0, hn0⟩ := HSP.out
  obtain ⟨h1, _, h2⟩ := Value.slice.inj he0
  subst h1 h2
  have HIS := Lib.hid (risSet_any q d ps)
  have HIN := Lib.hid hi0
  have HQN := Lib.hid hn0
  clear he0 hi0 hn0
  go_enter Try.func33, Try.ntmps33
  go_upto_region 1 with fail
  rw [← hW]
  clear hW
  rw [← hblk]
  clear hblk
  by_cases c1 : x = zeroId
  · have HE := Lib.hid (show addE G x ps = 1 by unfold addE; rw [if_pos (.inl c1)])
    have d1 : (x == zeroId) = true := beq_iff_eq.2 c1
    have HO := Lib.hid (HOUT.out (by rw [HE.out]; decide) W (Below.refl _ _))
    rw [HE.out] at HO
    clear c1
    go_wp2
    go_ret2
    rw [HE.out]
    exact HO.out
  have d1 : (x == zeroId) = false := beq_eq_false_iff_ne.2 c1
  by_cases c2 : 2 < ps.length
  · have HE := Lib.hid (show addE G x ps = 1 by unfold addE; rw [if_pos (.inr (.inl c2))])
    have d2 : decide ((2 : Int) < ps.length) = true := decide_eq_true (by omega)
    have d2' : (2 : Int) < ps.length := by omega
    have HO := Lib.hid (HOUT.out (by rw [HE.out]; decide) W (Below.refl _ _))
    rw [HE.out] at HO
    clear c1
    go_wp2
    go_ret2
    rw [HE.out]
    exact HO.out
  have d2 : decide ((2 : Int) < ps.length) = false := decide_eq_false (by omega)
  have d2' : ¬ (2 : Int) < ps.length := by omega
  cases c3 : isSetL ps with
  | false =>
    have HE := Lib.hid (show addE G x ps = 1 by unfold addE; rw [if_pos (.inr (.inr c3))])
    rw [c3] at HIS
    clear c1 c3
    go_wp2_with fail
    refine (HIS.out W HPL.out HIN.out).mono ?_
    rintro e w2 ⟨rfl, hb2⟩
    have HO := Lib.hid (HOUT.out (by rw [HE.out]; decide) w2 hb2)
    rw [HE.out] at HO
    clear hb2
    go_wp2
    go_ret2
    rw [HE.out]
    exact HO.out
  | true =>
    have HE1 := Lib.hid (show addE G x ps = if isNode G x = true then 11 else if ps.all (isNode G) = true then 0 else 12 by
      unfold addE; rw [if_neg]; rintro (h | h | h); exact c1 h; exact c2 h; rw [c3] at h; cases h)
    rw [c3] at HIS
    clear c1 c3
    go_wp2_with fail
    refine (HIS.out W HPL.out HIN.out).mono ?_
    rintro e w2 ⟨rfl, hb2⟩
    have HB2 := Lib.hid hb2
    have e1 := fits_below hb2 HF1.out
    have e2 := (agg_below hb2 HF1.out).trans HF2.out
    clear hb2 HIS f1 f2 d1 d2
    have HH := Lib.hid (HHA.out _ HB2.out)
    have hpi := placeI_is G x
    generalize placeI G x = pv at HH hpi
    cases c4 : isNode G x with
    | true =>
      have HE := Lib.hid (show addE G x ps = 11 by rw [HE1.out, if_pos c4])
      rw [c4] at hpi
      have hpv : 0 ≤ pv := of_decide_eq_true hpi
      clear c4
      go_wp2_with fail
      refine HH.out.mono ?_
      rintro e w3 ⟨rfl, hb3⟩
      have HO := Lib.hid (HOUT.out (by rw [HE.out]; decide) w3 (HB2.out.trans (hb3.mono HB2.out.size)))
      rw [HE.out] at HO
      clear hb3
      go_wp2
      go_ret2
      rw [HE.out]
      exact HO.out
    | false =>
      rw [c4] at hpi
      have hpv : ¬ 0 ≤ pv := of_decide_eq_false hpi
      have HE2 := Lib.hid (show addE G x ps = if ps.all (isNode G) = true then 0 else 12 by rw [HE1.out, if_neg (by rw [c4]; decide)])
      clear c4 HE1
      go_wp2_with fail
      refine HH.out.mono ?_
      rintro e w3 ⟨rfl, hb3⟩
      have HB3 := Lib.hid (HB2.out.trans (hb3.mono HB2.out.size))
      clear hb3 HH e1 e2
      go_wp2_with fail
      clear hpi hpv
      go_loopg [10] ps.length (fun g v wr => ∃ k : Nat, g + k = ps.length ∧ v = .int .i64 k ∧ (∀ j, j < k → isNode G (ps.getD j []) = true) ∧ Below W.heap.size W wr)
      case atStart => exact ⟨0, by omega, rfl, fun j hj => by omega, HB3.out⟩
      case round =>
        obtain ⟨k, hg, rfl, hall, hbw⟩ := hrel
        have HG := Lib.hid hg
        have HA := Lib.hid hall
        have HB := Lib.hid hbw
        clear hg hall hbw
        by_cases hk : k < ps.length
        · have HK := Lib.hid hk
          rcases (HIN.out.below HB.out).2 with h | ⟨b, off, rfl, hc⟩
          · subst h; simp at hk
          obtain ⟨e1, e2⟩ := hc k hk
          have hy := HIN.out.1 _ (getD_mem hk)
          have HM := Lib.hid (getD_mem hk)
          obtain ⟨y, hyy⟩ : ∃ y, y = ps.getD k [] := ⟨_, rfl⟩
          have HYE := Lib.hid hyy
          rw [← hyy] at e2 hy HM
          have i1 : (k : Int) < ps.length := by omega
          have HHY := Lib.hid (rplace_any p c G y hy _ HGN.out (HGA.out.below HB.out))
          have hpi := placeI_lt G y
          generalize placeI G y = pv at HHY hpi
          clear hc hyy
          cases hn : isNode G y with
          | true =>
            rw [hn] at hpi
            have hpv : ¬ pv < 0 := of_decide_eq_false hpi
            have HN := Lib.hid hn
            clear hn hpi
            go_wp2_with fail
            refine HHY.out.mono ?_
            rintro e w4 ⟨rfl, hb4⟩
            have HB4 := Lib.hid (HB.out.trans (hb4.mono HB.out.size))
            clear hb4 HHY e1 e2
            go_wp2
            go_roundg (gk - 1)
            case measure => have := HG.out; have := HK.out; omega
            case rel => exact ⟨k + 1, by have := HG.out; have := HK.out; omega, by go_num, fun j hj => by rcases Nat.lt_succ_iff_lt_or_eq.1 hj with h | rfl; exact HA.out j h; rw [← HYE.out]; exact HN.out, HB4.out⟩
          | false =>
            rw [hn] at hpi
            have hpv : pv < 0 := of_decide_eq_true hpi
            have HE := Lib.hid (show addE G x ps = 12 from by
              rw [HE2.out, if_neg]
              intro h
              have := List.all_eq_true.1 h y HM.out
              rw [hn] at this; cases this)
            clear hn hpi
            go_wp2_with fail
            refine HHY.out.mono ?_
            rintro e w4 ⟨rfl, hb4⟩
            have HO := Lib.hid (HOUT.out (by rw [HE.out]; decide) w4 (HB.out.trans (hb4.mono HB.out.size)))
            rw [HE.out] at HO
            clear hb4 HHY e1 e2
            go_wp2
            go_ret2
            rw [HE.out]
            exact HO.out
        · have HE0 := Lib.hid (show addE G x ps = 0 from by
            rw [HE2.out, if_pos]
            rw [List.all_eq_true]
            intro z hz
            obtain ⟨j, hj, rfl⟩ := List.getElem_of_mem hz
            have := HA.out j (by have := HG.out; omega)
            simpa [List.getD_eq_getElem?_getD, hj] using this)
          have HBW := Lib.hid (HB0.out.trans (HB.out.mono HB0.out.size))
          have HINW := Lib.hid (HIN.out.below HB.out)
          have HF1' := Lib.hid (fits_below HB.out HF1.out)
          have HF2' := Lib.hid ((agg_below HB.out HF1.out).trans HF2.out)
          have hga := HGA.out.below HB.out
          obtain ⟨rs, hrl, hri, hr3⟩ := hga
          have HRL := Lib.hid hrl
          have HRI := Lib.hid hri
          have HR3 := Lib.hid hr3
          rw [← hrl]
          clear hrl hri hr3 HE2 HHA HOUT
          go_upto_region 10 with fail
          have HG0 := Lib.hid (show G.length ≤ 1000 from HGN.out)
          refine wp_region_specs2 [[], [], [0, 1], [], [], [4], [], [3, 5, 6], [7], [2, 8], [9], []] [some 44, some 45, some 46, some 47, some 48, some 49, some 50, some 51, some 52, some 53, some 8, some 9] [0, 1, 2, 3, 4, 5, 6, 7, 8, 9, 10, 11]
            (fun w_ => Below wr.heap.size wr w_) (fun i w_ => True) (raR wr.heap.size x ps st rs)
            (fun ix_ => [raE wr.heap.size, eqv (Value.slice p rs.length c), rnR.row 51 wr.heap.size rs, eqv (.agg (idB x)), eqv (.slice q ps.length d), rowI wr.heap.size ps, eqv (.int .i64 st), raN wr.heap.size x ps st, raS wr.heap.size x ps st, raW wr.heap.size x ps st rs, raW wr.heap.size x ps st rs, eqv (.int .i64 0)].getD ix_ anyv) (by kernel_rfl) (by kernel_rfl) (below_drewN (Below.refl _ _) 1) (fun _ => trivial) (fun j w_ w_' hg hr => raR_below (Nat.le_refl _) hg hr) ?_ ?_ ?_ ?_
          · exact fun _ _ _ _ _ _ _ _ => trivial
          · intro i j v w_ w_' hij hd h hr
            have hW : j ≠ 9 → ∀ v, raW wr.heap.size x ps st rs v w_ → raW wr.heap.size x ps st rs v w_' := fun hj v h => by
              obtain ⟨y, h1, h2⟩ := h
              refine ⟨y, ?_, raR_K hr h2⟩
              unfold raR at hr
              rw [if_neg hj] at hr
              exact h1.below hr
            match i, hij, hd, h with
            | 0, _, _, h => exact raR_E hr h
            | 1, _, _, h => exact h
            | 2, _, _, h => exact raR_row hr h
            | 3, _, _, h => exact h
            | 4, _, _, h => exact h
            | 5, _, _, h => exact raR_rowI hr h
            | 6, _, _, h => exact h
            | 7, _, _, h => exact raR_N hr h
            | 8, _, _, h => exact raR_S HXL.out hr h
            | 9, hij, _, h => exact hW (fun e => hij e.symm) _ h
            | 10, _, hd, h => exact hW (fun e => hd (by subst e; decide)) _ h
            | 11, _, _, h => exact h
            | i + 12, _, _, h => exact trivial
          · refine ⟨?_, ?_, ?_, ?_, ?_, ?_, ?_, ?_, ?_, ?_, ?_, ?_, trivial⟩
            · intro vs wq hG hP hd
              have HGS := Lib.hid hG
              simp only [putL]
              clear hd hP hG
              go_wp2
              exact ⟨rfl, rfl, raR_b (by decide) ((Below.refl _ _).alloc (Nat.le_refl _) _), wq.heap.size, HGS.out.size, rfl, (MapKept.heap_alloc wq _).1⟩
            · intro vs wq hG hP hd
              simp only [putL]
              clear hd hP hG
              go_wp2
              exact ⟨rfl, rfl, raR_b (by decide) (Below.refl _ _), rfl⟩
            · intro vs wq hG hP hd
              obtain ⟨g, hg1, h0, hg2⟩ := hd.get 0 rfl
              have h1 := hd.get 1 rfl
              change vs 1 = _ at h1
              have HGS := Lib.hid hG
              have HG1 := Lib.hid hg1
              have HG2 := Lib.hid hg2
              have HLL := Lib.hid (show rs.length ≤ 100000000 by rw [HRL.out]; have := HG0.out; omega)
              have HNN := Lib.hid (show p = none → rs = [] ∧ c = 0 from fun h => ⟨List.eq_nil_of_length_eq_zero (by rw [HRL.out, (HPN.out h).1]; rfl), (HPN.out h).2⟩)
              simp only [putL, h0, h1]
              clear hd hP hG h0 h1 hg1 hg2
              go_wp2_with (at_builtin; refine wpList_app0 rn27 rfl _ _ rfl wr.heap.size g HG1.out rfl HG2.out rs p c rfl (HRI.out.below HGS.out) HNN.out HLL.out HGS.out.size ?_)
              intro v' w' k1 k2
              exact ⟨rfl, rfl, raR_b (by decide) k2, k1⟩
            · intro vs wq hG hP hd
              have n1 := fits_below hG HF1'.out
              have n2 := (agg_below hG HF1'.out).trans HF2'.out
              simp only [putL]
              clear hd hP hG
              go_wp2
              exact ⟨rfl, rfl, raR_b (by decide) (Below.refl _ _), rfl⟩
            · intro vs wq hG hP hd
              simp only [putL]
              clear hd hP hG
              go_wp2
              exact ⟨rfl, rfl, raR_b (by decide) (Below.refl _ _), rfl⟩
            · intro vs wq hG hP hd
              have h4 := hd.get 4 rfl
              change vs 4 = _ at h4
              have HGS := Lib.hid hG
              simp only [putL, h4]
              clear hd hP hG h4
              go_wp2_with fail
              refine (copy_any q d ps wq HPL.out (HINW.out.below HGS.out) HQN.out).mono ?_
              rintro e w1 ⟨v, rfl, hr1, hb1⟩
              have HR1 := Lib.hid (ownsRow_base hr1 HGS.out.size)
              have HB1 := Lib.hid hb1
              clear hr1 hb1
              go_wp2
              exact ⟨rfl, rfl, raR_b (by decide) HB1.out, HR1.out⟩
            · intro vs wq hG hP hd
              simp only [putL]
              clear hd hP hG
              go_wp2
              exact ⟨rfl, rfl, raR_b (by decide) (Below.refl _ _), rfl⟩
            · intro vs wq hG hP hd
              have h3 := hd.get 3 rfl
              change vs 3 = _ at h3
              have hr5 := hd.get 5 rfl
              obtain ⟨a5, c5, h5, _⟩ := SlI_row HINW.out.1 hr5
              have h6 := hd.get 6 rfl
              change vs 6 = _ at h6
              rw [h5] at hr5
              have HR5 := Lib.hid (show rowI wr.heap.size ps (.slice a5 ps.length c5) wq from hr5)
              have n1 := HXL.out
              simp only [putL, h3, h5, h6]
              clear hd hP hG h3 h5 h6 hr5
              go_wp2
              exact ⟨rfl, rfl, raR_b (by decide) (Below.refl _ _), (x, (a5, ps.length, c5), st), (by show Value.agg (idB x ++ #[.slice a5 ps.length c5, .int .i64 st]) = _; simp [rnB, rnR]), rfl, rfl, rfl, HR5.out⟩
            · intro vs wq hG hP hd
              obtain ⟨y, h7, hk7⟩ := hd.get 7 rfl
              have HGS := Lib.hid hG
              have HK7 := Lib.hid hk7
              have n1 : rnOk (.agg (rnB y)) := ⟨y, rfl, by rw [hk7.1]; exact HXL.out⟩
              simp only [putL, h7]
              clear hd hP hG h7 hk7
              go_wp2
              exact ⟨rfl, rfl, raR_b (by decide) ((Below.refl _ _).alloc (Nat.le_refl _) _), wq.heap.size, y, HGS.out.size, rfl, (MapKept.heap_alloc wq _).1, HK7.out.1, HK7.out.2.1, HK7.out.2.2.1, ownsRow_below HK7.out.2.2.2 ((Below.refl _ _).alloc (Nat.le_refl _) _)⟩
            · intro vs wq hG hP hd
              have H2 := Lib.hid (hd.get 2 rfl)
              obtain ⟨g8, y, hg8, h8, hh8, hk8⟩ := hd.get 8 rfl
              have HGS := Lib.hid hG
              have HK8 := Lib.hid hk8
              have HH8 := Lib.hid (rn_one (x := y) (by rw [hk8.1]; exact HXL.out) hh8)
              have HLL := Lib.hid (show rs.length + [y].length ≤ 100000000 by rw [HRL.out]; have := HG0.out; simp; omega)
              simp only [putL, h8]
              clear hd hP h8 hG hh8 hk8
              generalize vs 2 = v2 at *
              go_wp2_with (at_builtin; refine wpList_appK rn27 rfl _ _ rfl wr.heap.size v2 rs [y] (rs ++ [y]) rfl rfl H2.out ⟨g8, 0, none⟩ 1 rfl HH8.out (by simp) HLL.out HGS.out.size ?_)
              intro v' w' k1 k2 k3 k4
              have hR := raR_app HXL.out k3 HK8.out k4
              exact ⟨rfl, rfl, hR, y, k1, raR_K hR HK8.out⟩
            · intro vs wq hG hP hd
              have H9 := Lib.hid (hd.get 9 rfl)
              simp only [putL]
              clear hd hP hG
              go_wp2
              exact ⟨rfl, rfl, raR_b (by decide) (Below.refl _ _), H9.out⟩
            · intro vs wq hG hP hd
              simp only [putL]
              clear hd hP hG
              go_wp2
              exact ⟨rfl, rfl, raR_b (by decide) (Below.refl _ _), rfl⟩
          intro vs wz hG hd
          obtain ⟨y, hr10, hk10⟩ := hd.get 10 rfl
          have h11 := hd.get 11 rfl
          change vs 11 = _ at h11
          obtain ⟨p', c', h10, hle, hmx, hi10, hn10⟩ := Rec.row.sl (R := rnR) hr10
          have HZ := Lib.hid (HBW.out.trans (hG.mono HBW.out.size))
          have HGF := Lib.hid (refG_snoc HINW.out.1 HRL.out HR3.out hG hi10 hk10)
          have HN10 := Lib.hid hn10
          have HLEN := Lib.hid (show (rs ++ [y]).length = (addG G x ps st).length by unfold addG; rw [if_pos HE0.out]; simp [HRL.out])
          simp only [putL, List.getD_cons_zero, List.getD_cons_succ, Act.put, List.setIfInBounds_toArray, List.set_cons_zero, List.set_cons_succ, h10, h11]
          clear hd hG hi10 hn10 hr10 hk10 h10 h11 hle hmx
          generalize vs 0 = z0 at *
          generalize vs 1 = z1 at *
          generalize vs 2 = z2 at *
          generalize vs 3 = z3 at *
          generalize vs 4 = z4 at *
          generalize vs 5 = z5 at *
          generalize vs 6 = z6 at *
          generalize vs 7 = z7 at *
          generalize vs 8 = z8 at *
          generalize vs 9 = z9 at *
          generalize (rs ++ [y]).length = n at *
          go_wp2
          go_ret2
          refine ⟨p', c', ret_ga HLEN.out HE0.out.symm, ?_, ?_, HZ.out⟩
          · unfold addG; rw [if_pos HE0.out]; exact HGF.out
          · intro h
            have := (HN10.out h).1
            simp at this
end Go.Proofs.Ytmmmimkikakalaa
