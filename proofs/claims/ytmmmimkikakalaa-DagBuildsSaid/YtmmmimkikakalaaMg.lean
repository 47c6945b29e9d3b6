/- Add: walk. -/
import Derived.Test.YtmmmimkikakalaaMf
namespace Go.Proofs.Ytmmmimkikakalaa
open Go.RowKit Go.Maps
set_option linter.unusedVariables false

def slV (ps : List (List UInt8)) : Value → World → Prop := fun v w => SlI w v ps ∧ ∀ a n c, v = .slice a n c → (a = none ∨ ∃ g o, a = some ⟨g, o, none⟩)
def ndV (ps : List (List UInt8)) (st : Int) : Value → World → Prop := fun v w => ∃ a c, v = nodV a ps.length c st ∧ SlI w (.slice a ps.length c) ps ∧ (a = none ∨ ∃ g o, a = some ⟨g, o, none⟩)
theorem own_spot {w : World} {base : Nat} {v : Value} {ps : List (List UInt8)} (h : rowI base ps v w) : ∀ a n c, v = .slice a n c → (a = none ∨ ∃ g o, a = some ⟨g, o, none⟩) := by
  intro a n c hv
  obtain ⟨_, ⟨rfl, _⟩ | ⟨g, cap, cur, rfl, _⟩⟩ := h
  · cases hv; exact .inl rfl
  · cases hv; exact .inr ⟨_, _, rfl⟩
theorem grown_trans {a b c : World} {row : Option Nat} (h : a.grownBy b row) (k : b.grownBy c row) : a.grownBy c row := h.andThen k (fun j hj => .inr hj)
theorem graphD_below {w w' : World} {G : List GN} {D : DataW Unit} (hd : GraphD w G D) (hb : Below w.heap.size w w') : GraphD w' G D :=
  ⟨hd.tidy, hd.has, hd.size, fun g hg => let ⟨h32, a, c, hs, he⟩ := hd.node g hg; ⟨h32, a, c, hs.below hb, he⟩⟩
theorem _root_.Go.World.grownBy.cell_of {w w' : World} {gb mb : Nat} {v : Value} {t : TypeId} (hg : w.grownBy w' (some mb)) (h : w.heap[gb]? = some (.cells #[v] t (0, 0))) (hne : gb ≠ mb) : w'.cell? ⟨gb, 0, none⟩ = some v := by
  have := (hg.block gb (Array.getElem?_eq_some_iff.1 h).1 (fun e => hne (Option.some.inj e))).trans h
  rw [Lib.cell_of_heap this]; rfl
theorem _root_.Go.World.grownBy.fits_of {w w' : World} {mb n : Nat} {a : Addr} (hg : w.grownBy w' (some mb)) (h : fits w a n) (hne : a.block ≠ mb) : fits w' a n := fits_of_block (hg.block a.block h.lt (fun e => hne (Option.some.inj e))) h
theorem _root_.Go.World.grownBy.agg_of {w w' : World} {mb n : Nat} {a : Addr} (hg : w.grownBy w' (some mb)) (h : fits w a n) (hne : a.block ≠ mb) : aggAt w' a n = aggAt w a n := aggAt_of_block (hg.block a.block h.lt (fun e => hne (Option.some.inj e)))

set_option maxHeartbeats 4000000 in
set_option maxRecDepth 100000 in
theorem add_any (gb mb : Nat) (hne : gb ≠ mb) (G : List GN) (x : List UInt8) (hx : x.length = 32) (p : Option Addr) (c : Nat) (ps : List (List UInt8)) (st : Int) (w : World) (hlG : G.length ≤ 1000) (hlp : ps.length ≤ 1000000)
    (hG : GraphAt w gb mb G) (hps : SlI w (.slice p ps.length c) ps) :
    Calls Try.prog 24 #[.pointer (some ⟨gb, 0, none⟩), .agg (idB x), .slice p ps.length c, .int .i64 st] w fun e w' =>
      e = .returned (.int .i64 (addE G x ps)) ∧ w.grownBy w' (some mb) ∧ GraphAt w' gb mb (addG G x ps st) := by
  have hz32 : zeroId.length = 32 := by simp [zeroId]
  obtain ⟨W, hW⟩ : ∃ W, W = w.alloc (.cells (idB x) 24) := ⟨_, rfl⟩
  have hb0 := (Below.refl w.heap.size w).alloc (Nat.le_refl _) (.cells (idB x) 24)
  obtain ⟨blk, hblk⟩ : ∃ b, b = w.heap.size := ⟨_, rfl⟩
  have f1 := fits_new w (idB x) 24 32 (by rw [idB_size, hx])
  have f2 := aggAt_new w (idB x) 24 32 (by rw [idB_size, hx])
  rw [← hW, ← hblk] at f1 f2
  rw [← hW] at hb0
  have HGA := Lib.hid (hG.below hb0)
  have HSP := Lib.hid (hps.below hb0)
  have HB0 := Lib.hid hb0
  have HF1 := Lib.hid f1
  have HF2 := Lib.hid f2
  have HXL := Lib.hid hx
  have HPL := Lib.hid hlp
  have HNE := Lib.hid hne
  have HGN := Lib.hid hlG
  have hout : addE G x ps ≠ 0 → ∀ w', Below W.heap.size W w' → w.grownBy w' (some mb) ∧ GraphAt w' gb mb (addG G x ps st) := by
    intro h0 w' hb
    refine ⟨grown_of_below (hb0.trans (hb.mono hb0.size)), ?_⟩
    unfold addG
    rw [if_neg h0]
    exact HGA.out.below hb
  have HOUT := Lib.hid hout
  have HHA := Lib.hid (fun w' hb => has_any gb mb G x hx w' (HGA.out.below hb))
  clear hb0 hout hG hps hlG
  obtain ⟨p0, c0, he0, _, _, hi0, hn0⟩ := HSP.out
  obtain ⟨h1, _, h2⟩ := Value.slice.inj he0
  subst h1 h2
  have HIS := Lib.hid (isSet_any p c ps)
  have HIN := Lib.hid hi0
  clear he0 hi0 hn0
  go_enter Try.func24, Try.ntmps24
  go_upto_region 1 with fail
  rw [← hW]
  clear hW
  rw [← hblk]
  clear hblk
  by_cases c1 : x = zeroId
  · have HE := Lib.hid (show addE G x ps = 1 by unfold addE; rw [if_pos (.inl c1)])
    have d1 : (x == zeroId) = true := beq_iff_eq.2 c1
    clear c1
    go_wp2
    go_ret
    exact ⟨ret_i HE.out.symm, HOUT.out (by rw [HE.out]; decide) W (Below.refl _ _)⟩
  have d1 : (x == zeroId) = false := beq_eq_false_iff_ne.2 c1
  by_cases c2 : 2 < ps.length
  · have HE := Lib.hid (show addE G x ps = 1 by unfold addE; rw [if_pos (.inr (.inl c2))])
    have d2 : decide ((2 : Int) < ps.length) = true := decide_eq_true (by omega)
    have d2' : (2 : Int) < ps.length := by omega
    clear c1
    go_wp2
    go_ret
    exact ⟨ret_i HE.out.symm, HOUT.out (by rw [HE.out]; decide) W (Below.refl _ _)⟩
  have d2 : decide ((2 : Int) < ps.length) = false := decide_eq_false (by omega)
  have d2' : ¬ (2 : Int) < ps.length := by omega
  cases c3 : isSetL ps with
  | false =>
    have HE := Lib.hid (show addE G x ps = 1 by unfold addE; rw [if_pos (.inr (.inr c3))])
    rw [c3] at HIS
    clear c1 c3
    go_wp2_with fail
    refine (HIS.out W HPL.out HIN.out).mono ?_
    rintro e w2 ⟨rfl, hb2⟩
    have HB2 := Lib.hid hb2
    clear hb2
    go_wp2
    go_ret
    exact ⟨ret_i HE.out.symm, HOUT.out (by rw [HE.out]; decide) _ HB2.out⟩
  | true =>
    have HE1 := Lib.hid (show addE G x ps = if isNode G x = true then 11 else if ps.all (isNode G) = true then 0 else 12 by
      unfold addE; rw [if_neg]; rintro (h | h | h); exact c1 h; exact c2 h; rw [c3] at h; cases h)
    rw [c3] at HIS
    clear c1 c3
    go_wp2_with fail
    refine (HIS.out W HPL.out HIN.out).mono ?_
    rintro e w2 ⟨rfl, hb2⟩
    have HB2 := Lib.hid hb2
    have e1 := fits_below hb2 HF1.out
    have e2 := (agg_below hb2 HF1.out).trans HF2.out
    clear hb2 HIS f1 f2 d1 d2
    cases c4 : isNode G x with
    | true =>
      have HE := Lib.hid (show addE G x ps = 11 by rw [HE1.out, if_pos c4])
      have HH := Lib.hid (HHA.out _ HB2.out)
      rw [show decide (x ∈ G.map (·.1)) = true from c4] at HH
      clear c4
      go_wp2_with fail
      refine HH.out.mono ?_
      rintro e w3 ⟨rfl, hb3⟩
      have HB3 := Lib.hid (HB2.out.trans (hb3.mono HB2.out.size))
      clear hb3
      go_wp2
      go_ret
      exact ⟨ret_i HE.out.symm, HOUT.out (by rw [HE.out]; decide) _ HB3.out⟩
    | false =>
      have HH := Lib.hid (HHA.out _ HB2.out)
      rw [show decide (x ∈ G.map (·.1)) = false from c4] at HH
      have HNT := Lib.hid c4
      have HE2 := Lib.hid (show addE G x ps = if ps.all (isNode G) = true then 0 else 12 by rw [HE1.out, if_neg (by rw [c4]; decide)])
      clear c4 HE1
      go_wp2_with fail
      refine HH.out.mono ?_
      rintro e w3 ⟨rfl, hb3⟩
      have HB3 := Lib.hid (HB2.out.trans (hb3.mono HB2.out.size))
      clear hb3 HH e1 e2
      go_wp2_with fail
      go_loopg [33] ps.length (fun g v wr => ∃ k : Nat, g + k = ps.length ∧ v = .int .i64 k ∧ (∀ j, j < k → isNode G (ps.getD j []) = true) ∧ Below W.heap.size W wr)
      case atStart => exact ⟨0, by omega, rfl, fun j hj => by omega, HB3.out⟩
      case round =>
        obtain ⟨k, hg, rfl, hall, hbw⟩ := hrel
        have HG := Lib.hid hg
        have HA := Lib.hid hall
        have HB := Lib.hid hbw
        clear hg hall hbw
        by_cases hk : k < ps.length
        · have HK := Lib.hid hk
          rcases (HIN.out.below HB.out).2 with h | ⟨b, off, rfl, hc⟩
          · subst h; simp at hk
          obtain ⟨e1, e2⟩ := hc k hk
          have hy := HIN.out.1 _ (getD_mem hk)
          have HM := Lib.hid (getD_mem hk)
          obtain ⟨y, hyy⟩ : ∃ y, y = ps.getD k [] := ⟨_, rfl⟩
          have HYE := Lib.hid hyy
          rw [← hyy] at e2 hy HM
          have i1 : (k : Int) < ps.length := by omega
          have f1 := fits_new wr (idB y) 24 32 (by rw [idB_size, hy])
          have f2 := aggAt_new wr (idB y) 24 32 (by rw [idB_size, hy])
          have hb1 := (Below.refl wr.heap.size wr).alloc (Nat.le_refl _) (.cells (idB y) 24)
          have HB1 := Lib.hid (HB.out.trans (hb1.mono HB.out.size))
          have HHY := Lib.hid (has_any gb mb G y hy _ (HGA.out.below HB1.out))
          clear hc hyy hb1
          cases hn : isNode G y with
          | true =>
            rw [show decide (y ∈ G.map (·.1)) = true from hn] at HHY
            have HN := Lib.hid hn
            clear hn
            go_wp2_with fail
            refine HHY.out.mono ?_
            rintro e w4 ⟨rfl, hb4⟩
            have HB4 := Lib.hid (HB1.out.trans (hb4.mono HB1.out.size))
            clear hb4 HHY e1 e2 f1 f2
            go_wp2
            go_roundg (gk - 1)
            case measure => have := HG.out; have := HK.out; omega
            case rel => exact ⟨k + 1, by have := HG.out; have := HK.out; omega, by go_num, fun j hj => by rcases Nat.lt_succ_iff_lt_or_eq.1 hj with h | rfl; exact HA.out j h; rw [← HYE.out]; exact HN.out, HB4.out⟩
          | false =>
            rw [show decide (y ∈ G.map (·.1)) = false from hn] at HHY
            have HE := Lib.hid (show addE G x ps = 12 from by
              rw [HE2.out, if_neg]
              intro h
              have := List.all_eq_true.1 h y HM.out
              rw [hn] at this; cases this)
            clear hn
            go_wp2_with fail
            refine HHY.out.mono ?_
            rintro e w4 ⟨rfl, hb4⟩
            have HB4 := Lib.hid (HB1.out.trans (hb4.mono HB1.out.size))
            clear hb4 HHY e1 e2 f1 f2
            go_wp2
            go_ret
            exact ⟨ret_i HE.out.symm, HOUT.out (by rw [HE.out]; decide) _ HB4.out⟩
        · have HE0 := Lib.hid (show addE G x ps = 0 from by
            rw [HE2.out, if_pos]
            rw [List.all_eq_true]
            intro z hz
            obtain ⟨j, hj, rfl⟩ := List.getElem_of_mem hz
            have := HA.out j (by have := HG.out; omega)
            simpa [List.getD_eq_getElem?_getD, hj] using this)
          have hga := HGA.out.below HB.out
          have hgc := hga.cell
          obtain ⟨D, n, hng, ho, hgd⟩ := hga.map
          have hsize : Maps.size D = G.length := hgd.size
          have HLN := Lib.hid (fun ty => ho.len Try.underlying59 ty)
          have HB00 := HB0
          have HOM := Lib.hid ho
          have HGD := Lib.hid hgd
          have HNG := Lib.hid hng
          have HNM := Lib.hid (show n < maxLen by have := HGN.out; unfold maxLen; omega)
          have HGC := Lib.hid hga.ptr
          have HGL := Lib.hid hga.lt
          have HBW := Lib.hid (HB0.out.trans (HB.out.mono HB0.out.size))
          have HSPW := Lib.hid (HSP.out.below HB.out)
          have HF1' := Lib.hid (fits_below HB.out HF1.out)
          have HF2' := Lib.hid ((agg_below HB.out HF1.out).trans HF2.out)
          have d5 : decide ((65536 : Int) ≤ G.length) = false := decide_eq_false (by have := HGN.out; omega)
          have d5' : ¬ (65536 : Int) ≤ G.length := by have := HGN.out; omega
          rw [hsize] at HLN
          have n1 := HLN.out 3
          have HF9 := Lib.hid (show (⟨blk, 0, none⟩ : Addr).block ≠ mb from fun he => by
            obtain ⟨es, clock, hb, _⟩ := ho
            obtain ⟨_, cc, e, fr, hcc, _⟩ := HF1'.out
            have he' : blk = mb := he
            subst he'
            simp only at hcc
            rw [hb] at hcc
            cases hcc)
          clear hga ho hgd hng hsize
          go_upto_region 13 with fail
          clear n1 hgc d5 d5'
          refine wp_region_specs2 [[], [0], [1], [2], [], [], [5], [], [6, 7], [3, 4, 8]] [some 48, some 49, some 50, some 51, some 52, some 53, some 54, some 55, some 56, none] [0, 1, 2, 3, 4, 5, 6, 7, 8, 9]
            (fun w_ => wr.grownBy w_ (some mb)) (fun i w_ => i = 9 → Below wr.heap.size wr w_) (fun j w_ w_' => if j = 9 then w_.grownBy w_' (some mb) ∧ wr.heap.size ≤ w_.heap.size ∧ (∃ n D, w_.ownsMap Try.prog 24 nodR mb n D) else Below w_.heap.size w_ w_')
            (fun ix_ => [eqv (.pointer (some ⟨gb, 0, none⟩)), eqv (.pointer (some ⟨gb, 0, none⟩)), eqv (.pointer (some ⟨gb, 0, none⟩)), eqv (.map (some mb)), eqv (.agg (idB x)), eqv (.slice p ps.length c), slV ps, eqv (.int .i64 st), ndV ps st, fun _ w_ => GraphAt w_ gb mb (G ++ [(x, ps, st)])].getD ix_ anyv)
            (by kernel_rfl) (by kernel_rfl) (grown_of_below (below_drewN (Below.refl _ _) 1)) (fun i _ => below_drewN (Below.refl _ _) 1) ?_ ?_ ?_ ?_ ?_
          · intro j w_ w_' hg hr
            try dsimp only at hr
            split at hr
            · exact grown_trans hg hr.1
            · exact grown_trans hg (grown_of_below hr)
          · intro i j w_ w_' hij hd hp hr hi
            try dsimp only at hr
            have hj : j ≠ 9 := fun h => hij (hi.trans h.symm)
            rw [if_neg hj] at hr
            exact (hp hi).trans (hr.mono (hp hi).size)
          · intro i j v w_ w_' hij hd h hr
            try dsimp only at hr
            have hsl : ∀ v A, SlI w_ v A → SlI w_' v A := fun v A hh => by
              split at hr
              · obtain ⟨hg, _, n, D, ho⟩ := hr
                exact slI_map ho hg hh
              · exact hh.below hr
            match i, hij, hd, h with
            | 0, _, _, h => exact h
            | 1, _, _, h => exact h
            | 2, _, _, h => exact h
            | 3, _, _, h => exact h
            | 4, _, _, h => exact h
            | 5, _, _, h => exact h
            | 6, _, _, h => exact ⟨hsl _ _ h.1, h.2⟩
            | 7, _, _, h => exact h
            | 8, _, _, h => exact let ⟨a, cc, e, hs, hk⟩ := h; ⟨a, cc, e, hsl _ _ hs, hk⟩
            | 9, hij, _, h => rw [if_neg (fun e => hij e.symm)] at hr; exact GraphAt.below h hr
            | i + 10, _, _, h => exact trivial
          · refine ⟨?_, ?_, ?_, ?_, ?_, ?_, ?_, ?_, ?_, ?_, trivial⟩
            · intro vs wq hG hP hd
              simp only [putL]
              clear hd hP hG 
              go_wp2
              exact ⟨rfl, rfl, Below.refl _ _, rfl⟩
            · intro vs wq hG hP hd
              have h0 := hd.get 0 rfl
              change vs 0 = _ at h0
              simp only [putL, h0]
              clear hd hP hG h0
              go_wp2
              exact ⟨rfl, rfl, Below.refl _ _, rfl⟩
            · intro vs wq hG hP hd
              have h1 := hd.get 1 rfl
              change vs 1 = _ at h1
              simp only [putL, h1]
              clear hd hP hG h1
              go_wp2
              exact ⟨rfl, rfl, Below.refl _ _, rfl⟩
            · intro vs wq hG hP hd
              have h2 := hd.get 2 rfl
              change vs 2 = _ at h2
              have n1 := hG.cell_of HGC.out HNE.out
              simp only [putL, h2]
              clear hd hP hG h2
              go_wp2
              exact ⟨rfl, rfl, Below.refl _ _, rfl⟩
            · intro vs wq hG hP hd
              have n1 := hG.fits_of HF1'.out HF9.out
              have n2 := (hG.agg_of HF1'.out HF9.out).trans HF2'.out
              simp only [putL]
              clear hd hP hG 
              go_wp2
              exact ⟨rfl, rfl, Below.refl _ _, rfl⟩
            · intro vs wq hG hP hd
              simp only [putL]
              clear hd hP hG 
              go_wp2
              exact ⟨rfl, rfl, Below.refl _ _, rfl⟩
            · intro vs wq hG hP hd
              have h5 := hd.get 5 rfl
              change vs 5 = _ at h5
              have HIQ := Lib.hid (slI_map HOM.out hG HSPW.out)
              simp only [putL, h5]
              clear hd hP hG h5
              go_wp2_with fail
              obtain ⟨a', c', he', _, _, hi', hn'⟩ := HIQ.out
              obtain ⟨rfl, _, rfl⟩ := Value.slice.inj he'
              refine (clone_any p c ps wq HPL.out hi' hn').mono ?_
              rintro e w1 ⟨v, rfl, hr1, hb1⟩
              have HS1 := Lib.hid (SlI_row hi'.1 hr1)
              have HB1 := Lib.hid hb1
              have HK1 := Lib.hid (own_spot hr1)
              clear hr1 hb1 hi' hn' he'
              go_wp2
              exact ⟨rfl, rfl, HB1.out, HS1.out, HK1.out⟩
            · intro vs wq hG hP hd
              simp only [putL]
              clear hd hP hG 
              go_wp2
              exact ⟨rfl, rfl, Below.refl _ _, rfl⟩
            · intro vs wq hG hP hd
              obtain ⟨⟨a', c', h6, k1, k2, k3, k4⟩, hk⟩ := hd.get 6 rfl
              have h7 := hd.get 7 rfl
              change vs 7 = _ at h7
              have HS6 := Lib.hid (show SlI wq (.slice a' ps.length c') ps from ⟨a', c', rfl, k1, k2, k3, k4⟩)
              have HK6 := Lib.hid (hk a' ps.length c' h6)
              simp only [putL, h6, h7]
              clear hd hP hG h6 h7 k1 k2 k3 k4 hk
              go_wp2
              exact ⟨rfl, rfl, Below.refl _ _, a', c', rfl, HS6.out, HK6.out⟩
            · intro vs wq hG hP hd
              have h3 := hd.get 3 rfl
              change vs 3 = _ at h3
              have h4 := hd.get 4 rfl
              change vs 4 = _ at h4
              obtain ⟨a', c', h8, hs8, hk8⟩ := hd.get 8 rfl
              have HBQ := Lib.hid (hP rfl)
              have HS8 := Lib.hid hs8
              have HSP8 := Lib.hid (show spotless a' from hk8)
              have HO8 := Lib.hid (ownsMap_below HOM.out (hP rfl))
              have HV8 := Lib.hid (show nodR (nodV a' ps.length c' st) = some (ndD a' ps.length c' st, []) by rcases hk8 with rfl | ⟨g', o', rfl⟩ <;> rfl)
              simp only [putL, h3, h4, h8]
              clear hd hP hG h3 h4 h8 hs8 hk8
              go_wp2_with (at_mapUpdate; refine wpList_mapUpdate_own _ rfl _ _ _ 59 rfl 24 58 keyed24 Try.underlying59 nodR mb n D rfl HO8.out HNM.out _ _ (kL x) rfl rfl (key24 x HXL.out) (ndD a' ps.length c' st) [] HV8.out ?_)
              intro w1 hown1 hgrow1
              have HF := Lib.hid (graph_put HNE.out HXL.out HNT.out ((HBQ.out.block gb HGL.out).trans HGC.out) HNG.out (graphD_below HGD.out HBQ.out) hown1 hgrow1 (fun v A h => slI_map HO8.out hgrow1 h) (slI_map HO8.out hgrow1 HS8.out) HSP8.out)
              have HGW := Lib.hid hgrow1
              clear hown1 hgrow1
              go_wp2
              exact ⟨rfl, rfl, ⟨HGW.out, HBQ.out.size, _, _, HO8.out⟩, HF.out⟩
          intro vs wz hG hd
          have HZ := Lib.hid hG
          have HGF := Lib.hid (show GraphAt wz gb mb (G ++ [(x, ps, st)]) from hd.get 9 rfl)
          simp only [putL, List.getD_cons_zero, List.getD_cons_succ, Act.put, List.setIfInBounds_toArray, List.set_cons_zero, List.set_cons_succ]
          clear hd hG
          generalize vs 0 = z0 at *
          generalize vs 1 = z1 at *
          generalize vs 2 = z2 at *
          generalize vs 3 = z3 at *
          generalize vs 4 = z4 at *
          generalize vs 5 = z5 at *
          generalize vs 6 = z6 at *
          generalize vs 7 = z7 at *
          generalize vs 8 = z8 at *
          go_wp2
          go_ret
          exact ⟨ret_i HE0.out.symm, grown_trans (grown_of_below HBW.out) HZ.out, by unfold addG; rw [if_pos HE0.out]; exact HGF.out⟩
end Go.Proofs.Ytmmmimkikakalaa
