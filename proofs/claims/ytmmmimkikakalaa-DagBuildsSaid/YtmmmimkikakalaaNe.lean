/- The reference's ready, Heads. -/
import Derived.Test.YtmmmimkikakalaaNc
namespace Go.Proofs.Ytmmmimkikakalaa
open Go.RowKit Go.Maps
set_option linter.unusedVariables false

/-- Is no child of a node, among some, not told yet? -/
def readyL (G : List GN) (among told : List (List UInt8)) (x : List UInt8) : Bool := among.all fun y => decide (y ∈ told) || !decide (x ∈ parsOf G y)

set_option maxHeartbeats 2000000 in
set_option maxRecDepth 100000 in
theorem rready_any (p : Option Addr) (c : Nat) (G : List GN) (pa : Option Addr) (ca : Nat) (M : List (List UInt8)) (pt : Option Addr) (ct : Nat) (T : List (List UInt8)) (x : List UInt8) (hx : x.length = 32) (w : World) (hlen : G.length ≤ 1000) (hwf : Wf G) (hG : RefG w p G)
    (hM : IdsIn w pa M) (hMl : M.length ≤ 1000000) (hMn : ∀ y ∈ M, isNode G y = true) (hT : IdsIn w pt T) (hTl : T.length ≤ 1000000) :
    Calls Try.prog 49 #[.slice p G.length c, .slice pa M.length ca, .slice pt T.length ct, .agg (idB x)] w fun e w' => e = .returned (.bool (readyL G M T x)) ∧ Below w.heap.size w w' := by
  obtain ⟨W, hW⟩ : ∃ W, W = w.alloc (.cells (idB x) 24) := ⟨_, rfl⟩
  have hb0 := (Below.refl w.heap.size w).alloc (Nat.le_refl _) (.cells (idB x) 24)
  obtain ⟨blk, hblk⟩ : ∃ b, b = w.heap.size := ⟨_, rfl⟩
  have f1 := fits_new w (idB x) 24 32 (by rw [idB_size, hx])
  have f2 := aggAt_new w (idB x) 24 32 (by rw [idB_size, hx])
  rw [← hW, ← hblk] at f1 f2
  rw [← hW] at hb0
  have HX := Lib.hid (hG.below hb0)
  have HM := Lib.hid (hM.below hb0)
  have HT := Lib.hid (hT.below hb0)
  have HB0 := Lib.hid hb0
  have HF := Lib.hid (And.intro f1 f2)
  have HXL := Lib.hid hx
  have HLEN := Lib.hid hlen
  have HML := Lib.hid hMl
  have HTL := Lib.hid hTl
  have HMN := Lib.hid hMn
  have HWF := Lib.hid hwf
  clear hG hM hT hb0 f1 f2 hMn hwf
  go_enter Try.func49, Try.ntmps49
  go_upto_region 1 with fail
  rw [← hW]
  clear hW
  rw [← hblk]
  clear hblk
  go_wp2_with fail
  go_loopg [9] M.length (fun g v wr => ∃ k : Nat, g + k = M.length ∧ v = .int .i64 k ∧ (∀ j, j < k → (decide (M.getD j [] ∈ T) || !decide (x ∈ parsOf G (M.getD j []))) = true) ∧ Below W.heap.size W wr)
  case atStart => exact ⟨0, by omega, rfl, fun j hj => by omega, Below.refl _ _⟩
  case round =>
    obtain ⟨k, hg, rfl, hall, hbw⟩ := hrel
    have HG := Lib.hid hg
    have HA := Lib.hid hall
    have HB := Lib.hid hbw
    clear hg hall hbw
    by_cases hk : k < M.length
    · have HK := Lib.hid hk
      rcases (HM.out.below HB.out).2 with h | ⟨bm, offm, rfl, hc⟩
      · rw [h] at hk; simp at hk
      obtain ⟨e1, e2⟩ := hc k hk
      have HMY := Lib.hid (getD_mem hk)
      have HAK := Lib.hid HA.out
      obtain ⟨y, hy⟩ : ∃ y, y = M.getD k [] := ⟨_, rfl⟩
      have HY := Lib.hid hy
      rw [← hy] at e2 HMY
      have hy32 := HM.out.1 _ HMY.out
      obtain ⟨k1, b, off, a1, c1, hk1, hlk1, rfl, hblt, hat, hsl⟩ := (HX.out.below HB.out).node (HMN.out y HMY.out)
      have C1 := Lib.hid (fun X => in_any pt ct T y (ov wr X) HTL.out (HT.out.below (HB.out.trans ((ov_below wr X).mono HB.out.size))) hy32)
      have C2 := Lib.hid (fun X => rplace_any (some ⟨b, off, none⟩) c G y hy32 (ov wr X) HLEN.out (HX.out.below (HB.out.trans ((ov_below wr X).mono HB.out.size))))
      rw [hk1] at C2
      have hpa := pars_len HWF.out y
      have h33 := hat.p
      simp only at h33
      obtain ⟨a3, c3, he3, _, _, hi3, _⟩ := hsl
      obtain ⟨rfl, _, rfl⟩ := Value.slice.inj he3
      have C3 := Lib.hid (fun X => in_any a1 c1 (parsOf G y) x (ov wr X) (by omega) (hi3.below (ov_below wr X)) HXL.out)
      have e3 := fits_below HB.out HF.out.1
      have e4 := (agg_below HB.out HF.out.1).trans HF.out.2
      have q8 := e3.lt
      have q7 := e1.lt
      simp only at q8 q7
      have i1 : (k : Int) < M.length := by omega
      have i2 : (k1 : Int) < G.length := by omega
      obtain ⟨ps, hps⟩ : ∃ ps, ps = parsOf G y := ⟨_, rfl⟩
      have HPS := Lib.hid hps
      rw [← hps] at h33 C3 hpa
      clear hat hc hy hk1 hps hi3 he3
      cases ht : decide (y ∈ T) with
      | true =>
        have HTE := Lib.hid ht
        rw [ht] at C1
        clear ht
        go_wp2_with fail
        refine wp_region_over (by kernel_rfl) (by kernel_rfl) ?_
        repeat (go_big_quiet_step ((go_at_call 22; exact Calls.over_of (C1.out _))))
        refine wpQuiet_nil ?_
        rintro _ ⟨z0, rfl⟩
        have HB1 := Lib.hid (HB.out.trans ((ov_below wr z0).mono HB.out.size))
        clear e1 e2 e3 e4 h33 C1 C2 C3 q7 q8
        go_wp2
        go_roundg (gk - 1)
        case measure => have := HG.out; have := HK.out; omega
        case rel => exact ⟨k + 1, by have := HG.out; have := HK.out; omega, by go_num, (fun j hj => by rcases Nat.lt_succ_iff_lt_or_eq.1 hj with h' | rfl; exact HA.out j h'; rw [← HY.out, HTE.out]; rfl), HB1.out⟩
      | false =>
        have HTE := Lib.hid ht
        rw [ht] at C1
        clear ht
        cases hz : decide (x ∈ ps) with
        | true =>
          have HE := Lib.hid (show readyL G M T x = false from by
            unfold readyL
            rw [List.all_eq_false]
            refine ⟨y, HMY.out, ?_⟩
            rw [HTE.out, ← HPS.out, hz]; decide)
          rw [hz] at C3
          clear hz
          go_wp2_with fail
          refine wp_region_over (by kernel_rfl) (by kernel_rfl) ?_
          repeat (go_big_quiet_step (first
            | (go_at_call 37; exact Calls.over_of (C2.out _))
            | (go_at_call 22; first | (with_reducible exact Calls.over_of (C1.out _)) | (with_reducible exact Calls.over_of (C3.out _)))))
          refine wpQuiet_nil ?_
          rintro _ ⟨z0, rfl⟩
          have HB1 := Lib.hid (HB0.out.trans ((HB.out.trans ((ov_below wr z0).mono HB.out.size)).mono HB0.out.size))
          clear e1 e2 e3 e4 h33 C1 C2 C3 q7 q8
          go_wp2
          go_ret
          exact ⟨ret_bool HE.out.symm, HB1.out⟩
        | false =>
          have HZE := Lib.hid hz
          rw [hz] at C3
          clear hz
          go_wp2_with fail
          refine wp_region_over (by kernel_rfl) (by kernel_rfl) ?_
          repeat (go_big_quiet_step (first
            | (go_at_call 37; exact Calls.over_of (C2.out _))
            | (go_at_call 22; first | (with_reducible exact Calls.over_of (C1.out _)) | (with_reducible exact Calls.over_of (C3.out _)))))
          refine wpQuiet_nil ?_
          rintro _ ⟨z0, rfl⟩
          have HB1 := Lib.hid (HB.out.trans ((ov_below wr z0).mono HB.out.size))
          clear e1 e2 e3 e4 h33 C1 C2 C3 q7 q8
          go_wp2
          go_roundg (gk - 1)
          case measure => have := HG.out; have := HK.out; omega
          case rel => exact ⟨k + 1, by have := HG.out; have := HK.out; omega, by go_num, (fun j hj => by rcases Nat.lt_succ_iff_lt_or_eq.1 hj with h' | rfl; exact HA.out j h'; rw [← HY.out, HTE.out, ← HPS.out, HZE.out]; rfl), HB1.out⟩
    · have HE := Lib.hid (show readyL G M T x = true from by
        unfold readyL
        rw [List.all_eq_true]
        intro y hy
        obtain ⟨j, hj, rfl⟩ := List.getElem_of_mem hy
        have := HA.out j (by have := HG.out; omega)
        rwa [List.getD_eq_getElem?_getD, List.getElem?_eq_getElem hj, Option.getD_some] at this)
      go_wp2
      go_ret
      exact ⟨ret_bool HE.out.symm, HB0.out.trans (HB.out.mono HB0.out.size)⟩
end Go.Proofs.Ytmmmimkikakalaa

namespace Go.Proofs.Ytmmmimkikakalaa
open Go.RowKit Go.Maps
set_option linter.unusedVariables false

/-- No node's parent. -/
def headB (G : List GN) (x : List UInt8) : Bool := G.all fun g => !decide (x ∈ g.2.1)
/-- The heads. -/
def headsL (G : List GN) : List (List UInt8) := setL ((G.map (·.1)).filter (headB G))

set_option maxHeartbeats 4000000 in
set_option maxRecDepth 100000 in
theorem rheads_any (p : Option Addr) (c : Nat) (G : List GN) (w : World) (hlen : G.length ≤ 1000) (hwf : Wf G) (hG : RefG w p G) :
    Calls Try.prog 28 #[.slice p G.length c] w fun e w' => ∃ v, e = .returned v ∧ rowI w.heap.size (headsL G) v w' ∧ Below w.heap.size w w' := by
  have HX := Lib.hid hG
  have HLEN := Lib.hid hlen
  have HWF := Lib.hid hwf
  clear hG hwf
  go_enter Try.func28, Try.ntmps28
  go_wp2_with fail
  go_loopg [3, 4, 5, 6] G.length (fun g vo i v5 v6 wr => ∃ (k : Nat) (O : List (List UInt8)), g + k = G.length ∧ i = .int .i64 k ∧ rowI w.heap.size O vo wr ∧ O = ((G.take k).map (·.1)).filter (headB G) ∧ Below w.heap.size w wr)
  case atStart => exact ⟨0, [], by omega, rfl, ⟨by simp [idsC], .inl ⟨rfl, rfl⟩⟩, by simp, Below.refl _ _⟩
  case round =>
    obtain ⟨k, O, hg, rfl, hrow, hO, hb⟩ := hrel
    have HG := Lib.hid hg
    have HR := Lib.hid hrow
    have HO := Lib.hid hO
    have HB := Lib.hid hb
    have H32 := Lib.hid (show ∀ z ∈ O, z.length = 32 from fun z hz => by rw [hO] at hz; obtain ⟨g, hg, rfl⟩ := List.mem_map.1 (List.mem_filter.1 hz).1; exact HWF.out.len g (List.mem_of_mem_take hg))
    have HOL := Lib.hid (show O.length ≤ 1000 by rw [hO]; refine Nat.le_trans (List.length_filter_le _ _) ?_; rw [List.length_map, List.length_take]; have := HLEN.out; omega)
    clear hg hrow hO hb
    by_cases hk : k < G.length
    · have HK := Lib.hid hk
      obtain ⟨b, off, a1, c1, y, ps, st, rfl, hlt, hget, hy32, hat, _⟩ := HX.out.at hk
      have HGT := Lib.hid hget
      have HAT := Lib.hid hat
      have HBL := Lib.hid hlt
      have i1 : (k : Int) < G.length := by omega
      clear hget hat hlt
      go_wp2_with fail
      go_loopg [5, 6] G.length (fun g v5 v6 wr2 => ∃ (j : Nat), g + j = G.length ∧ v5 = .bool ((G.take j).all fun g => !decide (y ∈ g.2.1)) ∧ v6 = .int .i64 j ∧ Below wr.heap.size wr wr2)
      case atStart => exact ⟨0, by omega, by simp, rfl, Below.refl _ _⟩
      case round =>
        obtain ⟨j, hg, rfl, rfl, hb2⟩ := hrel
        have HG' := Lib.hid hg
        have HB2 := Lib.hid hb2
        have HBW := Lib.hid (HB.out.trans (hb2.mono HB.out.size))
        clear hg hb2
        by_cases hj : j < G.length
        · have HJ := Lib.hid hj
          obtain ⟨b', off', a2, c2, y2, ps2, st2, he2, hlt2, hget2, hy232, hat2, hsl2⟩ := (HX.out.below HBW.out).at hj
          cases he2
          have HT2 := Lib.hid (show (G.take (j + 1)).all (fun g => !decide (y ∈ g.2.1)) = ((G.take j).all (fun g => !decide (y ∈ g.2.1)) && !decide (y ∈ ps2)) by rw [List.take_add_one, hget2]; simp)
          obtain ⟨a3, c3, he3, _, _, hi3, _⟩ := hsl2
          obtain ⟨rfl, _, rfl⟩ := Value.slice.inj he3
          have h2 : ps2.length ≤ 2 := HWF.out.two _ (List.mem_of_getElem? hget2)
          have C1 := Lib.hid (fun X => in_any a2 c2 ps2 y (ov wr X) (by omega) (hi3.below (ov_below wr X)) hy32)
          have hatk := HAT.out.below HBW.out
          have e1 := hatk.kf
          have e2 := hatk.ka
          have h32 := hat2.p
          simp only at e2 h32
          have i2 : (j : Int) < G.length := by omega
          clear hget2 he3 hi3 hat2 hatk
          cases hbo : (G.take j).all fun g => !decide (y ∈ g.2.1) with
          | false =>
            have HBO := Lib.hid hbo
            clear hbo
            go_wp2_with fail
            refine wp_region_over (by kernel_rfl) (by kernel_rfl) ?_
            repeat (go_big_quiet_step (fail))
            refine wpQuiet_nil ?_
            rintro _ ⟨z0, rfl⟩
            have HB3 := Lib.hid (HB2.out.trans ((ov_below wr z0).mono HB2.out.size))
            clear e1 e2 h32 C1
            go_wp2
            go_roundg (gk - 1)
            case measure => have := HG'.out; have := HJ.out; omega
            case rel => exact ⟨j + 1, by have := HG'.out; have := HJ.out; omega, by rw [HT2.out, HBO.out]; rfl, by go_num, HB3.out⟩
          | true =>
            have HBO := Lib.hid hbo
            clear hbo
            cases hz : decide (y ∈ ps2) with
            | true =>
              have HZ := Lib.hid hz
              rw [hz] at C1
              clear hz
              go_wp2_with fail
              refine wp_region_over (by kernel_rfl) (by kernel_rfl) ?_
              repeat (go_big_quiet_step ((go_at_call 22; exact Calls.over_of (C1.out _))))
              refine wpQuiet_nil ?_
              rintro _ ⟨z0, rfl⟩
              have HB3 := Lib.hid (HB2.out.trans ((ov_below wr z0).mono HB2.out.size))
              clear e1 e2 h32 C1
              go_wp2
              go_roundg (gk - 1)
              case measure => have := HG'.out; have := HJ.out; omega
              case rel => exact ⟨j + 1, by have := HG'.out; have := HJ.out; omega, by rw [HT2.out, HBO.out, HZ.out]; rfl, by go_num, HB3.out⟩
            | false =>
              have HZ := Lib.hid hz
              rw [hz] at C1
              clear hz
              go_wp2_with fail
              refine wp_region_over (by kernel_rfl) (by kernel_rfl) ?_
              repeat (go_big_quiet_step ((go_at_call 22; exact Calls.over_of (C1.out _))))
              refine wpQuiet_nil ?_
              rintro _ ⟨z0, rfl⟩
              have HB3 := Lib.hid (HB2.out.trans ((ov_below wr z0).mono HB2.out.size))
              clear e1 e2 h32 C1
              go_wp2
              go_roundg (gk - 1)
              case measure => have := HG'.out; have := HJ.out; omega
              case rel => exact ⟨j + 1, by have := HG'.out; have := HJ.out; omega, by rw [HT2.out, HBO.out, HZ.out]; rfl, by go_num, HB3.out⟩
        · have HJE := Lib.hid (show (G.take j).all (fun g => !decide (y ∈ g.2.1)) = headB G y by rw [List.take_of_length_le (by omega)]; rfl)
          have HRQ := Lib.hid (rowI_st _ _ _ _ _ HR.out HB2.out)
          rw [HJE.out]
          have hatk := HAT.out.below HBW.out
          have e1 := hatk.kf
          have e2 := hatk.ka
          simp only at e2
          clear hatk
          cases hhd : headB G y with
          | false =>
            have HHD := Lib.hid hhd
            clear hhd e1 e2
            go_wp2
            go_roundg (G.length - (k + 1))
            case measure => have := HG.out; have := HK.out; omega
            case rel => exact ⟨k + 1, O, by have := HK.out; omega, by go_num, HRQ.out, by rw [HO.out, List.take_add_one, HGT.out]; simp [HHD.out], HBW.out⟩
          | true =>
            have HHD := Lib.hid hhd
            obtain ⟨a2, c2, rfl, p1, p2, p3, p4⟩ := SlI_row H32.out HRQ.out
            unfold maxLen at p2
            obtain ⟨O1, hO1⟩ : ∃ O1, O1 = O ++ [y] := ⟨_, rfl⟩
            have HO1 := Lib.hid hO1
            have HC := Lib.hid (show O.length + [y].length ≤ 4000000 by have := HOL.out; simp only [List.length_cons, List.length_nil]; omega)
            have hbn := (Below.refl wr.heap.size wr).alloc (Nat.le_refl _) (.cells (idB y) 24)
            have HNEW := Lib.hid (one_new (w := wr) hy32)
            have HRN := Lib.hid (rowI_st _ _ _ _ _ HRQ.out hbn)
            have HBN := Lib.hid (HBW.out.trans (hbn.mono HBW.out.size))
            clear hbn hO1 p3 p4 hhd
            go_wp2_with (at_builtin; refine wpList_append_to rfl _ _ rfl w.heap.size _ O [y] O1 HO1.out rfl HRN.out _ 1 rfl HNEW.out (fun e => by cases e) HC.out HBN.out.size ?_)
            rintro v1 w1 ho1 hb1
            have HR1 := Lib.hid (show rowI w.heap.size O1 v1 w1 from ho1)
            have HB1 := Lib.hid (HBN.out.trans hb1)
            clear ho1 hb1 e1 e2
            go_wp2
            go_roundg (G.length - (k + 1))
            case measure => have := HG.out; have := HK.out; omega
            case rel => exact ⟨k + 1, O1, by have := HK.out; omega, by go_num, HR1.out, by rw [HO1.out, HO.out, List.take_add_one, HGT.out]; simp [HHD.out], HB1.out⟩
    · have HE := Lib.hid (show setL O = headsL G by rw [HO.out, List.take_of_length_le (by omega)]; rfl)
      obtain ⟨a2, c2, rfl, p1, p2, p3, p4⟩ := SlI_row H32.out HR.out
      have P3 := Lib.hid p3
      have HCL' := Lib.hid (show O.length ≤ 1000000 by have := HOL.out; omega)
      clear p2 p3 p4
      go_wp2_with fail
      refine (rset_any a2 c2 O _ HCL'.out P3.out).mono ?_
      rintro e w3 ⟨v3, rfl, ho3, hb3⟩
      rw [HE.out] at ho3
      have HR3 := Lib.hid (ownsRow_base ho3 HB.out.size)
      have HB3 := Lib.hid (HB.out.trans (hb3.mono HB.out.size))
      clear ho3 hb3
      go_wp2
      go_ret
      exact ⟨v3, rfl, HR3.out, HB3.out⟩
end Go.Proofs.Ytmmmimkikakalaa
