/- The walk of cost. -/
import Derived.Test.YtipoifokcnbfnaaKc
namespace Go.Proofs.Ytipoifokcnbfnaa
open Go.RowKit
set_option linter.unusedVariables false

/-- What cost leaves. -/
def CostPost (W0 : WW) (s m : Nat) (a b : List Int) (pa pb : Option Addr) (ca cb : Nat) (e : Ending) (w' : World) : Prop :=
  e = .returned (.int .i64 (C a b 0 0)) ∧ St W0 w' s m a b pa pb ca cb (.slice none 0 0) 0 ∧ ∃ n D, w'.ownsMap Try.prog 3 slR m n D ∧ Saved w' W0.o.heap.size a b D (C a b 0 0 + 1)

set_option maxHeartbeats 4000000 in
set_option maxRecDepth 100000 in
theorem cost_any (W0 : WW) (w : World) (s m : Nat) (a b : List Int) (pa pb : Option Addr) (ca cb : Nat) (ha : a.length ≤ 4096) (hb : b.length ≤ 4096) (h : St W0 w s m a b pa pb ca cb (.slice none 0 0) 0) (hmap : w.ownsMap Try.prog 3 slR m 0 (.map [])) :
    Calls Try.prog 23 #[.pointer (some ⟨s, 0, none⟩)] w (CostPost W0 s m a b pa pb ca cb) := by
  have H := Lib.hid h
  have HM := Lib.hid hmap
  have hC := C_len a b 0 0 (by omega) (by omega)
  obtain ⟨D0, hD0⟩ : ∃ D0, D0 = C a b 0 0 := ⟨_, rfl⟩
  rw [← hD0] at hC
  have hD : D0 ≤ 8192 := by omega
  have HD0 := Lib.hid hD0
  clear h hmap hD0 hC
  go_enter Try.func23, Try.ntmps23
  go_wp2_with fail
  go_loopg [3, 4] (D0 + 1) (fun g v3 v4 wr => ∃ (d : Nat) (D : DataW Unit) (n : Nat), g + d = D0 + 1 ∧ d ≤ D0 ∧ n ≤ d ∧ v4 = .int .i64 d ∧ ((d = 0 ∧ v3 = .slice none 0 0) ∨ (∃ d', d = d' + 1 ∧ (numR .i32).row 21 W0.o.heap.size (PL a b d') v3 wr)) ∧
    St W0 wr s m a b pa pb ca cb (.slice none 0 0) 0 ∧ wr.ownsMap Try.prog 3 slR m n D ∧ Saved wr W0.o.heap.size a b D d)
  case atStart => exact ⟨0, .map [], 0, by omega, by omega, by omega, rfl, .inl ⟨rfl, rfl⟩, H.out, HM.out, fun q hq => by omega⟩
  case round =>
    obtain ⟨d, D, n, hg, hdd, hnd, rfl, hv, hst, hmap, hsv⟩ := hrel
    have HG := Lib.hid hg
    have HV := Lib.hid hv
    have HST := Lib.hid hst
    have HMP := Lib.hid hmap
    have HSV := Lib.hid hsv
    have HNX := Lib.hid (next_any s a b d u3 W0.o.heap.size wr hst.srch ha hb (by omega) hv)
    clear hg hv hst hmap hsv
    go_wp2_with fail
    refine HNX.out.mono ?_
    rintro e w1 ⟨v, rfl, hr, hb1⟩
    have HB1 := Lib.hid hb1
    have HR1 := Lib.hid (hr.base HST.out.bel.size)
    have HST1 := Lib.hid (HST.out.below hb1)
    have HMP1 := Lib.hid (show w1.ownsMap Try.prog 3 slR m n D from by
      obtain ⟨es, clock, h1, h2⟩ := HMP.out
      exact ⟨es, clock, (hb1.block m (Array.getElem?_eq_some_iff.1 h1).1).trans h1, h2⟩)
    have HSV1 := Lib.hid (HSV.out.kept (KeptT.of_below hb1))
    obtain ⟨g, cap, rfl, hcap, hcm, hgb, hgl⟩ := HR1.out.some (by intro h0; have := PL_len a b d; rw [h0] at this; cases this)
    rw [PL_len] at HR1 hcap ⊢
    clear hb1 hr HNX hcm hgb hgl hcap
    obtain ⟨B, hB⟩ : ∃ B : Bool, B = ((d : Int) % 64 == 0) := ⟨_, rfl⟩
    have g1 : ((d : Int) % 64 == 0) = B := hB.symm
    have HBE := Lib.hid hB
    clear hB
    go_upto_if 13 with fail
    go_cut [4] (fun v4 wx => v4 = .int .i64 d ∧ ∃ (n' : Nat) (D' : DataW Unit), n' ≤ d + 1 ∧ St W0 wx s m a b pa pb ca cb (.slice none 0 0) 0 ∧ wx.ownsMap Try.prog 3 slR m n' D' ∧ Saved wx W0.o.heap.size a b D' (d + 1) ∧ (numR .i32).row 21 W0.o.heap.size (PL a b d) (.slice (some ⟨g, 0, none⟩) (d + 1) cap) wx)
    case first =>
      cases B with
      | false =>
        have HMO := Lib.hid (show d % 64 ≠ 0 by
          have h1 := HBE.out
          intro h
          have h2 : ((d : Int) % 64 == 0) = true := beq_iff_eq.2 (by omega)
          rw [h2] at h1; cases h1)
        go_wp2_with fail
        go_meet
        exact ⟨rfl, n, D, by omega, HST1.out, HMP1.out, HSV1.out.more HMO.out, HR1.out⟩
      | true =>
        have HMO := Lib.hid (show d % 64 = 0 by have := HBE.out; rw [eq_comm, beq_iff_eq] at this; omega)
        have e2 : w1.cell? ⟨s, 2, none⟩ = some (.map (some m)) := by rw [Lib.cell_of_heap HST1.out.at']; rfl
        have hmx : n < maxLen := by unfold maxLen; omega
        have hkey : keyOf Try.prog 3 (.int .i64 (d : Int)) = some (.int .i64 (d : Int)) := Maps.keyOf_int_mk Try.underlying3 (by unfold Lit.wf; rw [Bool.and_eq_true, decide_eq_true_eq, decide_eq_true_eq]; show (-9223372036854775808 : Int) ≤ _ ∧ _ ≤ (9223372036854775807 : Int); omega)
        go_wp2_with (at_mapUpdate; refine wpList_mapUpdate_own _ rfl _ _ _ 55 rfl 3 22 (Maps.int_keyed Try.underlying3) Try.underlying55 _ m n D rfl HMP1.out hmx _ _ _ rfl rfl hkey (slD (some ⟨g, 0, none⟩) (d + 1) cap) [] rfl ?_)
        intro w2 hown2 hgr2
        have HO2 := Lib.hid hown2
        have HST2 := Lib.hid (HST1.out.grown hgr2 (fun g h => by cases h; exact HST1.out.hm) (fun h => by cases h; exact HST1.out.ne rfl) (fun g h cur hc => by
          cases h
          obtain ⟨es, clock, h1, _⟩ := HMP1.out
          rw [h1] at hc; cases hc))
        have hk := KeptT.grown (e := 21) (e' := 0) hgr2 (fun g h cur hc => by
          cases h
          obtain ⟨es, clock, h1, _⟩ := HMP1.out
          rw [h1] at hc; cases hc)
        have HR2 := Lib.hid (row_keptT HR1.out hk)
        have HSV2 := Lib.hid ((HSV1.out.kept hk).put (isMap_own HMP1.out) HMO.out HR2.out)
        clear hown2 hgr2 hk e2 hkey hmx
        go_wp2_with fail
        go_meet
        exact ⟨rfl, n + 1, _, by omega, HST2.out, HO2.out, HSV2.out, HR2.out⟩
    case rest =>
      obtain ⟨rfl, n', D', hn', hst, hmap, hsv, hrow⟩ := hcut
      have HST3 := Lib.hid hst
      have HMP3 := Lib.hid hmap
      have HSV3 := Lib.hid hsv
      have HR3 := Lib.hid hrow
      obtain ⟨pl, c3, he3, _, _, hin3, _⟩ := hrow.sl
      rw [PL_len] at he3
      cases he3
      have hls := least_any s a b d (some ⟨g, 0, none⟩) (PL a b d) cap 0 wc hst.srch ha hb (by omega) (by omega) hin3 (by rw [PL_len]; omega) (PL_in a b ha d)
      rw [PL_len] at hls
      have HLS := Lib.hid hls
      have HCI := Lib.hid (cost_iff a b (by unfold never; omega) d (by rw [← HD0.out]; exact hdd))
      clear hst hmap hsv hrow hin3 hls
      obtain ⟨x, hx⟩ : ∃ x, x = leastL a b d (PL a b d) 0 := ⟨_, rfl⟩
      rw [← hx, ← HD0.out] at HCI
      rw [← hx] at HLS
      clear hx
      go_wp2_with fail
      refine HLS.out.mono ?_
      rintro e w4 ⟨rfl, hb4⟩
      have HST4 := Lib.hid (HST3.out.below hb4)
      have HMP4 := Lib.hid (show w4.ownsMap Try.prog 3 slR m n' D' from by
        obtain ⟨es, clock, h1, h2⟩ := HMP3.out
        exact ⟨es, clock, (hb4.block m (Array.getElem?_eq_some_iff.1 h1).1).trans h1, h2⟩)
      have HSV4 := Lib.hid (HSV3.out.kept (KeptT.of_below hb4))
      have HR4 := Lib.hid (HR3.out.below hb4)
      clear hb4
      by_cases hdD : d = D0
      · have g2 : (x == 0) = true := beq_iff_eq.2 (HCI.out.2 hdD)
        have HE := Lib.hid hdD
        clear hdD
        go_wp2
        go_ret
        unfold CostPost
        rw [← HD0.out, ← HE.out]
        exact ⟨rfl, HST4.out, n', D', HMP4.out, HSV4.out⟩
      · have g2 : (x == 0) = false := beq_eq_false_iff_ne.2 (fun h => hdD (HCI.out.1 h))
        go_wp2
        go_roundg (gk - 1)
        case measure => have := HG.out; omega
        case rel => exact ⟨d + 1, D', n', by have := HG.out; omega, by omega, hn', by go_num, .inr ⟨d, rfl, HR4.out⟩, HST4.out, HMP4.out, HSV4.out⟩
end Go.Proofs.Ytipoifokcnbfnaa
