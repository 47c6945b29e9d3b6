/- The reference's Past. -/
import Derived.Test.YtmmmimkikakalaaNa
import Derived.Test.YtmmmimkikakalaaMp
namespace Go.Proofs.Ytmmmimkikakalaa
open Go.RowKit Go.Maps
set_option linter.unusedVariables false

theorem nodup_snoc {α : Type} {O : List α} {z : α} (h : O.Nodup) (hz : ¬ z ∈ O) : (O ++ [z]).Nodup :=
  List.nodup_append.2 ⟨h, by simp, fun u hu v hv e => by rw [List.mem_singleton.1 hv] at e; subst e; exact hz hu⟩
/-- A node, where the reference finds it. -/
theorem RefG.node {w : World} {p : Option Addr} {G : List GN} (h : RefG w p G) {y : List UInt8} (hy : isNode G y = true) :
    ∃ (k b off : Nat) (a : Option Addr) (c : Nat), placeI G y = (k : Int) ∧ k < G.length ∧ p = some ⟨b, off, none⟩ ∧ b < w.heap.size ∧ RnAt w b (off + k * 34) (y, (a, (parsOf G y).length, c), stampOf G y) ∧ SlI w (.slice a (parsOf G y).length c) (parsOf G y) := by
  obtain ⟨k, hp, hk, hg⟩ := placeI_node hy
  obtain ⟨b, off, a, c, x, ps, st, he, hlt, hget, h32, hat, hsl⟩ := h.at hk
  have h1 := (nodeOf_mem hy).2
  have hn : nodeOf G y = (x, ps, st) := by
    rw [← hg]
    have := List.getElem?_eq_getElem hk
    rw [this] at hget
    exact Option.some.inj hget
  have hx : x = y := by rw [hn] at h1; exact h1
  subst hx
  have e1 : parsOf G x = ps := by unfold parsOf; rw [hn]
  have e2 : stampOf G x = st := by unfold stampOf; rw [hn]
  rw [e1, e2]
  exact ⟨k, b, off, a, c, hp, hk, he, hlt, hat, hsl⟩
theorem row_one_take {x : List UInt8} (hx : x.length = 32) : (idB x).toList.take ([x].length * 32) = idsC [x] := by
  have h9 : (idB x).toList.length = 32 := by rw [Array.length_toList, idB_size, hx]
  rw [List.take_of_length_le (by simp [idB_size, hx])]; simp [idsC, idB]
/-- A row of one id, as it is laid. -/
theorem row_one {w : World} {x : List UInt8} (hx : x.length = 32) : rowI w.heap.size [x] (.slice (some ⟨w.heap.size, 0, none⟩) 1 1) (w.alloc (.cells (idB x) 24)) :=
  ⟨by simp [idsC, Lib.byteCells, hx], .inr ⟨w.heap.size, 1, idB x, rfl, Nat.le_refl _, (MapKept.heap_alloc w _).1, by simp, by unfold maxLen; omega, by rw [idB_size, hx], row_one_take hx⟩⟩

set_option maxHeartbeats 2000000 in
set_option maxRecDepth 100000 in
theorem rpast_no (p : Option Addr) (c : Nat) (G : List GN) (x : List UInt8) (hx : x.length = 32) (w : World) (hlen : G.length ≤ 1000) (hG : RefG w p G) (hn : isNode G x = false) :
    Calls Try.prog 29 #[.slice p G.length c, .agg (idB x)] w fun e w' => e = .returned (.tuple #[.slice none 0 0, .int .i64 12]) ∧ Below w.heap.size w w' := by
  have hb0 := (Below.refl w.heap.size w).alloc (Nat.le_refl _) (.cells (idB x) 24)
  have f1 := fits_new w (idB x) 24 32 (by rw [idB_size, hx])
  have f2 := aggAt_new w (idB x) 24 32 (by rw [idB_size, hx])
  have HP := Lib.hid (rplace_any p c G x hx _ hlen (hG.below hb0))
  have HB0 := Lib.hid hb0
  have i0 : placeI G x < 0 := by
    have := placeI_lt G x
    rw [hn] at this
    exact of_decide_eq_true this
  generalize placeI G x = q at *
  clear hb0 hG hn
  go_enter Try.func29, Try.ntmps29
  go_wp2_with fail
  refine HP.out.mono ?_
  rintro e w1 ⟨rfl, hb1⟩
  have HB1 := Lib.hid (HB0.out.trans (hb1.mono HB0.out.size))
  clear hb1 f1 f2
  go_wp2
  go_ret2
  exact ⟨rfl, HB1.out⟩
set_option maxHeartbeats 4000000 in
set_option maxRecDepth 100000 in
theorem rpast_any (p : Option Addr) (c : Nat) (G : List GN) (x : List UInt8) (w : World) (hlen : G.length ≤ 1000) (hwf : Wf G) (hG : RefG w p G) (hn : isNode G x = true) :
    Calls Try.prog 29 #[.slice p G.length c, .agg (idB x)] w fun e w' => ∃ v, e = .returned (.tuple #[v, .int .i64 0]) ∧ rowI w.heap.size (pastL G x) v w' ∧ Below w.heap.size w w' := by
  have hx := isNode_len hwf hn
  have HWF := Lib.hid hwf
  have HN := Lib.hid hn
  have HLEN := Lib.hid hlen
  have hb0 := (Below.refl w.heap.size w).alloc (Nat.le_refl _) (.cells (idB x) 24)
  have f1 := fits_new w (idB x) 24 32 (by rw [idB_size, hx])
  have f2 := aggAt_new w (idB x) 24 32 (by rw [idB_size, hx])
  have HF1 := Lib.hid f1
  have HF2 := Lib.hid f2
  have HP := Lib.hid (rplace_any p c G x hx _ hlen (hG.below hb0))
  have HB0 := Lib.hid hb0
  have HRG := Lib.hid hG
  obtain ⟨q0, b, off, _, _, hq0, _, hpe, hblt, _, _⟩ := hG.node hn
  have i0 : ¬ placeI G x < 0 := by omega
  generalize placeI G x = q at *
  clear hb0 hG hn hq0 hwf
  subst hpe
  go_enter Try.func29, Try.ntmps29
  go_wp2_with fail
  refine HP.out.mono ?_
  rintro e w1 ⟨rfl, hb1⟩
  have g1 := fits_below hb1 HF1.out
  have g2 := (agg_below hb1 HF1.out).trans HF2.out
  have HB1 := Lib.hid (HB0.out.trans (hb1.mono HB0.out.size))
  have hr := row_one (w := w1) hx
  have hb2 := (Below.refl w1.heap.size w1).alloc (Nat.le_refl _) (.cells (idB x) 24)
  have HR1 := Lib.hid (ownsRow_base hr HB1.out.size)
  have HB2 := Lib.hid (HB1.out.trans (hb2.mono HB1.out.size))
  clear hb1 f1 f2 hr hb2 HP HF1 HF2
  go_wp2_with fail
  clear g1 g2 i0
  go_loopg [6, 7, 8, 9] G.length (fun g v6 v7 v8 v9 wr => ∃ (k : Nat) (O : List (List UInt8)), g + k = G.length ∧ k ≤ O.length ∧ v7 = .int .i64 k ∧ rowI w.heap.size O v6 wr ∧ O.Nodup ∧ (∀ y ∈ O, Anc G x y) ∧ x ∈ O ∧ (∀ j, j < k → ∀ z ∈ parsOf G (O.getD j []), z ∈ O) ∧ Below w.heap.size w wr)
  case atStart => exact ⟨0, [x], by omega, by simp, rfl, HR1.out, by simp, fun y hy => by rw [List.mem_singleton.1 hy]; exact .refl x, by simp, fun j hj => by omega, HB2.out⟩
  case round =>
    obtain ⟨k, O, hg, hko, rfl, hrow, hnd, hanc, hxo, hcl, hbw⟩ := hrel
    have HG := Lib.hid hg
    have HKO := Lib.hid hko
    have HR := Lib.hid hrow
    have HND := Lib.hid hnd
    have HA := Lib.hid hanc
    have HXO := Lib.hid hxo
    have HCL := Lib.hid hcl
    have HB := Lib.hid hbw
    have HNO := Lib.hid (show ∀ y ∈ O, isNode G y = true from fun y hy => (hanc y hy).node HWF.out HN.out)
    have H32 := Lib.hid (show ∀ y ∈ O, y.length = 32 from fun y hy => isNode_len HWF.out (HNO.out y hy))
    have HOL := Lib.hid (nodes_len hnd HNO.out)
    clear hg hko hrow hnd hanc hxo hcl hbw
    by_cases hk : k < O.length
    · have HK := Lib.hid hk
      obtain ⟨g6, c6, rfl, p1, p2⟩ := row_some (List.ne_nil_of_length_pos (by omega)) HR.out
      obtain ⟨e1, e2⟩ := rowI_at H32.out hk HR.out
      have HM := Lib.hid (getD_mem hk)
      have HNC := Lib.hid (show ∀ z ∈ parsOf G (O.getD k []), isNode G z = true from fun z hz => (par_up HWF.out hz).2.1)
      obtain ⟨y, hy⟩ : ∃ y, y = O.getD k [] := ⟨_, rfl⟩
      have HY := Lib.hid hy
      rw [← hy] at e2 HM HNC
      have hy32 := H32.out y HM.out
      obtain ⟨k1, b1, off1, a1, c1, hk1, hlk1, he1, _, hat, hsl⟩ := HRG.out.node (HNO.out y HM.out)
      cases he1
      have HPL := Lib.hid (rplace_any (some ⟨b, off, none⟩) c G y hy32 wr HLEN.out (HRG.out.below HB.out))
      rw [hk1] at HPL
      have HAT := Lib.hid hat
      have HSL := Lib.hid hsl
      have HPA := Lib.hid (pars_len HWF.out y)
      have HPN := Lib.hid (pars_nodup HWF.out y)
      obtain ⟨ps, hps⟩ : ∃ ps, ps = parsOf G y := ⟨_, rfl⟩
      have HPS := Lib.hid hps
      rw [← hps] at HAT HSL HPA HPN HNC
      have i1 : (k : Int) < O.length := by omega
      have i2 : (k1 : Int) < G.length := by omega
      have i3 : O.length ≤ 1000000 := by have := HOL.out; have := HLEN.out; omega
      have I3 := Lib.hid i3
      clear hy hat hsl hps hk1
      go_wp2_with fail
      refine HPL.out.mono ?_
      rintro e w2 ⟨rfl, hb2⟩
      have HB2 := Lib.hid (HB.out.trans (hb2.mono HB.out.size))
      have h8 := (HAT.out.below HB2.out).p
      simp only at h8
      have HRQ := Lib.hid (rowI_st _ _ _ _ _ HR.out hb2)
      clear hb2 e1 e2 HPL
      go_wp2_with fail
      clear h8
      go_loopg [6, 9] ps.length (fun g v6 v9 wr2 => ∃ (j : Nat) (O' : List (List UInt8)), g + j = ps.length ∧ v9 = .int .i64 j ∧ rowI w.heap.size O' v6 wr2 ∧ O'.Nodup ∧ (∀ z ∈ O', Anc G x z) ∧ (∃ T, O' = O ++ T) ∧ (∀ i, i < j → ps.getD i [] ∈ O') ∧ Below w.heap.size w wr2)
      case atStart => exact ⟨0, O, by omega, rfl, HRQ.out, HND.out, HA.out, ⟨[], by simp⟩, fun i hi => by omega, HB2.out⟩
      case round =>
        obtain ⟨j, O', hg, rfl, hrow, hnd, hanc, hpre, hin, hbw⟩ := hrel
        have HG' := Lib.hid hg
        have HR' := Lib.hid hrow
        have HND' := Lib.hid hnd
        have HA' := Lib.hid hanc
        have HPRE := Lib.hid hpre
        have HIN' := Lib.hid hin
        have HB' := Lib.hid hbw
        have HNO' := Lib.hid (show ∀ y ∈ O', isNode G y = true from fun y hy => (hanc y hy).node HWF.out HN.out)
        have H32' := Lib.hid (show ∀ y ∈ O', y.length = 32 from fun y hy => isNode_len HWF.out (HNO'.out y hy))
        have HOL' := Lib.hid (nodes_len hnd HNO'.out)
        clear hg hrow hnd hanc hpre hin hbw
        by_cases hj : j < ps.length
        · have HJ := Lib.hid hj
          have HSLR := Lib.hid (SlI_below HSL.out HB'.out)
          obtain ⟨a3, c3, he3, _, _, hi3, _⟩ := HSLR.out
          obtain ⟨rfl, _, rfl⟩ := Value.slice.inj he3
          rcases hi3.2 with h | ⟨b3, off3, rfl, hc3⟩
          · rw [h] at hj; simp at hj
          obtain ⟨e1, e2⟩ := hc3 j hj
          have hz32 := hi3.1 _ (getD_mem hj)
          have HZM := Lib.hid (getD_mem hj)
          obtain ⟨z, hz⟩ : ∃ z, z = ps.getD j [] := ⟨_, rfl⟩
          have HZ := Lib.hid hz
          rw [← hz] at e2 hz32 HZM
          have i1' : (j : Int) < ps.length := by omega
          have hps2 : ps.length ≤ 2 := HPA.out
          have HCL' := Lib.hid (show O'.length ≤ 1000000 by have := HOL'.out; have := HLEN.out; omega)
          obtain ⟨a2, c2, rfl, p1', p2', p3', p4'⟩ := SlI_row H32'.out HR'.out
          have P3 := Lib.hid p3'
          unfold maxLen at p2'
          clear p3' p4' hc3 hi3 hz he3
          go_wp2_with fail
          refine (in_any a2 c2 O' z _ HCL'.out P3.out hz32).mono ?_
          rintro e w3 ⟨rfl, hb3⟩
          have HB3 := Lib.hid (HB'.out.trans (hb3.mono HB'.out.size))
          have HR3 := Lib.hid (rowI_st _ _ _ _ _ HR'.out hb3)
          have f1 := fits_below hb3 e1
          have f2 := (agg_below hb3 e1).trans e2
          clear e1 e2 hb3
          by_cases ht : z ∈ O'
          · have HTE := Lib.hid ht
            rw [show decide (z ∈ O') = true from by simpa using ht]
            clear ht
            go_wp2
            go_roundg (gk - 1)
            case measure => have := HG'.out; omega
            case rel => exact ⟨j + 1, O', by have := HG'.out; omega, by go_num, HR3.out, HND'.out, HA'.out, HPRE.out, (fun i hi => by rcases Nat.lt_succ_iff_lt_or_eq.1 hi with h | rfl; exact HIN'.out i h; rw [← HZ.out]; exact HTE.out), HB3.out⟩
          · have HTE := Lib.hid ht
            rw [show decide (z ∈ O') = false from by simpa using ht]
            clear ht
            obtain ⟨O1, hO1⟩ : ∃ O1, O1 = O' ++ [z] := ⟨_, rfl⟩
            have HO1 := Lib.hid hO1
            have HC := Lib.hid (show O'.length + [z].length ≤ 4000000 by have := HCL'.out; simp only [List.length_cons, List.length_nil]; omega)
            have hbn := (Below.refl w3.heap.size w3).alloc (Nat.le_refl _) (.cells (idB z) 24)
            have HNEW := Lib.hid (one_new (w := w3) hz32)
            have HRN := Lib.hid (rowI_st _ _ _ _ _ HR3.out hbn)
            have HBN := Lib.hid (HB3.out.trans (hbn.mono HB3.out.size))
            clear hbn hO1
            go_wp2_with (at_builtin; refine wpList_append_to rfl _ _ rfl w.heap.size _ O' [z] O1 HO1.out rfl HRN.out _ 1 rfl HNEW.out (fun e => by cases e) HC.out HBN.out.size ?_)
            rintro v1 w1 ho1 hb1
            have HR1 := Lib.hid (show rowI w.heap.size O1 v1 w1 from ho1)
            have HB1 := Lib.hid (HBN.out.trans hb1)
            clear ho1 hb1
            go_wp2
            go_roundg (gk - 1)
            case measure => have := HG'.out; omega
            case rel => exact ⟨j + 1, O1, by have := HG'.out; omega, by go_num, HR1.out, by rw [HO1.out]; exact nodup_snoc HND'.out HTE.out, (fun u hu => by
                rw [HO1.out] at hu
                rcases List.mem_append.1 hu with h | h
                · exact HA'.out u h
                · rw [List.mem_singleton.1 h]; exact (HA.out y HM.out).par (by rw [← HPS.out]; exact HZM.out)), (by obtain ⟨T, hT⟩ := HPRE.out; exact ⟨T ++ [z], by rw [HO1.out, hT]; simp⟩), (fun i hi => by rw [HO1.out]; rcases Nat.lt_succ_iff_lt_or_eq.1 hi with h | rfl; exact List.mem_append.2 (.inl (HIN'.out i h)); rw [← HZ.out]; simp), HB1.out⟩
        · have HJE := Lib.hid (show j = ps.length by have := HG'.out; omega)
          go_wp2
          go_roundg (G.length - (k + 1))
          case measure => have := HG.out; have := HK.out; have := HOL.out; omega
          case rel =>
            refine ⟨k + 1, O', by have := HG.out; have := HK.out; have := HOL.out; omega, ?_, by go_num, HR'.out, HND'.out, HA'.out, ?_, ?_, HB'.out⟩
            · obtain ⟨T, hT⟩ := HPRE.out
              rw [hT, List.length_append]; have := HK.out; omega
            · obtain ⟨T, hT⟩ := HPRE.out
              rw [hT]; exact List.mem_append.2 (.inl HXO.out)
            · intro i hi u hu
              obtain ⟨T, hT⟩ := HPRE.out
              have hiO : i < O.length := by have := HK.out; omega
              rw [hT, List.getD_eq_getElem?_getD, List.getElem?_append_left hiO, ← List.getD_eq_getElem?_getD] at hu
              rcases Nat.lt_succ_iff_lt_or_eq.1 hi with h | rfl
              · rw [hT]; exact List.mem_append.2 (.inl (HCL.out i h u hu))
              · rw [← HY.out, ← HPS.out] at hu
                obtain ⟨i2, hi2, rfl⟩ := List.getElem_of_mem hu
                have := HIN'.out i2 (by rw [HJE.out]; exact hi2)
                rwa [List.getD_eq_getElem?_getD, List.getElem?_eq_getElem hi2, Option.getD_some] at this
    · have HE := Lib.hid (show setL O = pastL G x from pastL_of HWF.out HN.out (fun y => ⟨HA.out y, fun h => h.closed (fun s hs z hz => by
        obtain ⟨i, hi, rfl⟩ := List.getElem_of_mem hs
        refine HCL.out i (by omega) z ?_
        rwa [List.getD_eq_getElem?_getD, List.getElem?_eq_getElem hi, Option.getD_some]) HXO.out⟩))
      obtain ⟨a2, c2, rfl, p1, p2, p3, p4⟩ := SlI_row H32.out HR.out
      have P3 := Lib.hid p3
      have HCL' := Lib.hid (show O.length ≤ 1000000 by have := HOL.out; have := HLEN.out; omega)
      clear p2 p3 p4
      go_wp2_with fail
      refine (rset_any a2 c2 O _ HCL'.out P3.out).mono ?_
      rintro e w3 ⟨v3, rfl, ho3, hb3⟩
      rw [HE.out] at ho3
      have HR3 := Lib.hid (ownsRow_base ho3 HB.out.size)
      have HB3 := Lib.hid (HB.out.trans (hb3.mono HB.out.size))
      clear ho3 hb3
      go_wp2
      go_ret2
      exact ⟨v3, rfl, HR3.out, HB3.out⟩
end Go.Proofs.Ytmmmimkikakalaa

namespace Go.Proofs.Ytmmmimkikakalaa
open Go.RowKit Go.Maps
set_option linter.unusedVariables false

/-- Is a in b's past? -/
noncomputable def isR (G : List GN) (a b : List UInt8) : Bool := isNode G b && decide (a ∈ pastL G b)
/-- All nodes, as a set. -/
def idsL (G : List GN) : List (List UInt8) := setL (G.map (·.1))

set_option maxHeartbeats 2000000 in
set_option maxRecDepth 100000 in
theorem ris_any (p : Option Addr) (c : Nat) (G : List GN) (a b : List UInt8) (ha : a.length = 32) (hb : b.length = 32) (w : World) (hlen : G.length ≤ 1000) (hwf : Wf G) (hG : RefG w p G) :
    Calls Try.prog 15 #[.slice p G.length c, .agg (idB a), .agg (idB b)] w fun e w' => e = .returned (.bool (isR G a b)) ∧ Below w.heap.size w w' := by
  obtain ⟨W, hW⟩ : ∃ W, W = (w.alloc (.cells (idB a) 24)).alloc (.cells (idB b) 24) := ⟨_, rfl⟩
  obtain ⟨b1, hb1⟩ : ∃ b, b = w.heap.size := ⟨_, rfl⟩
  obtain ⟨b2, hb2⟩ : ∃ b, b = w.heap.size + 1 := ⟨_, rfl⟩
  have hq1 := (Below.refl w.heap.size w).alloc (Nat.le_refl _) (.cells (idB a) 24)
  have hq2 := (Below.refl (w.alloc (.cells (idB a) 24)).heap.size (w.alloc (.cells (idB a) 24))).alloc (Nat.le_refl _) (.cells (idB b) 24)
  have hq := hq1.trans (hq2.mono hq1.size)
  have a1 := fits_below hq2 (fits_new w (idB a) 24 32 (by rw [idB_size, ha]))
  have a2 := (agg_below hq2 (fits_new w (idB a) 24 32 (by rw [idB_size, ha]))).trans (aggAt_new w (idB a) 24 32 (by rw [idB_size, ha]))
  have c1 := fits_new (w.alloc (.cells (idB a) 24)) (idB b) 24 32 (by rw [idB_size, hb])
  have c2 := aggAt_new (w.alloc (.cells (idB a) 24)) (idB b) 24 32 (by rw [idB_size, hb])
  have hs : (w.alloc (.cells (idB a) 24)).heap.size = w.heap.size + 1 := by simp
  rw [hs] at c1 c2
  rw [← hW, ← hb1] at a1 a2
  rw [← hW, ← hb2] at c1 c2
  rw [← hW] at hq
  have HQ := Lib.hid hq
  have HA1 := Lib.hid a1
  have HA2 := Lib.hid a2
  have HLEN := Lib.hid hlen
  clear hq1 hq2 hs a1 a2
  cases hn : isNode G b with
  | false =>
    have HE := Lib.hid (show isR G a b = false by unfold isR; rw [hn]; rfl)
    have HP := Lib.hid (rpast_no p c G b hb W hlen (hG.below hq) hn)
    clear hq hn hG hwf
    go_enter Try.func15, Try.ntmps15
    go_upto_region 1 with fail
    rw [← hW, ← hb2, ← hb1]
    clear hW hb1 hb2
    go_wp2_with fail
    refine HP.out.mono ?_
    rintro e w1 ⟨rfl, hb3⟩
    have HB3 := Lib.hid (HQ.out.trans (hb3.mono HQ.out.size))
    clear hb3 c1 c2
    go_wp2
    go_ret
    exact ⟨ret_bool HE.out.symm, HB3.out⟩
  | true =>
    have HE := Lib.hid (show isR G a b = decide (a ∈ pastL G b) by unfold isR; rw [hn]; rfl)
    have HP := Lib.hid (rpast_any p c G b W hlen hwf (hG.below hq) hn)
    have H32 := Lib.hid (pastL_32 (x := b) hwf)
    have HPL := Lib.hid (pastL_len G b)
    clear hq hn hG hwf
    go_enter Try.func15, Try.ntmps15
    go_upto_region 1 with fail
    rw [← hW, ← hb2, ← hb1]
    clear hW hb1 hb2
    go_wp2_with fail
    refine HP.out.mono ?_
    rintro e w1 ⟨v, rfl, hr, hb3⟩
    have HB3 := Lib.hid (HQ.out.trans (hb3.mono HQ.out.size))
    have a1 := fits_below hb3 HA1.out
    have a2 := (agg_below hb3 HA1.out).trans HA2.out
    obtain ⟨a4, c4, rfl, p1, p2, p3, p4⟩ := SlI_row H32.out hr
    have HIN := Lib.hid (in_any a4 c4 (pastL G b) a w1 (by have := HPL.out; have := HLEN.out; omega) p3 ha)
    generalize pastL G b = L at *
    clear hb3 c1 c2 hr p1 p2 p3 p4
    go_wp2_with fail
    refine HIN.out.mono ?_
    rintro e w2 ⟨rfl, hb4⟩
    have HB4 := Lib.hid (HB3.out.trans (hb4.mono HB3.out.size))
    clear hb4 a1 a2
    go_wp2
    go_ret
    exact ⟨ret_bool HE.out.symm, HB4.out⟩

set_option maxHeartbeats 2000000 in
set_option maxRecDepth 100000 in
theorem rids_any (p : Option Addr) (c : Nat) (G : List GN) (w : World) (hlen : G.length ≤ 1000) (hwf : Wf G) (hG : RefG w p G) :
    Calls Try.prog 27 #[.slice p G.length c] w fun e w' => ∃ v, e = .returned v ∧ rowI w.heap.size (idsL G) v w' ∧ Below w.heap.size w w' := by
  have HX := Lib.hid hG
  have HLEN := Lib.hid hlen
  have HWF := Lib.hid hwf
  clear hG hwf
  go_enter Try.func27, Try.ntmps27
  go_wp2_with fail
  go_loopg [3, 4] G.length (fun g vo i wr => ∃ (k : Nat) (O : List (List UInt8)), g + k = G.length ∧ i = .int .i64 k ∧ rowI w.heap.size O vo wr ∧ O = (G.take k).map (·.1) ∧ Below w.heap.size w wr)
  case atStart => exact ⟨0, [], by omega, rfl, ⟨by simp [idsC], .inl ⟨rfl, rfl⟩⟩, by simp, Below.refl _ _⟩
  case round =>
    obtain ⟨k, O, hg, rfl, hrow, hO, hb⟩ := hrel
    have HG := Lib.hid hg
    have HR := Lib.hid hrow
    have HO := Lib.hid hO
    have HB := Lib.hid hb
    have H32 := Lib.hid (show ∀ z ∈ O, z.length = 32 from fun z hz => by rw [hO] at hz; obtain ⟨g, hg, rfl⟩ := List.mem_map.1 hz; exact HWF.out.len g (List.mem_of_mem_take hg))
    have HOL := Lib.hid (show O.length ≤ 1000 by rw [hO, List.length_map, List.length_take]; have := HLEN.out; omega)
    clear hg hrow hO hb
    by_cases hk : k < G.length
    · have HK := Lib.hid hk
      obtain ⟨b, off, a1, c1, y, ps, st, rfl, hlt, hget, hy32, hat, _⟩ := (HX.out.below HB.out).at hk
      have HGT := Lib.hid hget
      have i1 : (k : Int) < G.length := by omega
      have e1 := hat.kf
      have e2 := hat.ka
      simp only at e2
      obtain ⟨a2, c2, rfl, p1, p2, p3, p4⟩ := SlI_row H32.out HR.out
      unfold maxLen at p2
      obtain ⟨O1, hO1⟩ : ∃ O1, O1 = O ++ [y] := ⟨_, rfl⟩
      have HO1 := Lib.hid hO1
      have HC := Lib.hid (show O.length + [y].length ≤ 4000000 by have := HOL.out; simp only [List.length_cons, List.length_nil]; omega)
      have hbn := (Below.refl wr.heap.size wr).alloc (Nat.le_refl _) (.cells (idB y) 24)
      have HNEW := Lib.hid (one_new (w := wr) hy32)
      have HRN := Lib.hid (rowI_st _ _ _ _ _ HR.out hbn)
      have HBN := Lib.hid (HB.out.trans (hbn.mono HB.out.size))
      clear hbn hO1 hget hat p3 p4
      go_wp2_with (at_builtin; refine wpList_append_to rfl _ _ rfl w.heap.size _ O [y] O1 HO1.out rfl HRN.out _ 1 rfl HNEW.out (fun e => by cases e) HC.out HBN.out.size ?_)
      rintro v1 w1 ho1 hb1
      have HR1 := Lib.hid (show rowI w.heap.size O1 v1 w1 from ho1)
      have HB1 := Lib.hid (HBN.out.trans hb1)
      clear ho1 hb1
      go_wp2
      go_roundg (gk - 1)
      case measure => have := HG.out; omega
      case rel => exact ⟨k + 1, O1, by have := HG.out; omega, by go_num, HR1.out, by rw [HO1.out, HO.out, List.take_add_one, HGT.out]; simp, HB1.out⟩
    · have HE := Lib.hid (show setL O = idsL G by rw [HO.out, List.take_of_length_le (by omega)]; rfl)
      obtain ⟨a2, c2, rfl, p1, p2, p3, p4⟩ := SlI_row H32.out HR.out
      have P3 := Lib.hid p3
      have HCL' := Lib.hid (show O.length ≤ 1000000 by have := HOL.out; omega)
      clear p2 p3 p4
      go_wp2_with fail
      refine (rset_any a2 c2 O _ HCL'.out P3.out).mono ?_
      rintro e w3 ⟨v3, rfl, ho3, hb3⟩
      rw [HE.out] at ho3
      have HR3 := Lib.hid (ownsRow_base ho3 HB.out.size)
      have HB3 := Lib.hid (HB.out.trans (hb3.mono HB.out.size))
      clear ho3 hb3
      go_wp2
      go_ret
      exact ⟨v3, rfl, HR3.out, HB3.out⟩
end Go.Proofs.Ytmmmimkikakalaa
