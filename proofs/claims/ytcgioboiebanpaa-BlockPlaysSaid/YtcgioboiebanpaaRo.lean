/- The reference's Pieces: the walk. -/
import Derived.Test.YtcgioboiebanpaaRk
import Derived.Test.YtcgioboiebanpaaQe
namespace Go.Proofs.Ytcgioboiebanpaa
open Go.RowKit
set_option linter.unusedVariables false

def stP (l : List Nd) (O : List Nat) (k : Nat) : List PV × Bool := pgo (((O.take k).map (elN l)).map one)
theorem stP_succ (l : List Nd) (O : List Nat) (k : Nat) (h : k < O.length) : stP l O (k + 1) = pstep (stP l O k) (one (elX (l.getD (O.getD k 0) nd0))) := by
  unfold stP
  have : O.take (k + 1) = O.take k ++ [O.getD k 0] := by
    rw [List.take_succ_eq_append_getElem h, List.getD_eq_getElem?_getD, List.getElem?_eq_getElem h]; rfl
  rw [this, List.map_append, List.map_append]
  exact pgo_snoc _ _
theorem stP_all (l : List Nd) : (stP l (ordN l) (ordN l).length).1 = rPieces l := by unfold stP rPieces view; rw [List.take_length]
theorem pgo_ne : ∀ rs : List MR, (pgo rs).2 = false → (pgo rs).1 ≠ [] := by
  refine snoc_ind (by simp [pgo]) fun rs r ih => ?_
  · skip
    rw [pgo_snoc]
    intro h
    unfold pstep at h ⊢
    split at h
    · cases h
    · rename_i h1
      rw [if_neg h1] 
      split
      · rename_i h2
        rw [Bool.and_eq_true] at h2
        unfold addLast
        split
        · simp
        · exact ih (by simpa using h2.1)
      · simp
theorem pgo_idx {q : Int → Prop} : ∀ rs : List MR, (∀ r ∈ rs, q r.1.2.2) → ∀ p ∈ (pgo rs).1, q p.1.2.2 := by
  refine snoc_ind (by simp [pgo]) fun rs r ih => ?_
  · skip
    intro h p hp
    have h1 := ih (fun x hx => h x (by simp [hx]))
    rw [pgo_snoc] at hp
    unfold pstep addLast at hp
    split at hp
    · exact h1 p hp
    · split at hp
      · split at hp
        · rename_i p0 hp0
          rcases List.mem_append.1 hp with hp | hp
          · exact h1 p (List.dropLast_subset _ hp)
          · rw [List.mem_singleton.1 hp]
            exact h1 p0 (List.mem_of_getLast? hp0)
        · exact h1 p hp
      · rcases List.mem_append.1 hp with hp | hp
        · exact h1 p hp
        · rw [List.mem_singleton.1 hp]
          exact h r (by simp)
theorem stP_idx {l : List Nd} {O : List Nat} (k : Nat) {q : Int → Prop} (hO : ∀ i ∈ O, i < l.length) (h : ∀ x ∈ l, q x.1.2.2) : ∀ p ∈ (stP l O k).1, q p.1.2.2 := by
  refine pgo_idx _ fun r hr => ?_
  obtain ⟨e, he, rfl⟩ := List.mem_map.1 hr
  obtain ⟨i, hi, rfl⟩ := List.mem_map.1 he
  refine h _ ?_
  have := hO i (List.mem_of_mem_take hi)
  simp [List.getD_eq_getElem?_getD, this]
theorem stP_bd (l : List Nd) (O : List Nat) (k : Nat) (hO : O.length ≤ 1000) : ∀ p ∈ (stP l O k).1, 0 ≤ p.2.1 ∧ p.2.1 ≤ 1000 ∧ p.2.2.length ≤ 4000 := by
  intro p hp
  have h1 := pgo_bd _ p hp
  have h2 : tot (((O.take k).map (elN l)).map one) ≤ 1000 := by
    have : ∀ L : List E1, tot (L.map one) = L.length := fun L => by
      induction L with
      | nil => rfl
      | cons e L ih => simp only [tot, List.map_cons, List.sum_cons, one, List.length_cons, List.length_nil] at ih ⊢; omega
    rw [this, List.length_map, List.length_take]
    omega
  unfold pcB at h1
  omega
theorem kcells {w : World} {b o : Nat} {k : KV} (hk : k.2.1.length = 32) (hf : fits w ⟨b, o, none⟩ 34) (ha : aggAt w ⟨b, o, none⟩ 34 = keyB k.1 k.2.1 k.2.2) :
    w.cell? ⟨b, o, none⟩ = some (.int .i64 k.1) ∧ (fits w ⟨b, o + 1, none⟩ 32 ∧ aggAt w ⟨b, o + 1, none⟩ 32 = idB k.2.1) ∧ w.cell? ⟨b, o + 33, none⟩ = some (.int .i64 k.2.2) := by
  have hg : ∀ j, j < 34 → w.cell? ⟨b, o + j, none⟩ = (keyB k.1 k.2.1 k.2.2)[j]? := fun j hj => by rw [aggAt_get hf hj, ha]
  refine ⟨?_, ?_, ?_⟩
  · have := hg 0 (by decide)
    rw [Nat.add_zero] at this
    rw [this, keyB_0]
  · refine sub_agg hf (l := (keyB k.1 k.2.1 k.2.2).toList) (by rw [ha]) (k := 1) (m := 32) (by decide) ((idB k.2.1).toList) ?_ ?_
    · have := keyB_id k.1 k.2.1 k.2.2 hk
      rw [← this]
      simp
    · simp [idB, Lib.byteCells, hk]
  · rw [hg 33 (by decide), keyB_33 _ _ _ hk]
theorem bytes_own (w : World) (r : Int) (hr : may r = true) : (w.alloc (.cells ((encV r).map (Value.int .u8)).toArray 5)).ownsRow w.heap.size 5 1 (.slice (some ⟨w.heap.size, 0, none⟩) (enc r).length (enc r).length) (enc r).length (Lib.byteCells (enc r)) := by
  have hl : ((encV r).map (Value.int .u8)).length = (enc r).length := by rw [List.length_map, encV_len]
  have h4 := (enc_ne r).2
  refine ⟨by rw [Lib.byteCells_length]; omega, .inr ⟨w.heap.size, (enc r).length, _, rfl, Nat.le_refl _, (MapKept.heap_alloc w _).1, Nat.le_refl _, by unfold maxLen; omega, by simpa using hl, ?_⟩⟩
  rw [byteCells_enc hr, List.take_of_length_le (by rw [Lib.byteCells_length]; omega)]
theorem textL_one {u : Int} (h : may u = true) : textL [u] = enc u := by
  unfold textL allMay
  simp [h, encs]
theorem last_split {O : List PV} (h : O ≠ []) : ∃ O' p, O = O' ++ [p] := by
  rcases List.eq_nil_or_concat O with h0 | ⟨O', p, h0⟩
  · exact absurd h0 h
  · exact ⟨O', p, by rw [h0, List.concat_eq_append]⟩
theorem rec_at_end {α : Type} {R : Rec α} {e : TypeId} {base g len cap : Nat} {O : List α} {x : α} {w : World} (h : R.row e base (O ++ [x]) (.slice (some ⟨g, 0, none⟩) len cap) w) : R.At w ⟨g, O.length * R.sz, none⟩ x :=
  h.at (by simp)
@[go_sem ↓] theorem bld95_1 (A : Act) (a c : Operand) (dst : Option Tmp) (ty' : TypeId) (pos : String) (after : Array Edge) (guard : Option (Nat × Bool)) (w : World) (ha : keyOk (A.eval a)) (hc : isStr (A.eval c)) :
    (execOp A.eval ⟨dst, .build 95 #[(0, a), (1, .const (.int .i64 1)), (2, c)], ty', pos, after, guard⟩).run Try.prog w = .ok (.value (.agg (aggOf (A.eval a) ++ #[.int .i64 1, A.eval c]))) w :=
  bld95_3 A.eval a (.const (.int .i64 1)) c dst ty' pos after guard w ha ⟨1, rfl⟩ hc
set_option maxHeartbeats 16000000 in
set_option maxRecDepth 100000 in
theorem rpieces_any (p : Option Addr) (c : Nat) (l : List Nd) (w : World) (hlen : l.length ≤ 1000) (hin : nodeR.In w p l) (hR : RightL l) (hix : ∀ x ∈ l, 0 ≤ x.1.2.2 ∧ x.1.2.2 < 2147483648) :
    Calls Try.prog 39 #[.slice p l.length c] w fun e w' => ∃ v, e = .returned v ∧ pieceR.row 95 w.heap.size (rPieces l) v w' ∧ Below w.heap.size w w' := by
  have HX := Lib.hid hin
  have HT := Lib.hid (rorder_any p c l w hlen hin hR)
  have HIX := Lib.hid hix
  have HMY := Lib.hid (fun (k : Nat) (hk : k < l.length) => (hR.1 k hk).1)
  clear hin hix
  go_enter Try.func39, Try.ntmps39
  go_wp2_with fail
  refine HT.out.mono ?_
  rintro e w1 ⟨v1, rfl, hr1, hb1⟩
  obtain ⟨p1, c1, rfl, _, _, hin1, _⟩ := hr1.sl
  have HI1 := Lib.hid hin1
  have HB1 := Lib.hid hb1
  have HLO := Lib.hid (ordN_le l)
  have HOM := Lib.hid (fun i (hi : i ∈ ordN l) => ordN_lt hi)
  have HOL := Lib.hid (fun (k : Nat) (hk : k < (ordN l).length) => (show (ordN l).getD k 0 < l.length from ordN_lt (by
    rw [List.getD_eq_getElem?_getD, List.getElem?_eq_getElem hk]; exact List.getElem_mem hk)))
  have HFIN := Lib.hid (stP_all l)
  rw [toI_len]
  obtain ⟨Or, hO⟩ : ∃ O, O = ordN l := ⟨_, rfl⟩
  rw [← hO] at HI1 HLO HOL HOM HFIN ⊢
  have hol := HLO.out
  clear hr1 hb1 hin1 hO hR HT
  go_wp2_with fail
  go_loopg [3, 5, 6] Or.length (fun g v3 v5 v6 wr => ∃ (k : Nat) (O : List PV) (jn gap : Bool), g + k = Or.length ∧ v6 = .int .i64 k ∧ v5 = .bool jn ∧ gap = (!jn) ∧ stP l Or k = (O, gap) ∧ pieceR.row 95 w1.heap.size O v3 wr ∧ Below w1.heap.size w1 wr)
  case atStart => exact ⟨0, [], false, true, by omega, rfl, rfl, rfl, rfl, Rec.row.nil, Below.refl _ _⟩
  case round =>
    obtain ⟨k, O, jn, gap, hg, rfl, rfl, hgap, hst, hrow, hbw⟩ := hrel
    have HGAP := Lib.hid hgap
    clear hgap
    have HG := Lib.hid hg
    have HST := Lib.hid hst
    have HROW := Lib.hid hrow
    have HB := Lib.hid hbw
    obtain ⟨pq, cq, rfl, _, _, _, _⟩ := hrow.sl
    have HBD := Lib.hid (show ∀ p ∈ O, 0 ≤ p.2.1 ∧ p.2.1 ≤ 1000 ∧ p.2.2.length ≤ 4000 by have := stP_bd l Or k (by omega); rw [hst] at this; exact this)
    have HID := Lib.hid (show ∀ p ∈ O, 0 ≤ p.1.2.2 ∧ p.1.2.2 < 2147483648 by have := stP_idx (l := l) (O := Or) k (q := fun i => 0 ≤ i ∧ i < 2147483648) HOM.out HIX.out; rw [hst] at this; exact this)
    have HNE := Lib.hid (show gap = false → O ≠ [] from fun h => by have := pgo_ne (((Or.take k).map (elN l)).map one); rw [show pgo (((Or.take k).map (elN l)).map one) = (O, gap) from hst] at this; exact this h)
    have HOLN := Lib.hid (show O.length ≤ 1000 by
      have := pgo_len (((Or.take k).map (elN l)).map one)
      rw [show pgo (((Or.take k).map (elN l)).map one) = (O, gap) from hst, List.length_map, List.length_map, List.length_take] at this
      simp only at this
      omega)
    clear hg hbw hrow hst
    by_cases hk : k < Or.length
    · have HKK := Lib.hid hk
      obtain ⟨x, hx⟩ : ∃ x, x = Or.getD k 0 := ⟨_, rfl⟩
      have hxl := HOL.out k hk
      have HLS := Lib.hid (stP_succ l Or k hk)
      have hxI : (toI Or)[k]? = some (x : Int) := by
        unfold toI; rw [List.getElem?_map, hx]; simp [List.getD_eq_getElem?_getD, hk]
      rw [← hx] at hxl HLS
      rcases (HI1.out.below HB.out).2 with h | ⟨b1, o1, rfl, hlt1, hc1⟩
      · rw [h] at hxI; simp at hxI
      have q1 := int_cell (hc1 k _ hxI)
      obtain ⟨b, off, rfl, hlt, h32, hat⟩ := node_at (HX.out.below (HB1.out.trans (HB.out.mono HB1.out.size))) hxl
      have q3 := hat.f
      have q4 := hat.a
      have hmy := HMY.out x hxl
      rw [show runeN l x = (l.getD x nd0).2.2.1 from rfl] at hmy
      have hxx := HIX.out (l.getD x nd0) (by simp [List.getD_eq_getElem?_getD, hxl])
      have HND := Lib.hid (nodeR.one (l.getD x nd0) h32)
      generalize l.getD x nd0 = y at *
      have i1 : (k : Int) < Or.length := by omega
      have i2 : (x : Int) < l.length := by omega
      have H32 := Lib.hid h32
      have HM := Lib.hid hmy
      have HXI := Lib.hid hxx
      rw [HST.out] at HLS
      clear hat hc1 hxI hx h32 hmy hxx
      obtain ⟨ol, hol2⟩ : ∃ n, n = O.length := ⟨_, rfl⟩
      have HOLE := Lib.hid hol2
      rw [← hol2] at HROW ⊢
      have holn : ol ≤ 1000 := by rw [hol2]; exact HOLN.out
      clear hol2
      go_upto_region 8 with (refine wpList_store_blk 114 37 (by kernel_rfl) rfl _ _ rfl wr.heap.size (ndB y) (ndB_size y H32.out) HND.out rfl rfl _ (MapKept.heap_alloc wr _).1 (by rfl) ?_)
      intro w2 s1 s2 s3
      have hb2 : Below wr.heap.size wr w2 := ((Below.refl wr.heap.size wr).alloc (Nat.le_refl _) _).trans ⟨s3.os, s3.tape, s3.output, s3.size, fun j hj => s3.block j (by simp; omega) (by simp; omega)⟩
      have HB2 := Lib.hid (HB.out.trans (hb2.mono HB.out.size))
      have HROW2 := Lib.hid (HROW.out.below hb2)
      obtain ⟨bx, hbx⟩ : ∃ bx, bx = wr.heap.size := ⟨_, rfl⟩
      rw [← hbx] at s1 ⊢
      have HBX := Lib.hid s1
      have hY := NdAt.of H32.out (show nodeR.At w2 ⟨bx, 0, none⟩ y from by
        obtain ⟨f1, f2⟩ := blk_ld s1 (ndB_size y H32.out)
        exact ⟨f1, by rw [show (nodeR.enc y).toArray = ndB y by show (ndB y).toList.toArray = _; simp]; exact f2⟩)
      have d1 := hY.d
      have d2 := hY.r
      rw [Nat.zero_add] at d1 d2
      obtain ⟨⟨yt, yc, yi⟩, yp, yr, yd⟩ := y
      simp only at d1 d2 HM HXI H32
      clear s1 s2 s3 hb2 hbx q1 q3 q4 hY HND
      cases yd with
      | true =>
        have HF := Lib.hid (show stP l Or (k + 1) = (O, true) by rw [HLS.out]; rfl)
        clear d2
        go_wp2
        go_roundg (gk - 1)
        case measure => have := HG.out; have := HKK.out; omega
        case rel => exact ⟨k + 1, O, false, true, nat_step HG.out HKK.out, by go_num, rfl, rfl, HF.out, HROW2.out, HB2.out⟩
      | false =>
        have HFS := Lib.hid (show stP l Or (k + 1) = if (!gap && followsB O (yt, yc, yi)) = true then (addLast O (one ((yt, yc, yi), yr, false)), false) else (O ++ [((yt, yc, yi), 1, enc yr)], false) by
          rw [HLS.out]
          unfold pstep
          rw [if_neg (by simp [one, elX])]
          have e1 : (one (elX ((yt, yc, yi), yp, yr, false))) = one ((yt, yc, yi), yr, false) := rfl
          rw [e1]
          have e2 : textL (one ((yt, yc, yi), yr, false)).2.1 = enc yr := textL_one HM.out
          rw [e2]
          rfl)
        go_wp2_with fail
        clear d1 d2
        refine (Bytes_any yr HM.out _).mono ?_
        rintro e w3 ⟨rfl, rfl⟩
        have hcv := conv_own _ _ _ _ (bytes_own w2 yr HM.out)
        have hbb := (Below.refl w2.heap.size w2).alloc (Nat.le_refl _) (.cells ((encV yr).map (Value.int .u8)).toArray 5)
        have HB3 := Lib.hid (HB2.out.trans (hbb.mono HB2.out.size))
        have HROW3 := Lib.hid (HROW2.out.below hbb)
        have HBX3 := Lib.hid ((hbb.block bx (Array.getElem?_eq_some_iff.1 HBX.out).1).trans HBX.out)
        rw [encV_len]
        generalize w2.alloc (.cells ((encV yr).map (Value.int .u8)).toArray 5) = w3 at *
        obtain ⟨S, hS⟩ : ∃ S, S = enc yr := ⟨_, rfl⟩
        rw [← hS] at HFS
        rw [show (⟨(enc yr).toArray⟩ : ByteArray) = strB S by rw [hS]; rfl] at hcv
        have HSL := Lib.hid (show S.length ≤ 4 by rw [hS]; exact (enc_ne yr).2)
        have HSE := Lib.hid (show enc yr = S from hS.symm)
        clear hbb hS
        go_upto_region 12 with fail
        clear hcv
        obtain ⟨B, hB⟩ : ∃ B : Bool, B = (!gap && followsB O (yt, yc, yi)) := ⟨_, rfl⟩
        rw [← hB] at HFS
        have HBE := Lib.hid hB
        have hyk := NdAt.of H32.out (show nodeR.At w3 ⟨bx, 0, none⟩ ((yt, yc, yi), yp, yr, false) from by
          obtain ⟨f1, f2⟩ := blk_ld HBX3.out (ndB_size _ H32.out)
          exact ⟨f1, by rw [show (nodeR.enc ((yt, yc, yi), yp, yr, false)).toArray = ndB ((yt, yc, yi), yp, yr, false) by show (ndB _).toList.toArray = _; simp]; exact f2⟩)
        have HKF := Lib.hid hyk.kf
        have HKA := Lib.hid (show aggAt w3 ⟨bx, 0, none⟩ 34 = keyB yt yc yi from hyk.ka)
        have HBXL := Lib.hid (show bx < w3.heap.size from (Array.getElem?_eq_some_iff.1 HBX3.out).1)
        clear hB hyk
        go_cut [76] (fun v76 wz => v76 = .bool B ∧ Below w3.heap.size w3 wz)
        case first =>
          cases jn with
          | false =>
            have hgg := HGAP.out
            simp only [Bool.not_false] at hgg
            subst hgg
            have HBF := Lib.hid (show B = false by rw [HBE.out]; rfl)
            refine wp_region_over (by kernel_rfl) (by kernel_rfl) ?_
            repeat (go_big_quiet_step (fail))
            refine wpQuiet_nil ?_
            rintro _ ⟨x0, rfl⟩
            go_wp2_with fail
            go_meet
            exact ⟨by rw [HBF.out], ov_below w3 x0⟩
          | true =>
            have hgg := HGAP.out
            simp only [Bool.not_true] at hgg
            subst hgg
            obtain ⟨O', pp, hOO⟩ := last_split (HNE.out rfl)
            have hm : ol = O'.length + 1 := by rw [HOLE.out, hOO]; simp
            have hpm : pp ∈ O := by rw [hOO]; simp
            have hp32 : pp.1.2.1.length = 32 := HROW3.out.1 pp hpm
            have hpi := HID.out pp hpm
            have hpn := HBD.out pp hpm
            obtain ⟨g, cap_, hve, _⟩ := HROW3.out.some (by rw [hOO]; simp)
            injection hve with e1 e2 e3
            subst e1
            clear e2 e3
            have hrw := HROW3.out
            rw [hOO] at hrw
            have hat := rec_at_end hrw
            rw [show pieceR.sz = 36 from rfl] at hat
            obtain ⟨⟨g1, g2⟩, g3, g4⟩ := piece_at hp32 hat
            obtain ⟨k1, ⟨k2, k3⟩, k4⟩ := kcells hp32 g1 g2
            obtain ⟨y1, ⟨y2, y3⟩, y4⟩ := kcells (k := (yt, yc, yi)) H32.out HKF.out HKA.out
            simp only [Nat.zero_add] at y1 y2 y3 y4
            have hgl : g < w3.heap.size := g1.lt
            have hbl := HBXL.out
            have HBV := Lib.hid (show B = keyEq pp.1.1 pp.1.2.1 (wrap64 (pp.1.2.2 + pp.2.1)) yt yc yi by
              rw [HBE.out, hOO]
              unfold followsB
              rw [List.getLast?_append]
              rfl)
            obtain ⟨⟨pt, pc, pi⟩, pn, ps⟩ := pp
            simp only at k1 k2 k3 k4 g3 g4 HBV hp32 hpi hpn
            have hol1 : 1 ≤ ol := by omega
            rw [show O'.length = ol - 1 by omega] at k1 k2 k3 k4 g3 g4
            have HXI' := HXI.out
            have m2 : IntKind.i64.wrap (yi - pi) = yi - pi := IntWalk.i64_in _ (by omega)
            have hwp : wrap64 (pi + pn) = pi + pn := wrap64_id (by omega) (by omega)
            rw [hwp] at HBV
            have HBW := Lib.hid (keyEq_iff (a := (pt, pc, pi + pn)) (b := (yt, yc, yi)))
            have i3 : (ol : Int) - 1 < (ol : Int) := by omega
            have h32y := H32.out
            clear hat hrw g1 g2 hOO hpm hwp hm
            by_cases ct : pt = yt
            case neg =>
              have e1 : (pt == yt) = false := beq_eq_false_iff_ne.2 ct
              have HBF := Lib.hid (show B = false by
                rw [HBV.out]
                cases hh : keyEq pt pc (pi + pn) yt yc yi with
                | false => rfl
                | true => exact absurd (congrArg (fun k : KV => k.1) (HBW.out.1 hh)) ct)
              clear ct
              refine wp_region_over (by kernel_rfl) (by kernel_rfl) ?_
              repeat (go_big_quiet_step (fail))
              refine wpQuiet_nil ?_
              rintro _ ⟨x0, rfl⟩
              go_wp2_with fail
              go_meet
              exact ⟨by rw [HBF.out], ov_below w3 x0⟩
            case pos =>
            by_cases cc : pc = yc
            case neg =>
              have e1 : (pt == yt) = true := by rw [beq_iff_eq]; exact ct
              have e2 : (pc == yc) = false := beq_eq_false_iff_ne.2 cc
              have HBF := Lib.hid (show B = false by
                rw [HBV.out]
                cases hh : keyEq pt pc (pi + pn) yt yc yi with
                | false => rfl
                | true => exact absurd (congrArg (fun k : KV => k.2.1) (HBW.out.1 hh)) cc)
              clear ct cc
              refine wp_region_over (by kernel_rfl) (by kernel_rfl) ?_
              repeat (go_big_quiet_step (fail))
              refine wpQuiet_nil ?_
              rintro _ ⟨x0, rfl⟩
              go_wp2_with fail
              go_meet
              exact ⟨by rw [HBF.out], ov_below w3 x0⟩
            case pos =>
            have e1 : (pt == yt) = true := by rw [beq_iff_eq]; exact ct
            have e2 : (pc == yc) = true := by rw [beq_iff_eq]; exact cc
            have HBF := Lib.hid (show B = (yi - pi == pn) by
              rw [HBV.out]
              by_cases ci : yi - pi = pn
              · rw [beq_iff_eq.2 ci]
                exact HBW.out.2 (by rw [ct, cc, show pi + pn = yi by omega])
              · rw [beq_eq_false_iff_ne.2 ci]
                cases hh : keyEq pt pc (pi + pn) yt yc yi with
                | false => rfl
                | true => exact absurd (congrArg (fun k : KV => k.2.2) (HBW.out.1 hh)) (by simp only; omega))
            clear ct cc
            refine wp_region_over (by kernel_rfl) (by kernel_rfl) ?_
            repeat (go_big_quiet_step (fail))
            refine wpQuiet_nil ?_
            rintro _ ⟨x0, rfl⟩
            go_wp2_with fail
            go_meet
            exact ⟨by rw [HBF.out], ov_below w3 x0⟩
        case rest =>
          obtain ⟨rfl, hb4⟩ := hcut
          obtain ⟨Y, hY⟩ : ∃ Y, Y = wc := ⟨_, rfl⟩
          rw [← hY] at hb4 ⊢
          have HB4 := Lib.hid (HB3.out.trans (hb4.mono HB3.out.size))
          have HROW4 := Lib.hid (HROW3.out.below hb4)
          have HBX4 := Lib.hid ((hb4.block bx HBXL.out).trans HBX3.out)
          clear hb4 hY
          cases B with
          | false =>
            obtain ⟨NP, hNP⟩ : ∃ NP : PV, NP = ((yt, yc, yi), (1 : Int), S) := ⟨_, rfl⟩
            have HF := Lib.hid (show stP l Or (k + 1) = (O ++ [NP], false) by rw [HFS.out, if_neg (by simp), hNP])
            have HNB := Lib.hid (show keyB yt yc yi ++ #[.int .i64 1, .string (strB S)] = pieceB NP by rw [hNP]; rfl)
            have HNK := Lib.hid (show NP.1.2.1.length = 32 by rw [hNP]; exact H32.out)
            have hyk := NdAt.of H32.out (show nodeR.At Y ⟨bx, 0, none⟩ ((yt, yc, yi), yp, yr, false) from by
              obtain ⟨f1, f2⟩ := blk_ld HBX4.out (ndB_size _ H32.out)
              exact ⟨f1, by rw [show (nodeR.enc ((yt, yc, yi), yp, yr, false)).toArray = ndB ((yt, yc, yi), yp, yr, false) by show (ndB _).toList.toArray = _; simp]; exact f2⟩)
            have f1 := hyk.kf
            have f2 : aggAt Y ⟨bx, 0, none⟩ 34 = keyB yt yc yi := hyk.ka
            have g1 := keyOk_mk yt yc yi H32.out
            have g2 : pvOk (.agg (pieceB NP)) := ⟨NP, rfl, HNK.out⟩
            have g3 := HNB.out
            have hA := Rec.In.one (R := pieceR) Y 95 NP HNK.out
            rw [show (pieceR.enc NP).toArray = pieceB NP by show (pieceB NP).toList.toArray = _; simp] at hA
            have HA := Lib.hid hA
            have hb5 := (Below.refl Y.heap.size Y).alloc (Nat.le_refl _) (.cells (pieceB NP) 95)
            have HROW5 := Lib.hid (HROW4.out.below hb5)
            have HB5 := Lib.hid (HB4.out.trans (hb5.mono HB4.out.size))
            have HLN := Lib.hid (show O.length + [NP].length ≤ 100000000 by have := HOLN.out; simp; omega)
            rw [HOLE.out]
            rw [HOLE.out] at HROW5
            clear hNP hyk hA hb5
            go_wp2_with (at_builtin; refine Rec.wpList_app pc93 rfl _ _ rfl w1.heap.size _ O [NP] (O ++ [NP]) rfl rfl HROW5.out (some ⟨Y.heap.size, 0, none⟩) 1 rfl HA.out (fun h => by cases h) HLN.out HB5.out.size ?_)
            intro v' w6 hr6 hg6 hb6
            have HR6 := Lib.hid hr6
            have HB6 := Lib.hid (HB5.out.trans hb6)
            clear hr6 hg6 hb6 f1 f2 g1 g2 g3
            go_wp2
            go_roundg (gk - 1)
            case measure => have := HG.out; have := HKK.out; omega
            case rel => exact ⟨k + 1, O ++ [NP], true, false, nat_step HG.out HKK.out, by go_num, rfl, rfl, HF.out, HR6.out, HB6.out⟩
          | true =>
            have hjn : jn = true := by
              have := HBE.out
              rw [HGAP.out] at this
              cases jn with
              | true => rfl
              | false => simp at this
            obtain ⟨O', pp, hOO⟩ := last_split (HNE.out (by rw [HGAP.out, hjn]; rfl))
            have hm : O'.length = ol - 1 ∧ 1 ≤ ol := by have := HOLE.out; rw [hOO] at this; simp at this; omega
            have hpm : pp ∈ O := by rw [hOO]; simp
            have hp32 : pp.1.2.1.length = 32 := HROW4.out.1 pp hpm
            have hpn := HBD.out pp hpm
            obtain ⟨g, cap_, hve, _⟩ := HROW4.out.some (by rw [hOO]; simp)
            injection hve with e1 e2 e3
            subst e1
            clear e2 e3
            have hrw := HROW4.out
            have HF := Lib.hid (show stP l Or (k + 1) = (O' ++ [(pp.1, pp.2.1 + 1, pp.2.2 ++ S)], false) by
              rw [HFS.out, if_pos rfl, hOO]
              unfold addLast
              rw [List.getLast?_append]
              simp only [List.getLast?_singleton, Option.some_or, List.dropLast_concat, bump, one, List.length_cons, List.length_nil]
              rw [textL_one HM.out]
              have := HSE.out
              rw [this]
              rfl)
            rw [hOO] at hrw
            obtain ⟨pk, pn, ps⟩ := pp
            have hat := rec_at_end hrw
            rw [show pieceR.sz = 36 from rfl] at hat
            obtain ⟨_, g3, g4⟩ := piece_at hp32 hat
            obtain ⟨_, cur, hcur⟩ := row_block hrw g rfl
            have z3 : Y.frozen? ⟨g, O'.length * 36 + 34, none⟩ = false := Lib.frozen_of_heap hcur _
            have h1 := row_field (R := pieceR) (f := 34) (x := (pk, pn, ps)) (x' := (pk, pn + 1, ps)) (k := O'.length) (u := .int .i64 (pn + 1)) (by simp) hp32 (show 34 < 36 by decide) (piece_n pk pn (pn + 1) ps hp32) hrw
            have h2 := row_field (R := pieceR) (f := 35) (x := (pk, pn + 1, ps)) (x' := (pk, pn + 1, ps ++ S)) (k := O'.length) (u := .string (strB (ps ++ S))) (by simp) hp32 (show 35 < 36 by decide) (piece_s pk (pn + 1) ps (ps ++ S) hp32) h1.1
            simp only [show pieceR.sz = 36 from rfl] at h1 h2
            have e9 : ((O' ++ [(pk, pn, ps)]).set O'.length (pk, pn + 1, ps)).set O'.length (pk, pn + 1, ps ++ S) = O' ++ [(pk, pn + 1, ps ++ S)] := by simp
            rw [e9] at h2
            obtain ⟨_, cur2, hcur2⟩ := row_block h1.1 g rfl
            have z4 := Lib.frozen_of_heap hcur2 (O'.length * 36 + 35)
            have g5 := (cell_other Y g (O'.length * 36 + 34) (O'.length * 36 + 35) (.int .i64 (pn + 1)) (by omega)).trans g4
            rw [hm.1] at h1 h2 g3 g5 z3 z4
            have HR9 := Lib.hid h2.1
            have HB9 := Lib.hid ((HB4.out.trans h1.2).trans h2.2)
            have hadd := strB_add ps S (by have := hpn.2.2; have := HSL.out; simp only at *; omega)
            have i3 : (ol : Int) - 1 < (ol : Int) := by omega
            have hol1 := hm.2
            simp only at hpn g3
            have hpn1 : 0 ≤ pn ∧ pn ≤ 1000 := ⟨hpn.1, hpn.2.1⟩
            clear hat hrw hcur hcur2 h1 h2 hOO hpm e9 hm g4 hpn hjn
            go_upto_region 14 with fail
            obtain ⟨Z, hZ⟩ : ∃ Z, Z = Y.setCell ⟨g, (ol - 1) * 36 + 34, none⟩ (.int .i64 (pn + 1)) := ⟨_, rfl⟩
            rw [← hZ] at g5 z4 HR9 HB9 ⊢
            clear hZ g3 z3
            go_wp2
            go_roundg (gk - 1)
            case measure => have := HG.out; have := HKK.out; omega
            case rel => exact ⟨k + 1, O' ++ [(pk, pn + 1, ps ++ S)], true, false, nat_step HG.out HKK.out, by go_num, rfl, rfl, HF.out, HR9.out, HB9.out⟩
    · have hke : k = Or.length := by have := HG.out; omega
      subst hke
      have HFO := Lib.hid (show O = rPieces l by rw [← HFIN.out, HST.out])
      go_wp2
      go_ret
      exact ⟨_, rfl, by rw [← HFO.out]; exact HROW.out.base HB1.out.size, HB1.out.trans (HB.out.mono HB1.out.size)⟩
end Go.Proofs.Ytcgioboiebanpaa

namespace Go.Proofs.Ytcgioboiebanpaa
open Go.RowKit
set_option linter.unusedVariables false

theorem Alike.idx {l : List Nd} {rs : List MR} (h : Alike l rs) (hx : ∀ r ∈ rs, idxOk r) : ∀ x ∈ l, 0 ≤ x.1.2.2 ∧ x.1.2.2 < 2147483648 := by
  intro x hxl
  obtain ⟨e, he, hk⟩ := h.mem.2 ⟨x, hxl, rfl⟩
  obtain ⟨r, hr, he'⟩ := List.mem_flatMap.1 he
  obtain ⟨j, hj, h1, _⟩ := mem_elemsAt he'
  obtain ⟨q0, q1, q2⟩ := hx r hr
  rw [← hk, h1]
  simp only
  omega
set_option maxHeartbeats 8000000 in
set_option maxRecDepth 100000 in
theorem same_any (d : Nat) (v : Value) (rs : List MR) (p : Option Addr) (c : Nat) (l : List Nd) (w : World) (ht : tot rs ≤ 400) (hd : DocP w d v rs) (ha : Alike l rs) (hm : mayF rs) (hin : nodeR.In w p l) :
    Calls Try.prog 20 #[.pointer (some ⟨d, 0, none⟩), .slice p l.length c] w fun e w' => e = .returned (.bool true) ∧ Below w.heap.size w w' := by
  have HT5 := Lib.hid (show tot rs ≤ 5000 by omega)
  have HD := Lib.hid hd
  have HX := Lib.hid hin
  have HLE := Lib.hid ha.len
  have hll : l.length ≤ 1000 := by have := ha.len; omega
  have HLN := Lib.hid (show l.length ≤ 400 by have := ha.len; omega)
  have HR := Lib.hid ha.right
  have HIX := Lib.hid (ha.idx hd.idx)
  have HTX := Lib.hid (show strB (docText rs) = ⟨(encs (refL l)).toArray⟩ by rw [rText_eq ha hm]; rfl)
  have HLV := Lib.hid ha.liveLen
  have HPC := Lib.hid (rPieces_eq ha hd.idx hm)
  have HPN := Lib.hid (show (piecesM rs).length ≤ 400 from Nat.le_trans (pgo_len rs) (Nat.le_trans (tot_len hd.idx) ht))
  clear hd hin ha hm ht
  go_enter Try.func20, Try.ntmps20
  go_wp2_with fail
  refine (text_P d v rs w HT5.out HD.out).mono ?_
  rintro e w1 ⟨rfl, hb⟩
  have HB1 := Lib.hid hb
  have HD1 := Lib.hid (HD.out.below hb)
  have HX1 := Lib.hid (HX.out.below hb)
  rw [HTX.out]
  obtain ⟨TX, hTX⟩ : ∃ TX : ByteArray, TX = ⟨(encs (refL l)).toArray⟩ := ⟨_, rfl⟩
  have HTE := Lib.hid hTX
  rw [← hTX]
  clear hb hTX
  go_wp2_with fail
  refine (rtext_any p c l w1 hll HX1.out HR.out).mono ?_
  rintro e w2 ⟨rfl, hb⟩
  rw [← HTE.out]
  have HB2 := Lib.hid (HB1.out.trans (hb.mono HB1.out.size))
  have HD2 := Lib.hid (HD1.out.below hb)
  have HX2 := Lib.hid (HX1.out.below hb)
  clear hb
  go_wp2_with fail
  refine (size_P d v rs w2 HD2.out).mono ?_
  rintro e w3 ⟨rfl, hb⟩
  rw [← HLE.out]
  have HB3 := Lib.hid (HB2.out.trans (hb.mono HB2.out.size))
  have HD3 := Lib.hid (HD2.out.below hb)
  have HX3 := Lib.hid (HX2.out.below hb)
  clear hb
  go_wp2_with fail
  refine (len_P d v rs w3 HD3.out).mono ?_
  rintro e w4 ⟨rfl, hb⟩
  have HB4 := Lib.hid (HB3.out.trans (hb.mono HB3.out.size))
  have HD4 := Lib.hid (HD3.out.below hb)
  have HX4 := Lib.hid (HX3.out.below hb)
  rw [← HLV.out]
  clear hb
  go_wp2_with fail
  refine (live_any p c l w4 hll HX4.out HR.out).mono ?_
  rintro e w5 ⟨v5, rfl, hr5, hb⟩
  obtain ⟨p5, c5, rfl, _, _, _, _⟩ := hr5.sl
  have HB5 := Lib.hid (HB4.out.trans (hb.mono HB4.out.size))
  have HD5 := Lib.hid (HD4.out.below hb)
  have HX5 := Lib.hid (HX4.out.below hb)
  clear hb hr5
  generalize (liveNd l).length = LL at *
  go_wp2_with fail
  refine (pieces_P d v rs w5 HT5.out HD5.out).mono ?_
  rintro e w6 ⟨v6, rfl, hr6, hb⟩
  obtain ⟨p6, c6, rfl, _, _, hi6, _⟩ := hr6.sl
  have HB6 := Lib.hid (HB5.out.trans (hb.mono HB5.out.size))
  have HX6 := Lib.hid (HX5.out.below hb)
  have HI6 := Lib.hid hi6
  clear hb hr6 hi6
  go_wp2_with fail
  refine (rpieces_any p c l w6 hll HX6.out HR.out HIX.out).mono ?_
  rintro e w7 ⟨v7, rfl, hr7, hb⟩
  rw [HPC.out] at hr7
  obtain ⟨p7, c7, rfl, _, _, hi7, _⟩ := hr7.sl
  have HB7 := Lib.hid (HB6.out.trans (hb.mono HB6.out.size))
  have HJ7 := Lib.hid hi7
  have HI7 := Lib.hid (HI6.out.below hb)
  obtain ⟨O, hO⟩ : ∃ O, O = piecesM rs := ⟨_, rfl⟩
  rw [← hO] at HPN HJ7 HI7 ⊢
  have hx6 := HPN.out
  clear hb hr7 hi7 hO
  go_wp2_with fail
  go_loopg [7] O.length (fun g u wr => ∃ k : Nat, g + k = O.length ∧ u = .int .i64 k ∧ Below w7.heap.size w7 wr)
  case atStart => exact ⟨0, by omega, rfl, Below.refl _ _⟩
  case round =>
    obtain ⟨k, hg, rfl, hwr⟩ := hrel
    have HG := Lib.hid hg
    have HWR := Lib.hid hwr
    clear hg hwr
    by_cases hk : k < O.length
    · have HK := Lib.hid hk
      have i1 : (k : Int) < O.length := by omega
      have hq1 : O[k]? = some O[k] := List.getElem?_eq_getElem hk
      rcases (HI7.out.below HWR.out).2 with h | ⟨b1, o1, rfl, hl1, hc1⟩
      · rw [h] at hk; simp at hk
      rcases (HJ7.out.below HWR.out).2 with h | ⟨b2, o2, rfl, hl2, hc2⟩
      · rw [h] at hk; simp at hk
      have a1 := hc1 k _ hq1
      have a2 := hc2 k _ hq1
      have h32 : O[k].1.2.1.length = 32 := HI7.out.1 _ (List.getElem_mem hk)
      generalize O[k] = P at *
      rw [show pieceR.sz = 36 from rfl] at a1 a2
      have f1 : fits wr ⟨b1, o1 + k * 36, none⟩ 36 := a1.1
      have f2 : aggAt wr ⟨b1, o1 + k * 36, none⟩ 36 = pieceB P := by
        have h3 : (aggAt wr ⟨b1, o1 + k * 36, none⟩ 36) = (pieceR.enc P).toArray := a1.2
        rw [h3]; show (pieceB P).toList.toArray = _; simp
      obtain ⟨⟨g1, g2⟩, g3, g4⟩ := piece_at h32 a2
      have HPB := Lib.hid (show keyB P.1.1 P.1.2.1 P.1.2.2 ++ #[.int .i64 P.2.1, .string (strB P.2.2)] = pieceB P from rfl)
      have e5 := HPB.out
      have e6 := keyOk_mk P.1.1 P.1.2.1 P.1.2.2 h32
      clear a1 a2 hc1 hc2 hq1
      go_wp2_with fail
      refine wp_region_over (by kernel_rfl) (by kernel_rfl) ?_
      repeat (go_big_quiet_step (fail))
      refine wpQuiet_nil ?_
      rintro _ ⟨x0, rfl⟩
      have HWZ := Lib.hid (HWR.out.trans ((ov_below wr x0).mono HWR.out.size))
      clear f1 f2 g1 g2 g3 g4 e5 e6
      go_wp2
      go_roundg (gk - 1)
      case measure => have := HG.out; have := HK.out; omega
      case rel => exact ⟨k + 1, by have := HG.out; have := HK.out; omega, by go_num, HWZ.out⟩
    · have i1 : ¬ (k : Int) < O.length := by omega
      go_wp2
      go_ret
      exact ⟨rfl, HB7.out.trans (HWR.out.mono HB7.out.size)⟩
end Go.Proofs.Ytcgioboiebanpaa

namespace Go.Proofs.Ytcgioboiebanpaa
open Go.RowKit
set_option linter.unusedVariables false

noncomputable def rplay (l : List Nd) (x : AV) : List Nd :=
  if kd x = 0 ∨ kd x = 1 then rinsL l x.2.1 x.2.2.1 (decide (kd x = 1)) x.2.2.2.1.data.toList else if kd x = 2 then rdelL l x.2.1 x.2.2.2.2 else l
theorem play_alike {l : List Nd} {rs : List MR} (h : Alike l rs) (hx : ∀ r ∈ rs, idxOk r) (hl : l.length ≤ 1000000) {x : AV} (hr : actRng x) : Alike (rplay l x) (actM rs x) := by
  unfold rplay actM
  split
  · exact ins_alike h hx hr.ai _ _
  · split
    · exact del_alike h hx hl hr.ki _
    · exact h
theorem rplay_len (l : List Nd) (x : AV) : (rplay l x).length ≤ l.length + x.2.2.2.1.size := by
  have hs : x.2.2.2.1.data.toList.length = x.2.2.2.1.size := Array.length_toList
  unfold rplay
  split
  · have := rinsL_len l x.2.1 x.2.2.1 (decide (kd x = 1)) x.2.2.2.1.data.toList
    omega
  · split
    · rw [rdelL_len]; omega
    · omega
/-- Blocks of other types are kept by what is done to a document. -/
theorem DocP.keepT {w w' : World} {d : Nat} {v v' : Value} {rs : List MR} (h : DocP w d v rs) (hs : Step d v v' w w') {t : TypeId} (h1 : t ≠ 66) (h2 : t ≠ 70) {g : Nat} {cur : Array Value} (hg : w.heap[g]? = some (.cells cur t (0, 0))) : w'.heap[g]? = w.heap[g]? := by
  obtain ⟨zs, hd, rfl, _⟩ := h
  refine hs.block g (Array.getElem?_eq_some_iff.1 hg).1 ?_ ?_
  · rintro rfl
    rw [hd.cells] at hg
    cases hg
    exact h1 rfl
  · intro e
    obtain ⟨_, cur', he⟩ := row_own hd.row e
    rw [he] at hg
    cases hg
    exact h2 rfl
theorem RD.keep {w w' : World} {d : Nat} {v v' u : Value} {rs : List MR} {l : List Nd} (h : RD w u l) (hd : DocP w d v rs) (hs : Step d v v' w w') : RD w' u l := by
  obtain ⟨⟨a, c, rfl, h1, h2, h3, h4⟩, hb⟩ := h
  have hk : ∀ b o, a = some ⟨b, o, none⟩ → w'.heap[b]? = w.heap[b]? := fun b o e => by
    obtain ⟨cur, hc⟩ := hb b (by rw [e]; rfl)
    exact hd.keepT hs (by decide) (by decide) hc
  refine ⟨⟨a, c, rfl, h1, h2, ⟨h3.1, ?_⟩, h4⟩, fun g hg => ?_⟩
  · rcases h3.2 with h | ⟨b, off, ha, hlt, hc⟩
    · exact .inl h
    · refine .inr ⟨b, off, ha, Nat.lt_of_lt_of_le hlt hs.size, fun i x hx => ?_⟩
      obtain ⟨f1, f2⟩ := hc i x hx
      exact ⟨fits_of_block (a := ⟨b, off + i * nodeR.sz, none⟩) (hk b off ha) f1, (aggAt_of_block (a := ⟨b, off + i * nodeR.sz, none⟩) (hk b off ha)).trans f2⟩
  · obtain ⟨cur, hc⟩ := hb g hg
    exact ⟨cur, (hd.keepT hs (by decide) (by decide) hc).trans hc⟩
theorem cell_same {w w' : World} {b o : Nat} (e : w'.heap[b]? = w.heap[b]?) : w'.cell? ⟨b, o, none⟩ = w.cell? ⟨b, o, none⟩ := by unfold World.cell?; simp only [e]
theorem ActAt.same {w w' : World} {b o : Nat} {x : AV} (h : ActAt w b o x) (e : w'.heap[b]? = w.heap[b]?) : ActAt w' b o x :=
  ⟨(cell_same e).trans h.kind, fits_of_block (a := ⟨b, o + 1, none⟩) e h.kf, (aggAt_of_block (a := ⟨b, o + 1, none⟩) e).trans h.ka, fits_of_block (a := ⟨b, o + 35, none⟩) e h.af, (aggAt_of_block (a := ⟨b, o + 35, none⟩) e).trans h.aa, (cell_same e).trans h.text, (cell_same e).trans h.n⟩
theorem rAt32 {w : World} {p : Option Addr} {l : List Nd} (h : nodeR.In w p l) (n : Int) : (rAt (liveNd l) n).1.2.1.length = 32 := by
  unfold rAt
  split
  · rfl
  · rename_i ho
    have hm : n.toNat < (liveNd l).length := by omega
    have hx : (liveNd l).getD n.toNat nd0 ∈ liveNd l := by simp [List.getD_eq_getElem?_getD, hm]
    unfold liveNd at hx
    obtain ⟨i, hi, he⟩ := List.mem_map.1 hx
    have hil := ordN_lt (List.mem_filter.1 hi).1
    have : l.getD i nd0 ∈ l := by simp [List.getD_eq_getElem?_getD, hil]
    have h2 := h.1 _ this
    rw [he] at h2
    exact h2
set_option maxHeartbeats 16000000 in
set_option maxRecDepth 100000 in
theorem played_any (d : Nat) (v : Value) (rs : List MR) (p : Option Addr) (c : Nat) (l : List Nd) (x : AV) (w : World) (hx : actRng x) (hs : x.2.2.2.1.size ≤ 20) (ht : tot rs ≤ 400) (h : DocP w d v rs) (ha : Alike l rs) (hv : RD w (.slice p l.length c) l) :
    Calls Try.prog 19 #[.pointer (some ⟨d, 0, none⟩), .slice p l.length c, .agg (actL x).toArray] w fun e w' =>
      ∃ u v', e = .returned (.tuple #[u, .bool true]) ∧ RD w' u (rplay l x) ∧ DocP w' d v' (actM rs x) ∧ Step d v v' w w' := by
  have HBX := Lib.hid (ActAt.box w x hx.k32 hx.a32)
  obtain ⟨W, hW⟩ : ∃ W, W = w.alloc (.cells (actL x).toArray 28) := ⟨_, rfl⟩
  obtain ⟨b, hb⟩ : ∃ b, b = w.heap.size := ⟨_, rfl⟩
  have hbw : Below w.heap.size w W := by rw [hW]; exact (Below.refl _ _).alloc (Nat.le_refl _) _
  have HH := Lib.hid (show W.heap[b]? = some (.cells (actL x).toArray 28 (0, 0)) by rw [hW, hb]; exact (MapKept.heap_alloc w _).1)
  have HBW := Lib.hid (Step.of_below (d := d) (v := v) hbw)
  have HD := Lib.hid (h.below hbw)
  have HRD := Lib.hid (hv.below hbw)
  have hll : l.length ≤ 1000 := by have := ha.len; omega
  rw [← hW, ← hb] at HBX
  have HXR := Lib.hid hx
  have HSZ := Lib.hid (show x.2.2.2.1.size ≤ 1000 by omega)
  have HT := Lib.hid (show tot rs ≤ 5000 by omega)
  have HAL := Lib.hid ha
  have HIX := Lib.hid h.idx
  have HLM := Lib.hid (show liveM rs ≤ 100000 by have := liveM_tot rs; omega)
  obtain ⟨xk, ⟨kt, kc, ki⟩, ⟨at_, ac, ai⟩, s, n⟩ := x
  obtain ⟨z1, z2, z3, z4, z5⟩ := kd_wrap xk
  have HKD := Lib.hid (show kd (xk, (kt, kc, ki), (at_, ac, ai), s, n) = Int.tmod (Int.tmod xk 5 + 5) 5 from rfl)
  have HZ45 := Lib.hid (And.intro z4 z5)
  have HRI := Lib.hid (fun first => rinsE_eq ha h.idx (k := (kt, kc, ki)) (a := (at_, ac, ai)) hx.ai first s.data.toList)
  have HRDE := Lib.hid (rdelE_eq ha h.idx (by omega) (k := (kt, kc, ki)) hx.ki n)
  have HRF := Lib.hid (rFind_eq ha h.idx (k := (kt, kc, ki)) hx.ki)
  have HRA := Lib.hid (rAt_eq ha h.idx HLM.out (n := n) hx.n)
  have HR32 := Lib.hid (show (atM rs n).1.2.1.length = 32 by rw [← HRA.out]; obtain ⟨⟨a_, c_, he_, _, _, hin, _⟩, _⟩ := hv; exact rAt32 hin n)
  have e0 := HBX.out.kind
  have f1 := HBX.out.kf
  have f2 := HBX.out.ka
  have f3 := HBX.out.af
  have f4 := HBX.out.aa
  have f5 := HBX.out.text
  have f6 := HBX.out.n
  simp only [Nat.zero_add] at e0 f1 f2 f3 f4 f5 f6
  clear hx hs ht h hbw z4 z5 ha hv
  have HIN := Lib.hid (show ∀ w', RD w' (.slice p l.length c) l → nodeR.In w' p l from fun w' h => by
    obtain ⟨⟨a_, c_, he_, _, _, hin, _⟩, _⟩ := h
    injection he_ with e1 _ _
    subst e1
    exact hin)
  go_enter Try.func19, Try.ntmps19
  go_upto_region 1 with fail
  rw [← hW, ← hb]
  clear hW hb
  by_cases c2 : Int.tmod (Int.tmod xk 5 + 5) 5 = 2
  · have HA := Lib.hid (show actM rs (xk, (kt, kc, ki), (at_, ac, ai), s, n) = delR rs (kt, kc, ki) n by unfold actM; rw [HKD.out, if_neg (by omega), if_pos c2])
    have HP := Lib.hid (show rplay l (xk, (kt, kc, ki), (at_, ac, ai), s, n) = rdelL l (kt, kc, ki) n by unfold rplay; rw [HKD.out, if_neg (by omega), if_pos c2])
    go_wp2_with fail
    refine (delete_P d v rs (kt, kc, ki) n W HXR.out.k32 HT.out HD.out).mono ?_
    rintro e w3 ⟨rfl, v3, h3, h4⟩
    have HD3 := Lib.hid h3
    have HS3 := Lib.hid (HBW.out.trans h4)
    have HRD3 := Lib.hid (HRD.out.keep HD.out h4)
    have hbox := HBX.out.same (HD.out.keepT h4 (by decide) (by decide) HH.out)
    clear h3 h4 e0 f1 f2 f3 f4 f5 f6
    have f1 := hbox.kf
    have f2 := hbox.ka
    have f6 := hbox.n
    simp only [Nat.zero_add] at f1 f2 f6
    clear hbox
    go_wp2_with fail
    refine (rdelete_any p c l (kt, kc, ki) n w3 HXR.out.k32 hll HRD3.out HAL.out.right).mono ?_
    rintro e w4 ⟨u, rfl, hu, hb4⟩
    rw [HRDE.out]
    have HU := Lib.hid hu
    have HD4 := Lib.hid (HD3.out.below hb4)
    have HS4 := Lib.hid (HS3.out.trans (Step.of_below hb4))
    clear hu hb4 f1 f2 f6
    go_wp2
    go_ret2
    exact ⟨u, _, rfl, by rw [HP.out]; exact HU.out, by rw [HA.out]; exact HD4.out, HS4.out⟩
  by_cases c3 : Int.tmod (Int.tmod xk 5 + 5) 5 = 3
  · have HA := Lib.hid (show actM rs (xk, (kt, kc, ki), (at_, ac, ai), s, n) = rs by unfold actM; rw [HKD.out, if_neg (by omega), if_neg c2])
    have HP := Lib.hid (show rplay l (xk, (kt, kc, ki), (at_, ac, ai), s, n) = l by unfold rplay; rw [HKD.out, if_neg (by omega), if_neg c2])
    go_wp2_with fail
    refine (find_P d v rs (kt, kc, ki) W HXR.out.k32 HT.out HD.out).mono ?_
    rintro e w3 ⟨rfl, hb3⟩
    have HB3 := Lib.hid hb3
    have HRD3 := Lib.hid (HRD.out.below hb3)
    have hbox := HBX.out.below hb3
    clear hb3 e0 f1 f2 f3 f4 f5 f6
    have f1 := hbox.kf
    have f2 := hbox.ka
    simp only [Nat.zero_add] at f1 f2
    clear hbox
    go_wp2_with fail
    refine (rfind_any p c l (kt, kc, ki) w3 HXR.out.k32 hll (HIN.out _ HRD3.out) HAL.out.right).mono ?_
    rintro e w4 ⟨rfl, hb4⟩
    rw [HRF.out]
    have HB4 := Lib.hid (HB3.out.trans (hb4.mono HB3.out.size))
    have HRD4 := Lib.hid (HRD3.out.below hb4)
    have HD4 := Lib.hid (HD.out.below HB4.out)
    generalize FindM rs (kt, kc, ki) = FF at *
    obtain ⟨F1, F2, F3⟩ := FF
    clear hb4 f1 f2
    go_wp2
    go_ret2
    exact ⟨_, v, rfl, by rw [HP.out]; exact HRD4.out, by rw [HA.out]; exact HD4.out, HBW.out.trans (Step.of_below HB4.out)⟩
  by_cases c4 : Int.tmod (Int.tmod xk 5 + 5) 5 = 4
  · have HA := Lib.hid (show actM rs (xk, (kt, kc, ki), (at_, ac, ai), s, n) = rs by unfold actM; rw [HKD.out, if_neg (by omega), if_neg c2])
    have HP := Lib.hid (show rplay l (xk, (kt, kc, ki), (at_, ac, ai), s, n) = l by unfold rplay; rw [HKD.out, if_neg (by omega), if_neg c2])
    go_wp2_with fail
    refine (at_P d v rs n W HT.out HD.out).mono ?_
    rintro e w3 ⟨rfl, hb3⟩
    have HB3 := Lib.hid hb3
    have HRD3 := Lib.hid (HRD.out.below hb3)
    have HBX3 := Lib.hid (HBX.out.below hb3)
    clear hb3 e0 f1 f2 f3 f4 f5 f6
    have HRA2 := Lib.hid HRA.out
    generalize atM rs n = AA at *
    obtain ⟨⟨at1, ac1, ai1⟩, ae⟩ := AA
    simp only at HR32 ⊢
    go_upto_region 17 with (refine wpList_store_blk 26 34 (by kernel_rfl) rfl _ _ rfl w3.heap.size (keyB at1 ac1 ai1) (by rw [keyB_size, HR32.out]) (key_one _ _ _) rfl rfl _ (MapKept.heap_alloc w3 _).1 (by rfl) ?_)
    intro w4 s1 s2 s3
    have hb2 : Below w3.heap.size w3 w4 := ((Below.refl w3.heap.size w3).alloc (Nat.le_refl _) _).trans ⟨s3.os, s3.tape, s3.output, s3.size, fun j hj => s3.block j (by simp; omega) (by simp; omega)⟩
    have HB4 := Lib.hid (HB3.out.trans (hb2.mono HB3.out.size))
    have HRD4 := Lib.hid (HRD3.out.below hb2)
    have hbox := HBX3.out.below hb2
    obtain ⟨b4, hb4⟩ : ∃ b4, b4 = w3.heap.size := ⟨_, rfl⟩
    rw [← hb4] at s1 ⊢
    have HK4 := Lib.hid (show KeyAt w4 b4 at1 ac1 ai1 from s1)
    have f6 := hbox.n
    simp only [Nat.zero_add] at f6
    clear s1 s2 s3 hb2 hb4 hbox
    go_wp2_with fail
    refine (rat_any p c l n w4 hll (HIN.out _ HRD4.out) HAL.out.right).mono ?_
    rintro e w5 ⟨rfl, hb5⟩
    rw [HRA2.out]
    simp only
    have HB5 := Lib.hid (HB4.out.trans (hb5.mono HB4.out.size))
    have HRD5 := Lib.hid (HRD4.out.below hb5)
    have HK5 := Lib.hid (KeyAt.below HK4.out hb5)
    clear hb5 f6
    go_upto_region 18 with (refine wpList_store_blk 26 34 (by kernel_rfl) rfl _ _ rfl w5.heap.size (keyB at1 ac1 ai1) (by rw [keyB_size, HR32.out]) (key_one _ _ _) rfl rfl _ (MapKept.heap_alloc w5 _).1 (by rfl) ?_)
    intro w6 s1 s2 s3
    have hb2 : Below w5.heap.size w5 w6 := ((Below.refl w5.heap.size w5).alloc (Nat.le_refl _) _).trans ⟨s3.os, s3.tape, s3.output, s3.size, fun j hj => s3.block j (by simp; omega) (by simp; omega)⟩
    have HB6 := Lib.hid (HB5.out.trans (hb2.mono HB5.out.size))
    have HRD6 := Lib.hid (HRD5.out.below hb2)
    have HD6 := Lib.hid (HD.out.below HB6.out)
    obtain ⟨b6, hb6⟩ : ∃ b6, b6 = w5.heap.size := ⟨_, rfl⟩
    rw [← hb6] at s1 ⊢
    have g1 := KeyAt.fits0 (show KeyAt w6 b6 at1 ac1 ai1 from s1) HR32.out
    have g2 := KeyAt.agg0 (show KeyAt w6 b6 at1 ac1 ai1 from s1) HR32.out
    have g3 := KeyAt.fits0 (KeyAt.below HK5.out hb2) HR32.out
    have g4 := KeyAt.agg0 (KeyAt.below HK5.out hb2) HR32.out
    have h32 := HR32.out
    have hke : keyEq at1 ac1 ai1 at1 ac1 ai1 = true := (keyEq_iff (a := (at1, ac1, ai1)) (b := (at1, ac1, ai1))).2 rfl
    clear s1 s2 s3 hb2 hb6
    go_wp2
    go_ret2
    exact ⟨_, v, rfl, by rw [HP.out]; exact HRD6.out, by rw [HA.out]; exact HD6.out, HBW.out.trans (Step.of_below HB6.out)⟩
  have c01 : Int.tmod (Int.tmod xk 5 + 5) 5 = 0 ∨ Int.tmod (Int.tmod xk 5 + 5) 5 = 1 := by have := HZ45.out; omega
  obtain ⟨first, hfirst⟩ : ∃ first, first = decide (Int.tmod (Int.tmod xk 5 + 5) 5 = 1) := ⟨_, rfl⟩
  have HA := Lib.hid (show actM rs (xk, (kt, kc, ki), (at_, ac, ai), s, n) = insL rs (kt, kc, ki) (at_, ac, ai) first s.data.toList by unfold actM; rw [HKD.out, if_pos c01, hfirst])
  have HP := Lib.hid (show rplay l (xk, (kt, kc, ki), (at_, ac, ai), s, n) = rinsL l (kt, kc, ki) (at_, ac, ai) first s.data.toList by unfold rplay; rw [HKD.out, if_pos c01, hfirst])
  have tail : ∀ w3 : World, True := fun _ => trivial
  rcases c01 with c0 | c1
  · have hff : first = false := by rw [hfirst, decide_eq_false (by omega)]
    subst hff
    clear hfirst c2 c3 c4
    go_wp2_with fail
    refine (insert_P d v rs (kt, kc, ki) (at_, ac, ai) false s W HXR.out.k32 HXR.out.a32 HSZ.out HT.out HD.out).mono ?_
    rintro e w3 ⟨rfl, v3, h3, h4⟩
    have HD3 := Lib.hid h3
    have HS3 := Lib.hid (HBW.out.trans h4)
    have HRD3 := Lib.hid (HRD.out.keep HD.out h4)
    have hbox := HBX.out.same (HD.out.keepT h4 (by decide) (by decide) HH.out)
    clear h3 h4 e0 f1 f2 f3 f4 f5 f6
    have f1 := hbox.kf
    have f2 := hbox.ka
    have f3 := hbox.af
    have f4 := hbox.aa
    have f5 := hbox.text
    simp only [Nat.zero_add] at f1 f2 f3 f4 f5
    clear hbox
    go_wp2_with fail
    refine (rinsert_any p c l (kt, kc, ki) (at_, ac, ai) false s w3 HXR.out.k32 HXR.out.a32 HSZ.out hll HRD3.out).mono ?_
    rintro e w4 ⟨u, rfl, hu, hb4⟩
    rw [HRI.out]
    have HU := Lib.hid hu
    have HD4 := Lib.hid (HD3.out.below hb4)
    have HS4 := Lib.hid (HS3.out.trans (Step.of_below hb4))
    clear hu hb4 f1 f2 f3 f4 f5
    go_wp2
    go_ret2
    exact ⟨u, _, rfl, by rw [HP.out]; exact HU.out, by rw [HA.out]; exact HD4.out, HS4.out⟩
  · have hff : first = true := by rw [hfirst, decide_eq_true c1]
    subst hff
    clear hfirst c2 c3 c4
    go_wp2_with fail
    refine (insert_P d v rs (kt, kc, ki) (at_, ac, ai) true s W HXR.out.k32 HXR.out.a32 HSZ.out HT.out HD.out).mono ?_
    rintro e w3 ⟨rfl, v3, h3, h4⟩
    have HD3 := Lib.hid h3
    have HS3 := Lib.hid (HBW.out.trans h4)
    have HRD3 := Lib.hid (HRD.out.keep HD.out h4)
    have hbox := HBX.out.same (HD.out.keepT h4 (by decide) (by decide) HH.out)
    clear h3 h4 e0 f1 f2 f3 f4 f5 f6
    have f1 := hbox.kf
    have f2 := hbox.ka
    have f3 := hbox.af
    have f4 := hbox.aa
    have f5 := hbox.text
    simp only [Nat.zero_add] at f1 f2 f3 f4 f5
    clear hbox
    go_wp2_with fail
    refine (rinsert_any p c l (kt, kc, ki) (at_, ac, ai) true s w3 HXR.out.k32 HXR.out.a32 HSZ.out hll HRD3.out).mono ?_
    rintro e w4 ⟨u, rfl, hu, hb4⟩
    rw [HRI.out]
    have HU := Lib.hid hu
    have HD4 := Lib.hid (HD3.out.below hb4)
    have HS4 := Lib.hid (HS3.out.trans (Step.of_below hb4))
    clear hu hb4 f1 f2 f3 f4 f5
    go_wp2
    go_ret2
    exact ⟨u, _, rfl, by rw [HP.out]; exact HU.out, by rw [HA.out]; exact HD4.out, HS4.out⟩
end Go.Proofs.Ytcgioboiebanpaa

namespace Go.Proofs.Ytcgioboiebanpaa
open Go.RowKit Go.Maps Go.WideShapes Go.ChangeShapes Go.Deep
set_option linter.unusedVariables false

@[go_sem ↓] theorem load28p (f : Operand → Value) (x : Operand) (dst : Option Tmp) (ty' : TypeId) (pos : String) (after : Array Edge) (guard : Option (Nat × Bool)) (w : World)
    (hp : isPtr (f x) = true) (hf : fits w (addrOf (f x)) 71) :
    (execOp f ⟨dst, .load 28 x, ty', pos, after, guard⟩).run Try.prog w = .ok (.value (.agg (aggAt w (addrOf (f x)) 71))) w :=
  run_exec_load Try.underlying28 rfl (by kernel_rfl) f x dst ty' pos after guard w hp hf
theorem alike_nil : Alike [] [] where
  right := ⟨fun i hi => by simp at hi, fun i j _ hj => by simp at hj⟩
  same := by
    have h := view_perm (l := []) ⟨fun i hi => by simp at hi, fun i j _ hj => by simp at hj⟩
    simpa [flat] using h
set_option maxHeartbeats 8000000 in
set_option maxRecDepth 100000 in
theorem lawPlays_any (p : Option Addr) (c1 : Nat) (xs : List AV) (w : World) (hp : actQ.In w p xs) : Calls Try.prog 5 #[.slice p xs.length c1] w fun e w' => e = .returned (.bool true) ∧ Below w.heap.size w w' := by
  have HP := Lib.hid hp
  clear hp
  go_enter Try.func5, Try.ntmps5
  go_wp2_with fail
  refine (light_any p c1 xs 20 w (by decide) (actQ.r HP.out)).mono ?_
  rintro e w1 ⟨rfl, hb⟩
  have HB1 := Lib.hid hb
  clear hb
  cases hlx : lightL xs 20 with
  | false =>
    go_wp2
    go_ret
    exact ⟨rfl, HB1.out⟩
  | true =>
  have HLX := Lib.hid (light_iff xs hlx)
  clear hlx
  go_wp2_with fail
  refine (new_P w1).mono ?_
  rintro e w2 ⟨rfl, hd, hb⟩
  have HB2 := Lib.hid (HB1.out.trans (hb.mono HB1.out.size))
  obtain ⟨d, hdd⟩ : ∃ d, d = w1.heap.size := ⟨_, rfl⟩
  rw [← hdd] at hd ⊢
  have HD2 := Lib.hid hd
  have HL := Lib.hid (show w.heap.size ≤ d by rw [hdd]; exact HB1.out.size)
  have hx6 : xs.length ≤ 20 := HLX.out.1
  clear hd hb hdd
  go_wp2_with fail
  go_loopg [4, 5] xs.length (fun g v4 v5 wr => ∃ (k ln cr : Nat) (pr : Option Addr) (v : Value) (N : List Nd) (M : List MR), g + k = xs.length ∧ v5 = .int .i64 k ∧ v4 = .slice pr ln cr ∧ ln = N.length ∧ RD wr (.slice pr ln cr) N ∧ DocP wr d v M ∧ Alike N M ∧ mayF M ∧ tot M ≤ 20 * k ∧ Below w.heap.size w wr)
  case atStart => exact ⟨0, 0, 0, none, _, [], [], by omega, rfl, rfl, rfl, ⟨⟨none, 0, rfl, by simp, by unfold maxLen; omega, ⟨by simp, .inl rfl⟩, fun _ => ⟨rfl, rfl⟩⟩, fun g hg => by cases hg⟩, HD2.out, alike_nil, by intro e he; simp [flat] at he, by simp [tot], HB2.out⟩
  case round =>
    obtain ⟨k, ln, cr, pr, v, N, M, hg, rfl, rfl, hln, hrd, hd, hal, hmy, htot, hbw⟩ := hrel
    have HG := Lib.hid hg
    have HLN := Lib.hid hln
    have HRD := Lib.hid hrd
    have HD := Lib.hid hd
    have HAL := Lib.hid hal
    have HMY := Lib.hid hmy
    have HTOT := Lib.hid htot
    have HB := Lib.hid hbw
    clear hg hrd hd hal hmy htot hbw
    by_cases hk : k < xs.length
    · have HK := Lib.hid hk
      have i1 : (k : Int) < xs.length := by omega
      have hq1 : xs[k]? = some xs[k] := List.getElem?_eq_getElem hk
      rcases (HP.out.below HB.out).2 with h | ⟨b1, o1, rfl, hl1, hc1⟩
      · rw [h] at hk; simp at hk
      have a1 := hc1 k _ hq1
      have HXR := Lib.hid (show actRng xs[k] from HP.out.1 _ (List.getElem_mem hk))
      have HXS := Lib.hid (HLX.out.2 xs[k] (List.getElem_mem hk))
      have HT := Lib.hid (show tot M ≤ 400 by have := HTOT.out; omega)
      generalize xs[k] = x at *
      rw [show actQ.sz = 71 from rfl] at a1
      have f1 : fits wr ⟨b1, o1 + k * 71, none⟩ 71 := a1.1
      have f2 : aggAt wr ⟨b1, o1 + k * 71, none⟩ 71 = (actL x).toArray := a1.2
      have HPL := Lib.hid (played_any d v M pr cr N x wr HXR.out HXS.out HT.out HD.out HAL.out (by rw [← hln]; exact HRD.out))
      rw [← hln] at HPL
      clear a1 hc1 hq1 hln
      go_wp2_with fail
      clear f1 f2
      refine HPL.out.mono ?_
      rintro e w3 ⟨u, v3, rfl, hu, hd3, hs3⟩
      have HA3 := Lib.hid (play_alike HAL.out HD.out.idx (by have := HAL.out.len; have := HT.out; omega) HXR.out)
      have HM3 := Lib.hid (act_may HD.out.idx HXR.out HMY.out)
      have HT3 := Lib.hid (show tot (actM M x) ≤ 20 * (k + 1) by
        have h1 := (actM_facts HD.out.idx x).2
        have h2 := HXS.out
        have h3 := HTOT.out
        omega)
      have HB3 := Lib.hid (HB.out.trans (HD.out.step hs3 HL.out))
      have HU := Lib.hid hu
      have HD3 := Lib.hid hd3
      obtain ⟨⟨pu, cu, hue, _, _, hiu, _⟩, _⟩ := hu
      subst hue
      have HIU := Lib.hid hiu
      obtain ⟨N3, hN3⟩ : ∃ N3, N3 = rplay N x := ⟨_, rfl⟩
      obtain ⟨M3, hM3⟩ : ∃ M3, M3 = actM M x := ⟨_, rfl⟩
      rw [← hN3, ← hM3] at HA3
      rw [← hM3] at HM3 HT3 HD3
      rw [← hN3] at HU HIU ⊢
      have HSM := Lib.hid (same_any d v3 M3 pu cu N3 w3 (by have := HT3.out; omega) HD3.out HA3.out HM3.out HIU.out)
      obtain ⟨l3, hl3⟩ : ∃ l3, l3 = N3.length := ⟨_, rfl⟩
      rw [← hl3] at HU HSM ⊢
      have HL3 := Lib.hid hl3
      clear hiu hd3 hs3 hN3 hM3 hl3
      go_wp2_with fail
      refine HSM.out.mono ?_
      rintro e w4 ⟨rfl, hb4⟩
      have HB4 := Lib.hid (HB3.out.trans (hb4.mono HB3.out.size))
      have HU4 := Lib.hid (HU.out.below hb4)
      have HD4 := Lib.hid (HD3.out.below hb4)
      clear hb4
      go_wp2
      go_roundg (gk - 1)
      case measure => have := HG.out; have := HK.out; omega
      case rel => exact ⟨k + 1, l3, cu, pu, v3, N3, M3, by have := HG.out; have := HK.out; omega, by go_num, rfl, HL3.out, HU4.out, HD4.out, HA3.out, HM3.out, HT3.out, HB4.out⟩
    · have i1 : ¬ (k : Int) < xs.length := by omega
      go_wp2_with fail
      refine (awake_any wr).mono ?_
      rintro e w5 ⟨rfl, hb⟩
      have HB5 := Lib.hid (HB.out.trans (hb.mono HB.out.size))
      clear hb
      go_wp2
      go_ret
      exact ⟨rfl, HB5.out⟩
set_option maxRecDepth 100000 in
theorem blockPlays_walk {H : Type} {enc : TypeId × Value → H} {W : World} {b0 : Nat} {v1 : Value} {d1 : DataW H} {p1 : List MemPlace}
    (k1 : Value.okWide Try.prog W .any b0 22 v1) (h1 : DataW.Trod enc Try.prog W 0 (fun _ => true) true 22 v1 d1 p1) :
    Calls Try.prog 5 #[v1] W fun e w' => e = .returned (.bool true) ∧ Below W.heap.size W w' := by
  obtain ⟨xs, p, c, rfl, _, _, hi, _⟩ := reads_acts h1 (okWide_slice Try.underlying22 k1)
  exact lawPlays_any p c xs W hi
end Go.Proofs.Ytcgioboiebanpaa
