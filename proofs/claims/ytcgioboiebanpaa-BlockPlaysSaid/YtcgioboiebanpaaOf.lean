/- Pieces' walk. -/
import Derived.Test.YtcgioboiebanpaaOe
namespace Go.Proofs.Ytcgioboiebanpaa
open Go.RowKit Go.Maps
set_option linter.unusedVariables false

theorem piece_n (k : KV) (n n' : Int) (s : List UInt8) (h : k.2.1.length = 32) : pieceR.enc (k, n', s) = (pieceR.enc (k, n, s)).set 34 (.int .i64 n') := by
  show (pieceB _).toList = (pieceB _).toList.set 34 _
  rw [pieceB_list, pieceB_list]
  have hk : (keyB k.1 k.2.1 k.2.2).toList.length = 34 := by rw [Array.length_toList, keyB_size, h]
  rw [List.set_append_right _ _ (by simp only; omega)]
  simp only [hk]
  rfl
theorem piece_s (k : KV) (n : Int) (s s' : List UInt8) (h : k.2.1.length = 32) : pieceR.enc (k, n, s') = (pieceR.enc (k, n, s)).set 35 (.string (strB s')) := by
  show (pieceB _).toList = (pieceB _).toList.set 35 _
  rw [pieceB_list, pieceB_list]
  have hk : (keyB k.1 k.2.1 k.2.2).toList.length = 34 := by rw [Array.length_toList, keyB_size, h]
  rw [List.set_append_right _ _ (by simp only; omega)]
  simp only [hk]
  rfl
/-- The last piece, with both its cells written. -/
theorem row_last {base g m cap : Nat} {O' : List PV} {k : KV} {n n' : Int} {s s' : List UInt8} {Y Z : World} {cur : Array Value} (hm : m = O'.length) (hk : k.2.1.length = 32)
    (h : pieceR.row 41 base (O' ++ [(k, n, s)]) (.slice (some ⟨g, 0, none⟩) (m + 1) cap) Y) (hc : Y.heap[g]? = some (.cells cur 41 (0, 0)))
    (hz : Z.heap[g]? = some (.cells ((cur.setIfInBounds (m * 36 + 34) (.int .i64 n')).setIfInBounds (m * 36 + 35) (.string (strB s'))) 41 (0, 0))) :
    pieceR.row 41 base (O' ++ [(k, n', s')]) (.slice (some ⟨g, 0, none⟩) (m + 1) cap) Z := by
  subst hm
  have h1 := row_field (R := pieceR) (f := 34) (x := (k, n, s)) (x' := (k, n', s)) (k := O'.length) (by simp) hk (show 34 < 36 by decide) (piece_n k n n' s hk) h
  have h2 := row_field (R := pieceR) (f := 35) (x := (k, n', s)) (x' := (k, n', s')) (k := O'.length) (by simp) hk (show 35 < 36 by decide) (piece_s k n' s s' hk) h1.1
  simp only [show pieceR.sz = 36 from rfl] at h2
  have h3 := h2.1
  have e : ((O' ++ [(k, n, s)]).set O'.length (k, n', s)).set O'.length (k, n', s') = O' ++ [(k, n', s')] := by simp
  rw [e] at h3
  refine row_keep h3 fun g' hg => ?_
  cases hg
  rw [hz, heap_setCell_at (heap_setCell_at hc _)]
set_option maxHeartbeats 8000000 in
set_option maxRecDepth 100000 in
theorem pieces_doc (d : Nat) (v : Value) (zs : List ZR) (size live : Int) (w : World) (htot : tot (zs.map (·.2)) ≤ 10000) (hz : zs.length ≤ 10000) (h : Doc w d v zs size live) :
    Calls Try.prog 14 #[.pointer (some ⟨d, 0, none⟩)] w fun e w' => ∃ v', e = .returned v' ∧ pieceR.row 41 w.heap.size (piecesM (zs.map (·.2))) v' w' ∧ Below w.heap.size w w' := by
  obtain ⟨W, hW⟩ : ∃ W, W = w.alloc (.cells #[.slice none 0 0] 36) := ⟨_, rfl⟩
  obtain ⟨b3, hb3⟩ : ∃ b, b = w.heap.size := ⟨_, rfl⟩
  have hbW : Below w.heap.size w W := by rw [hW]; exact (Below.refl _ _).alloc (Nat.le_refl _) _
  have hH3 : W.heap[b3]? = some (.cells #[.slice none 0 0] 36 (0, 0)) := by rw [hW, hb3]; exact World.alloc_heap_new w _
  have hS : W.heap.size = b3 + 1 := by rw [hW, hb3]; simp
  have HBW := Lib.hid hbW
  have HH3 := Lib.hid hH3
  have HS := Lib.hid hS
  have HB3 := Lib.hid hb3
  have HD := Lib.hid (h.below hbW)
  have HTOT := Lib.hid htot
  obtain ⟨a, cap, hv, hin⟩ := HD.out.slice
  rw [List.length_map] at hv
  have HIN := Lib.hid hin
  obtain ⟨rs, hrs⟩ : ∃ rs, rs = zs.map (·.2) := ⟨_, rfl⟩
  rw [← hrs] at HTOT ⊢
  have HRS := Lib.hid hrs
  obtain ⟨L, hL⟩ : ∃ L, L = zs.length := ⟨_, rfl⟩
  have HL := Lib.hid hL
  have hL4 : L ≤ 10000 := by rw [hL]; exact hz
  rw [← hL] at hv
  have HV := Lib.hid hv
  have c0 : W.cell? ⟨d, 0, none⟩ = some (.slice a L cap) := by rw [Lib.cell_of_heap HD.out.cells, hv]; rfl
  clear h hbW hH3 hS htot hz hin hrs hL hv
  go_enter Try.func14, Try.ntmps14
  go_upto_region 4 with fail
  rw [← hW, ← hb3]
  clear hW hb3
  go_wp2_with fail
  clear c0
  go_loopg [5, 19] L (fun g v5 v19 wr => ∃ (j : Nat) (v1 : Value) (O : List PV) (br : Bool), g + j = L ∧ v5 = .bool br ∧ v19 = .int .i64 j ∧ pgo (rs.take j) = (O, br) ∧ wr.heap[b3]? = some (.cells #[v1] 36 (0, 0)) ∧ pieceR.row 41 W.heap.size O v1 wr ∧ Below b3 W wr ∧ Turns (fun k => k = b3 ∨ W.heap.size ≤ k) W wr)
  case atStart => exact ⟨0, _, [], true, by omega, rfl, rfl, rfl, HH3.out, .nil, Below.refl _ _, .refl _ _⟩
  case round =>
    obtain ⟨j, v1, O, br, hg, rfl, rfl, hpg, hh3, hrow, hbw, htn⟩ := hrel
    have HG := Lib.hid hg
    have HPG := Lib.hid hpg
    have HR3 := Lib.hid hh3
    have HROW := Lib.hid hrow
    have HBR := Lib.hid hbw
    have HTN := Lib.hid htn
    have HDR := Lib.hid (show Doc wr d v zs size live from HD.out.turns (E := fun k => k = b3) (htn.mono (fun k hk hl => hk.elim id (fun h => by omega))) (fun k hk => by
      subst hk
      refine ⟨fun e => ?_, fun e => ?_, fun cur hc => ?_⟩
      · have := HD.out.cells; rw [← e, HH3.out] at this; cases this
      · obtain ⟨_, cur, hc⟩ := row_own HD.out.row e; rw [HH3.out] at hc; cases hc
      · rw [HH3.out] at hc; cases hc))
    have hOl : O.length ≤ 10000 := by
      have h1 := pgo_len (rs.take j)
      rw [hpg, List.length_take] at h1
      simp only at h1
      omega
    have HOL := Lib.hid hOl
    have HOB := Lib.hid (show ∀ p ∈ O, pcB 10000 p from fun p hp => by
      have h1 := pgo_bd (rs.take j) p (by rw [hpg]; exact hp)
      have h2 := tot_take (rs := rs) j
      have := HTOT.out
      unfold pcB at *
      omega)
    clear hg hpg hh3 hrow hbw htn hOl
    by_cases hj : j < L
    · have hjz : j < zs.length := by have := HL.out; omega
      have i1 : (j : Int) < (L : Int) := by omega
      obtain ⟨a', cap', hv', hin'⟩ := HDR.out.slice
      rw [HV.out] at hv'
      injection hv' with q1 q2 q3
      rw [← q1] at hin'
      clear q1 q2 q3
      rcases hin'.2 with h | ⟨b, off, hab, hlt, hc⟩
      · rw [List.map_eq_nil_iff] at h; subst h; simp at hjz
      subst hab
      have hxx : (zs.map (·.1))[j]? = some zs[j].1 := by simp [hjz]
      have hrr : rs[j]? = some zs[j].2 := by rw [HRS.out]; simp [hjz]
      have hat := hc j _ hxx
      have HTL := Lib.hid (HDR.out.tells zs[j] (List.getElem_mem hjz))
      have HPS := Lib.hid (show pgo (rs.take (j + 1)) = pstep (O, br) zs[j].2 by
        rw [List.take_succ_eq_append_getElem (List.getElem?_eq_some_iff.1 hrr).1, pgo_snoc, HPG.out, (List.getElem?_eq_some_iff.1 hrr).2])
      have HRL := Lib.hid (show zs[j].2.2.1.length ≤ 10000 by have := len_le_tot (List.mem_of_getElem? hrr); have := HTOT.out; omega)
      generalize zs[j] = z at *
      obtain ⟨x, r⟩ := z
      simp only at hxx hat HTL HPS HRL
      have HX32 := Lib.hid (show x.1.2.1.length = 32 by rw [HTL.out.key]; exact HTL.out.k32)
      have e1 : fits wr ⟨b, off + j * 36, none⟩ 36 := hat.1
      have e2 : aggAt wr ⟨b, off + j * 36, none⟩ 36 = runB x := by
        have h3 : (aggAt wr ⟨b, off + j * 36, none⟩ 36) = (runR.enc x).toArray := hat.2
        rw [h3]; rfl
      have q7 : b < wr.heap.size := hlt
      clear hat hc hxx hrr hlt hin' hjz
      go_upto_region 9 with (refine wpList_store_blk 70 36 (by kernel_rfl) rfl _ _ rfl wr.heap.size (runB x) (runB_size x HX32.out) (run_one x) rfl rfl _ (MapKept.heap_alloc wr _).1 (by rfl) ?_)
      intro w2 s1 s2 s3
      have hw2 : Below wr.heap.size wr w2 := ((Below.refl wr.heap.size wr).alloc (Nat.le_refl _) _).trans ⟨s3.os, s3.tape, s3.output, s3.size, fun j hj => s3.block j (by simp; omega) (by simp; omega)⟩
      have HW2 := Lib.hid hw2
      have h3w := (Array.getElem?_eq_some_iff.1 HR3.out).1
      have hsz := HTN.out.size
      obtain ⟨b7, hb7⟩ : ∃ b, b = wr.heap.size := ⟨_, rfl⟩
      have HB7 := Lib.hid hb7
      rw [← hb7] at s1 ⊢
      have HS1 := Lib.hid s1
      have hra := RunAt.of HX32.out (blk_ld s1 (runB_size x HX32.out)).1 (blk_ld s1 (runB_size x HX32.out)).2
      have e3 := hra.d
      have e4 := hra.r
      rw [Nat.zero_add] at e3 e4
      rw [HTL.out.dead] at e3
      rw [HTL.out.len] at e4
      have HR32 := Lib.hid ((hw2.block b3 h3w).trans HR3.out)
      have HROW2 := Lib.hid (HROW.out.below hw2)
      have HBR2 := Lib.hid (show Below b3 W w2 from HBR.out.trans (hw2.mono (by omega)))
      have HTN2 := Lib.hid (show Turns (fun k => k = b3 ∨ W.heap.size ≤ k) W w2 from HTN.out.trans (Turns.of_below hw2 (fun _ => False)) (fun _ h _ => h.elim))
      have HRN := Lib.hid ((HTL.out.runes.keep (.of_below hw2)).ints)
      clear s1 s2 s3 e1 e2 q7 hb7 hw2 h3w hsz
      obtain ⟨dd, hdd⟩ : ∃ dd, dd = r.2.2 := ⟨_, rfl⟩
      rw [← hdd] at e3
      have HDD := Lib.hid hdd
      clear hdd
      cases dd with
      | true =>
        have HPT := Lib.hid (show pgo (rs.take (j + 1)) = (O, true) by rw [HPS.out]; unfold pstep; rw [if_pos HDD.out.symm])
        clear hra e4
        go_wp2
        go_roundg (gk - 1)
        case measure => have := HG.out; omega
        case rel => exact ⟨j + 1, v1, O, true, by have := HG.out; omega, rfl, by go_num, HPT.out, HR32.out, HROW2.out, HBR2.out, HTN2.out⟩
      | false =>
        have HTX := Lib.hid (show Calls Try.prog 29 #[.slice x.2.1.1 r.2.1.length x.2.1.2.2] w2 fun e w' => e = .returned (.tuple #[.string (strB (textL r.2.1)), .int .i64 (textE r.2.1)]) ∧ Below w2.heap.size w2 w' from
          text_any x.2.1.1 x.2.1.2.2 r.2.1 w2 (by have := HRL.out; omega) HRN.out)
        have HSL := Lib.hid (textL_len r.2.1)
        obtain ⟨S, hS⟩ : ∃ S, S = textL r.2.1 := ⟨_, rfl⟩
        rw [← hS] at HTX HSL
        have HSS := Lib.hid hS
        generalize textE r.2.1 = TE at *
        clear hS
        go_wp2_with fail
        refine HTX.out.mono ?_
        rintro e w3 ⟨rfl, hw3⟩
        have HW3 := Lib.hid hw3
        have hs3 := (hw3.block b7 (Array.getElem?_eq_some_iff.1 HS1.out).1).trans HS1.out
        have HS3 := Lib.hid hs3
        have HR33 := Lib.hid ((hw3.block b3 (Array.getElem?_eq_some_iff.1 HR32.out).1).trans HR32.out)
        have HROW3 := Lib.hid (HROW2.out.below hw3)
        obtain ⟨f1, f2⟩ := (RunAt.of HX32.out (blk_ld hs3 (runB_size x HX32.out)).1 (blk_ld hs3 (runB_size x HX32.out)).2).key HX32.out
        rw [HTL.out.key] at f2
        obtain ⟨B, hB⟩ : ∃ B : Bool, B = (!br && followsB O r.1) := ⟨_, rfl⟩
        have HBB := Lib.hid hB
        clear hB hw3 hs3 hra e3 e4
        go_upto_region 12 with fail
        go_cut [38] (fun v38 wx => v38 = .bool B ∧ Below w3.heap.size w3 wx)
        case first =>
          cases br with
          | true =>
            have HBF := Lib.hid (show B = false by rw [HBB.out]; rfl)
            clear f1 f2
            go_wp2_with fail
            go_meet
            exact ⟨by rw [HBF.out], Below.refl _ _⟩
          | false =>
            have HBF := Lib.hid (show followsB O r.1 = B by rw [HBB.out]; simp)
            have HFO := Lib.hid (follows_any W.heap.size b3 v1 O r.1 w3 HTL.out.k32 (by have := HOL.out; omega) HR33.out HROW3.out)
            rw [HBF.out] at HFO
            go_wp2_with fail
            refine HFO.out.mono ?_
            rintro e w4 ⟨rfl, hw4⟩
            have HW4 := Lib.hid hw4
            clear f1 f2 hw4
            go_wp2_with fail
            go_meet
            exact ⟨rfl, HW4.out⟩
        case rest =>
          obtain ⟨rfl, hby⟩ := hcut
          obtain ⟨Y, hY⟩ : ∃ Y, Y = wc := ⟨_, rfl⟩
          rw [← hY] at hby ⊢
          have hbz : Below w2.heap.size w2 Y := HW3.out.trans (hby.mono HW3.out.size)
          have HYS := Lib.hid ((hby.block b7 (Array.getElem?_eq_some_iff.1 HS3.out).1).trans HS3.out)
          have HY3 := Lib.hid ((hby.block b3 (Array.getElem?_eq_some_iff.1 HR33.out).1).trans HR33.out)
          have HYR := Lib.hid (HROW3.out.below hby)
          have HYB := Lib.hid (show Below b3 W Y from HBR2.out.trans (hbz.mono (by have := (Array.getElem?_eq_some_iff.1 HR32.out).1; omega)))
          have HYT := Lib.hid (show Turns (fun k => k = b3 ∨ W.heap.size ≤ k) W Y from HTN2.out.trans (Turns.of_below hbz (fun _ => False)) (fun _ h _ => h.elim))
          have HY7 := Lib.hid (show W.heap.size ≤ b7 ∧ b3 < b7 by have := HTN.out.size; have := HB7.out; have := HS.out; omega)
          have hra := RunAt.of HX32.out (blk_ld HYS.out (runB_size x HX32.out)).1 (blk_ld HYS.out (runB_size x HX32.out)).2
          have e4 := hra.r
          rw [Nat.zero_add, HTL.out.len] at e4
          obtain ⟨f1, f2⟩ := hra.key HX32.out
          rw [HTL.out.key] at f2
          clear hby hY hbz hra
          cases B with
          | false =>
            have HPT := Lib.hid (show pgo (rs.take (j + 1)) = (O ++ [(r.1, (r.2.1.length : Int), S)], false) by
              rw [HPS.out, HSS.out]; unfold pstep; rw [if_neg (by rw [← HDD.out]; simp), if_neg (by rw [← HBB.out]; simp)])
            have HK32 := Lib.hid HTL.out.k32
            obtain ⟨⟨rt, rc, ri⟩, rr, rd⟩ := r
            simp only at e4 f2 HPT HK32
            obtain ⟨NP, hNP⟩ : ∃ NP : PV, NP = ((rt, rc, ri), (rr.length : Int), S) := ⟨_, rfl⟩
            rw [← hNP] at HPT
            have HNB := Lib.hid (show keyB rt rc ri ++ #[.int .i64 (rr.length : Int), .string (strB S)] = pieceB NP by rw [hNP]; rfl)
            have HNK := Lib.hid (show NP.1.2.1.length = 32 by rw [hNP]; exact HK32.out)
            clear hNP
            have g1 := keyOk_mk rt rc ri HK32.out
            have g2 : pvOk (.agg (pieceB NP)) := ⟨NP, rfl, HNK.out⟩
            have g3 := HNB.out
            have c3 : Y.cell? ⟨b3, 0, none⟩ = some v1 := by rw [Lib.cell_of_heap HY3.out]; rfl
            have hA := Rec.In.one (R := pieceR) Y 41 NP HNK.out
            rw [show (pieceR.enc NP).toArray = pieceB NP by show (pieceB NP).toList.toArray = _; simp] at hA
            have HA := Lib.hid hA
            have hB1 := (Below.refl Y.heap.size Y).alloc (Nat.le_refl _) (.cells (pieceB NP) 41)
            have HB1 := Lib.hid hB1
            have HR1 := Lib.hid (HYR.out.below hB1)
            have HS1 := Lib.hid (show W.heap.size ≤ (Y.alloc (.cells (pieceB NP) 41)).heap.size by have := HYT.out.size; have := hB1.size; omega)
            have HLN := Lib.hid (show O.length + [NP].length ≤ 100000000 by have := HOL.out; simp; omega)
            have HY31 := Lib.hid ((hB1.block b3 (Array.getElem?_eq_some_iff.1 HY3.out).1).trans HY3.out)
            have HOWN := Lib.hid (show v1.ownBlock ≠ some b3 from fun e => by have := (row_own HYR.out e).1; have := HS.out; omega)
            clear hA hB1
            go_wp2_with (at_builtin; refine wpList_appF pc36 rfl _ _ rfl W.heap.size v1 O [NP] (O ++ [NP]) rfl rfl HR1.out ⟨Y.heap.size, 0, none⟩ 1 rfl HA.out (by simp) HLN.out HS1.out ?_; intro v2 w5 a1 a2 a3 a4; obtain ⟨p2, k2, hv2, _⟩ := a1.sl; subst hv2; have hh5 := (a2.block b3 (Array.getElem?_eq_some_iff.1 HY31.out).1 (fun e => HOWN.out e.symm)).trans HY31.out; have z0 := Lib.frozen_of_heap hh5 0; have z1 : w5.cell? ⟨b3, 0, none⟩ = some v1 := by (rw [Lib.cell_of_heap hh5]; rfl))
            have HA1 := Lib.hid a1
            have HA2 := Lib.hid a2
            have HH5 := Lib.hid hh5
            clear a1 a2 a3 a4 hh5 f1 f2 e4 c3 g1 g2 g3
            go_wp2
            go_roundg (gk - 1)
            case measure => have := HG.out; omega
            case rel =>
              have hset : ∀ u k, k ≠ b3 → (w5.setCell ⟨b3, 0, none⟩ u).heap[k]? = w5.heap[k]? := fun u k hk => heap_setCell_ne w5 b3 0 k u hk
              have hrow := row_keep (w' := w5.setCell ⟨b3, 0, none⟩ (.slice p2 (O ++ [NP]).length k2)) HA1.out (fun g hg => hset _ g (fun e => by have := (row_own HA1.out hg).1; have := HS.out; omega))
              have hturn : Turns (fun k => k = b3 ∨ W.heap.size ≤ k) Y (w5.setCell ⟨b3, 0, none⟩ (.slice p2 (O ++ [NP]).length k2)) :=
                ⟨HA2.out.os, HA2.out.tape, HA2.out.output, by have := HA2.out.size; have := HB1.out.size; simp; omega, fun k hk hn => by
                  rw [hset _ k (fun e => hn (.inl e)), HA2.out.block k (by have := HB1.out.size; omega) (fun e => hn (.inr (row_own HYR.out e.symm).1)), HB1.out.block k hk]⟩
              have hlen : (O ++ [NP]).length = O.length + 1 := by simp
              rw [hlen] at hrow hturn
              exact ⟨j + 1, _, O ++ [NP], false, by have := HG.out; omega, rfl, by go_num, HPT.out, heap_setCell_at HH5.out _, hrow, HYB.out.trans (hturn.below (fun k hk _ hu => by have := HS.out; rcases hu with h | h <;> omega) (by have := HYT.out.size; have := HS.out; omega)), HYT.out.trans hturn (fun k h _ => h)⟩
          | true =>
            have hbb := HBB.out.symm
            rw [Bool.and_eq_true] at hbb
            have HFB := Lib.hid (show followsB O r.1 = true from hbb.2)
            have HBR := Lib.hid (show br = false by have h1 := hbb.1; cases br with | true => cases h1 | false => rfl)
            clear hbb
            rcases List.eq_nil_or_concat O with rfl | ⟨O', p, hOO⟩
            · have h1 := HFB.out; simp [followsB] at h1
            rw [List.concat_eq_append] at hOO
            obtain ⟨⟨pt, pc, pi⟩, pn, ps⟩ := p
            have HPT := Lib.hid (show pgo (rs.take (j + 1)) = (O' ++ [((pt, pc, pi), pn + (r.2.1.length : Int), ps ++ S)], false) by
              rw [HPS.out, HSS.out]; unfold pstep; rw [if_neg (by rw [← HDD.out]; simp), if_pos (by simp only; rw [HFB.out, HBR.out]; rfl)]; rw [hOO]; simp [addLast, bump])
            have HPB := Lib.hid (HOB.out ((pt, pc, pi), pn, ps) (by rw [hOO]; simp))
            have hyr := HYR.out
            rw [hOO] at hyr
            obtain ⟨g, kap, hv1, _, _, hgd, hgl⟩ := hyr.some (by simp)
            obtain ⟨m, hm⟩ : ∃ m, m = O'.length := ⟨_, rfl⟩
            rw [show (O' ++ [((pt, pc, pi), pn, ps)]).length = m + 1 by simp [hm]] at hv1
            subst hv1
            have hpm : (O' ++ [((pt, pc, pi), pn, ps)])[m]? = some ((pt, pc, pi), pn, ps) := by simp [hm]
            have hp32 : pc.length = 32 := hyr.1 ((pt, pc, pi), pn, ps) (by simp)
            obtain ⟨_, q34, q35⟩ := piece_at hp32 (hyr.at hpm)
            simp only [show pieceR.sz = 36 from rfl] at q34 q35
            have HO := Lib.hid (And.intro q34 q35)
            obtain ⟨cur, hcur⟩ := (row_own hyr (g := g) rfl).2
            have HCUR := Lib.hid hcur
            have HNT := Lib.hid (show m * 36 + 34 ≠ m * 36 + 35 ∧ m * 36 + 34 < cur.size ∧ m * 36 + 35 < cur.size by
              rw [Lib.cell_of_heap hcur] at q34 q35
              exact ⟨by omega, (Array.getElem?_eq_some_iff.1 q34).1, (Array.getElem?_eq_some_iff.1 q35).1⟩)
            have HYRR := Lib.hid hyr
            have HML := Lib.hid hm
            have hgb : b7 ≠ g := fun e => by subst e; rw [HYS.out] at hcur; cases hcur
            have hgb3 : b3 ≠ g := by have := HS.out; omega
            obtain ⟨⟨rt, rc, ri⟩, rr, rd⟩ := r
            simp only at e4 f2 HPT
            obtain ⟨xa, hxa⟩ : ∃ xa, xa = x.2.1.1 := ⟨_, rfl⟩
            obtain ⟨xk, hxk⟩ : ∃ xk, xk = x.2.1.2.2 := ⟨_, rfl⟩
            obtain ⟨ln, hln⟩ : ∃ ln, ln = rr.length := ⟨_, rfl⟩
            rw [← hxa, ← hxk, ← hln] at e4
            rw [← hln] at HPT
            have HB7R := Lib.hid (show ∀ wq, Y.grownBy wq (some g) → wq.cell? ⟨b7, 34, none⟩ = some (.slice xa ln xk) from fun wq hq => by
              have h1 := hq.block b7 (Array.getElem?_eq_some_iff.1 HYS.out).1 (by simpa using hgb)
              exact (World.cell?_of_block (a := ⟨b7, 34, none⟩) h1).trans e4)
            have HWR := Lib.hid (show IntKind.i64.wrap (pn + (ln : Int)) = pn + (ln : Int) from IntWalk.i64_in _ (by
              have h1 := HPB.out; have h2 := HRL.out; unfold pcB at h1; simp only at h1 h2; omega))
            have HADD := Lib.hid (strB_add ps S (by
              have h1 := HPB.out; have h2 := HRL.out; have h3 := HSL.out; unfold pcB at h1; simp only at h1 h2 h3; omega))
            have hturn : ∀ Z, Y.grownBy Z (some g) → Turns (fun k => k = b3 ∨ W.heap.size ≤ k) Y Z := fun Z hz =>
              ⟨hz.os, hz.tape, hz.output, hz.size, fun k hk hn => hz.block k hk (fun e => hn (.inr (by cases e; omega)))⟩
            have HFIN := Lib.hid (show (∀ Z, Y.grownBy Z (some g) → Z.heap[b3]? = some (.cells #[.slice (some ⟨g, 0, none⟩) (m + 1) kap] 36 (0, 0))) ∧
                (∀ Z, Y.grownBy Z (some g) → Z.heap[g]? = some (.cells ((cur.setIfInBounds (m * 36 + 34) (.int .i64 (pn + (ln : Int)))).setIfInBounds (m * 36 + 35) (.string (strB (ps ++ S)))) 41 (0, 0)) → pieceR.row 41 W.heap.size (O' ++ [((pt, pc, pi), pn + (ln : Int), ps ++ S)]) (.slice (some ⟨g, 0, none⟩) (m + 1) kap) Z) ∧
                (∀ Z, Y.grownBy Z (some g) → Below b3 W Z) ∧ (∀ Z, Y.grownBy Z (some g) → Turns (fun k => k = b3 ∨ W.heap.size ≤ k) W Z) from
              ⟨fun Z hz => (hz.block b3 (Array.getElem?_eq_some_iff.1 HY3.out).1 (by simpa using hgb3)).trans HY3.out,
               fun Z hz hc => row_last HML.out hp32 HYRR.out HCUR.out hc,
               fun Z hz => HYB.out.trans ((hturn Z hz).below (fun k hk _ hu => by have := HS.out; rcases hu with h | h <;> omega) (by have := HYT.out.size; have := HS.out; omega)),
               fun Z hz => HYT.out.trans (hturn Z hz) (fun k h _ => h)⟩)
            have w1 : IntKind.i64.wrap (((m + 1 : Nat) : Int) - 1) = (m : Int) := by
              have := HOL.out
              rw [hOO] at this
              simp only [List.length_append, List.length_singleton] at this
              rw [IntWalk.i64_in _ (by omega)]; omega
            have i2 : (m : Int) < ((m + 1 : Nat) : Int) := by omega
            obtain ⟨M1, hM1⟩ : ∃ M1, M1 = m + 1 := ⟨_, rfl⟩
            have c3 : Y.cell? ⟨b3, 0, none⟩ = some (.slice (some ⟨g, 0, none⟩) M1 kap) := by rw [Lib.cell_of_heap HY3.out, hM1]; rfl
            rw [← hM1] at w1 i2
            clear hyr hgd hgl hpm q34 q35 hcur hgb hgb3 hxa hxk hln hturn hm hM1 e4 f1 f2 hp32
            go_upto_region 14 with fail
            clear c3 w1 i2
            refine wp_region_specs2 [[], [], [], [2], [3], [4], [], [6], [7], [5, 8], [], [10], [11], [12], [], [13, 14], [0], [16], [5, 9, 13, 17], [1], [19], [5, 13, 15, 20]] [some 44, some 45, some 46, some 47, some 48, some 49, some 50, some 51, some 52, some 53, some 54, some 55, some 56, some 57, some 58, some 59, some 60, some 61, none, some 62, some 63, none] [0, 1, 2, 3, 4, 5, 6, 7, 8, 9, 10, 11, 12, 13, 14, 15, 16, 17, 18, 19, 20, 21]
              (G2 Y g (m * 36 + 34) (m * 36 + 35) (cur)) (P2 g (m * 36 + 34) (m * 36 + 35) (.int .i64 pn) (.string (strB ps)) 5 13) (R2 g (m * 36 + 34) (m * 36 + 35) (.int .i64 (pn + (ln : Int))) (.string (strB (ps ++ S))) 18 21)
              (fun ix_ => [eqv (.pointer (some ⟨g, m * 36, none⟩)), eqv (.pointer (some ⟨g, m * 36, none⟩)), eqv (.pointer (some ⟨g, m * 36, none⟩)), eqv (.pointer (some ⟨g, m * 36, none⟩)), eqv (.pointer (some ⟨g, m * 36 + 34, none⟩)), eqv (.int .i64 pn), eqv (.pointer (some ⟨b7, 34, none⟩)), eqv (.slice xa ln xk), eqv (.int .i64 (ln : Int)), eqv (.int .i64 (pn + (ln : Int))), eqv (.pointer (some ⟨g, m * 36, none⟩)), eqv (.pointer (some ⟨g, m * 36, none⟩)), eqv (.pointer (some ⟨g, m * 36 + 35, none⟩)), eqv (.string (strB ps)), eqv (.string (strB S)), eqv (.string (strB (ps ++ S))), eqv (.pointer (some ⟨g, m * 36, none⟩)), eqv (.pointer (some ⟨g, m * 36 + 34, none⟩)), S2 g (m * 36 + 34) (.int .i64 (pn + (ln : Int))), eqv (.pointer (some ⟨g, m * 36, none⟩)), eqv (.pointer (some ⟨g, m * 36 + 35, none⟩)), S2 g (m * 36 + 35) (.string (strB (ps ++ S)))].getD ix_ anyv) (by kernel_rfl) (by kernel_rfl) (G2.start HCUR.out) (fun i => ⟨fun _ => HO.out.1, fun _ => HO.out.2⟩) (fun j w_ w_' hg hr => hg.step (by decide) hr) ?_ ?_ ?_ ?_
            · intro i j w_ w_' hij hd hp hr
              by_cases h1 : j = 18
              · subst h1; exact ⟨fun e => by subst e; exact absurd (by decide) hd, fun e => by subst e; exact absurd (by decide) hd⟩
              · by_cases h2 : j = 21
                · subst h2; exact ⟨fun e => by subst e; exact absurd (by decide) hd, fun e => by subst e; exact absurd (by decide) hd⟩
                · rw [hr.2.2 h1 h2]; exact hp
            · intro i j v w_ w_' hij hd h hr
              match i, hij, hd, h with
              | 0, _, _, h => exact h
              | 1, _, _, h => exact h
              | 2, _, _, h => exact h
              | 3, _, _, h => exact h
              | 4, _, _, h => exact h
              | 5, _, _, h => exact h
              | 6, _, _, h => exact h
              | 7, _, _, h => exact h
              | 8, _, _, h => exact h
              | 9, _, _, h => exact h
              | 10, _, _, h => exact h
              | 11, _, _, h => exact h
              | 12, _, _, h => exact h
              | 13, _, _, h => exact h
              | 14, _, _, h => exact h
              | 15, _, _, h => exact h
              | 16, _, _, h => exact h
              | 17, _, _, h => exact h
              | 18, hij, _, h => exact S2.st1 (v := v) HNT.out.1 (fun e => hij e.symm) h hr
              | 19, _, _, h => exact h
              | 20, _, _, h => exact h
              | 21, hij, _, h => exact S2.st2 (v := v) HNT.out.1 (fun e => hij e.symm) h hr
              | i + 22, _, _, h => exact trivial
            · refine ⟨?_, ?_, ?_, ?_, ?_, ?_, ?_, ?_, ?_, ?_, ?_, ?_, ?_, ?_, ?_, ?_, ?_, ?_, ?_, ?_, ?_, ?_, trivial⟩
              · intro vs wq hG hP hd
                simp only [putL]
                clear hd hP hG 
                go_wp2
                exact ⟨rfl, rfl, R2.same (by decide) (by decide), rfl⟩
              · intro vs wq hG hP hd
                simp only [putL]
                clear hd hP hG 
                go_wp2
                exact ⟨rfl, rfl, R2.same (by decide) (by decide), rfl⟩
              · intro vs wq hG hP hd
                simp only [putL]
                clear hd hP hG 
                go_wp2
                exact ⟨rfl, rfl, R2.same (by decide) (by decide), rfl⟩
              · intro vs wq hG hP hd
                have h2 := hd.get 2 rfl
                change vs 2 = _ at h2
                simp only [putL, h2]
                clear hd hP hG h2
                go_wp2
                exact ⟨rfl, rfl, R2.same (by decide) (by decide), rfl⟩
              · intro vs wq hG hP hd
                have h3 := hd.get 3 rfl
                change vs 3 = _ at h3
                simp only [putL, h3]
                clear hd hP hG h3
                go_wp2
                exact ⟨rfl, rfl, R2.same (by decide) (by decide), rfl⟩
              · intro vs wq hG hP hd
                have h4 := hd.get 4 rfl
                change vs 4 = _ at h4
                have f9 := hP.1 rfl
                simp only [putL, h4]
                clear hd hP hG h4
                go_wp2
                exact ⟨rfl, rfl, R2.same (by decide) (by decide), rfl⟩
              · intro vs wq hG hP hd
                simp only [putL]
                clear hd hP hG 
                go_wp2
                exact ⟨rfl, rfl, R2.same (by decide) (by decide), rfl⟩
              · intro vs wq hG hP hd
                have h6 := hd.get 6 rfl
                change vs 6 = _ at h6
                have f9 := HB7R.out wq hG.1
                simp only [putL, h6]
                clear hd hP hG h6
                go_wp2
                exact ⟨rfl, rfl, R2.same (by decide) (by decide), rfl⟩
              · intro vs wq hG hP hd
                have h7 := hd.get 7 rfl
                change vs 7 = _ at h7
                simp only [putL, h7]
                clear hd hP hG h7
                go_wp2
                exact ⟨rfl, rfl, R2.same (by decide) (by decide), rfl⟩
              · intro vs wq hG hP hd
                have h5 := hd.get 5 rfl
                change vs 5 = _ at h5
                have h8 := hd.get 8 rfl
                change vs 8 = _ at h8
                have f9 := HWR.out
                simp only [putL, h5, h8]
                clear hd hP hG h5 h8
                go_wp2
                exact ⟨rfl, rfl, R2.same (by decide) (by decide), rfl⟩
              · intro vs wq hG hP hd
                simp only [putL]
                clear hd hP hG 
                go_wp2
                exact ⟨rfl, rfl, R2.same (by decide) (by decide), rfl⟩
              · intro vs wq hG hP hd
                have h10 := hd.get 10 rfl
                change vs 10 = _ at h10
                simp only [putL, h10]
                clear hd hP hG h10
                go_wp2
                exact ⟨rfl, rfl, R2.same (by decide) (by decide), rfl⟩
              · intro vs wq hG hP hd
                have h11 := hd.get 11 rfl
                change vs 11 = _ at h11
                simp only [putL, h11]
                clear hd hP hG h11
                go_wp2
                exact ⟨rfl, rfl, R2.same (by decide) (by decide), rfl⟩
              · intro vs wq hG hP hd
                have h12 := hd.get 12 rfl
                change vs 12 = _ at h12
                have f9 := hP.2 rfl
                simp only [putL, h12]
                clear hd hP hG h12
                go_wp2
                exact ⟨rfl, rfl, R2.same (by decide) (by decide), rfl⟩
              · intro vs wq hG hP hd
                simp only [putL]
                clear hd hP hG 
                go_wp2
                exact ⟨rfl, rfl, R2.same (by decide) (by decide), rfl⟩
              · intro vs wq hG hP hd
                have h13 := hd.get 13 rfl
                change vs 13 = _ at h13
                have h14 := hd.get 14 rfl
                change vs 14 = _ at h14
                have f9 := HADD.out
                simp only [putL, h13, h14]
                clear hd hP hG h13 h14
                go_wp2
                exact ⟨rfl, rfl, R2.same (by decide) (by decide), rfl⟩
              · intro vs wq hG hP hd
                have h0 := hd.get 0 rfl
                change vs 0 = _ at h0
                simp only [putL, h0]
                clear hd hP hG h0
                go_wp2
                exact ⟨rfl, rfl, R2.same (by decide) (by decide), rfl⟩
              · intro vs wq hG hP hd
                have h16 := hd.get 16 rfl
                change vs 16 = _ at h16
                simp only [putL, h16]
                clear hd hP hG h16
                go_wp2
                exact ⟨rfl, rfl, R2.same (by decide) (by decide), rfl⟩
              · intro vs wq hG hP hd
                have h5 := hd.get 5 rfl
                change vs 5 = _ at h5
                clear h5
                have h9 := hd.get 9 rfl
                change vs 9 = _ at h9
                have h13 := hd.get 13 rfl
                change vs 13 = _ at h13
                clear h13
                have h17 := hd.get 17 rfl
                change vs 17 = _ at h17
                simp only [putL, h9, h17]
                obtain ⟨z0, ⟨u9, z1⟩, hs2⟩ := hG.store1 HNT.out
                have HS2 := Lib.hid hs2
                clear hd hP hG hs2 h9 h17
                go_wp2
                exact ⟨rfl, rfl, R2.of1 (by decide), HS2.out _ undef⟩
              · intro vs wq hG hP hd
                have h1 := hd.get 1 rfl
                change vs 1 = _ at h1
                simp only [putL, h1]
                clear hd hP hG h1
                go_wp2
                exact ⟨rfl, rfl, R2.same (by decide) (by decide), rfl⟩
              · intro vs wq hG hP hd
                have h19 := hd.get 19 rfl
                change vs 19 = _ at h19
                simp only [putL, h19]
                clear hd hP hG h19
                go_wp2
                exact ⟨rfl, rfl, R2.same (by decide) (by decide), rfl⟩
              · intro vs wq hG hP hd
                have h5 := hd.get 5 rfl
                change vs 5 = _ at h5
                clear h5
                have h13 := hd.get 13 rfl
                change vs 13 = _ at h13
                clear h13
                have h15 := hd.get 15 rfl
                change vs 15 = _ at h15
                have h20 := hd.get 20 rfl
                change vs 20 = _ at h20
                simp only [putL, h15, h20]
                obtain ⟨z0, ⟨u9, z1⟩, hs2⟩ := hG.store2 HNT.out
                have HS2 := Lib.hid hs2
                clear hd hP hG hs2 h15 h20
                go_wp2
                exact ⟨rfl, rfl, R2.of2 (by decide), HS2.out _ undef⟩
            · intro vs wz hG hd
              have h0 := hd.get 0 rfl
              change vs 0 = _ at h0
              have h1 := hd.get 1 rfl
              change vs 1 = _ at h1
              have h2 := hd.get 2 rfl
              change vs 2 = _ at h2
              have h3 := hd.get 3 rfl
              change vs 3 = _ at h3
              have h4 := hd.get 4 rfl
              change vs 4 = _ at h4
              have h5 := hd.get 5 rfl
              change vs 5 = _ at h5
              have h6 := hd.get 6 rfl
              change vs 6 = _ at h6
              have h7 := hd.get 7 rfl
              change vs 7 = _ at h7
              have h8 := hd.get 8 rfl
              change vs 8 = _ at h8
              have h9 := hd.get 9 rfl
              change vs 9 = _ at h9
              have h10 := hd.get 10 rfl
              change vs 10 = _ at h10
              have h11 := hd.get 11 rfl
              change vs 11 = _ at h11
              have h12 := hd.get 12 rfl
              change vs 12 = _ at h12
              have h13 := hd.get 13 rfl
              change vs 13 = _ at h13
              have h14 := hd.get 14 rfl
              change vs 14 = _ at h14
              have h15 := hd.get 15 rfl
              change vs 15 = _ at h15
              have h16 := hd.get 16 rfl
              change vs 16 = _ at h16
              have h17 := hd.get 17 rfl
              change vs 17 = _ at h17
              have hz1 := hd.get 18 rfl; change S2 g (m * 36 + 34) (.int .i64 (pn + (ln : Int))) (vs 18) wz at hz1
              have h19 := hd.get 19 rfl
              change vs 19 = _ at h19
              have h20 := hd.get 20 rfl
              change vs 20 = _ at h20
              have hz2 := hd.get 21 rfl; change S2 g (m * 36 + 35) (.string (strB (ps ++ S))) (vs 21) wz at hz2
              have HZ := Lib.hid hG.1
              have HZC := Lib.hid (hG.fin HNT.out hz1 hz2)
              simp only [putL, List.getD_cons_zero, List.getD_cons_succ, Act.put, List.setIfInBounds_toArray, List.set_cons_zero, List.set_cons_succ, h0, h1, h2, h3, h4, h5, h6, h7, h8, h9, h10, h11, h12, h13, h14, h15, h16, h17, h19, h20]
              clear hd hG hz1 hz2 h0 h1 h2 h3 h4 h5 h6 h7 h8 h9 h10 h11 h12 h13 h14 h15 h16 h17 h19 h20
              generalize wz = Z at *
              go_wp2
              go_roundg (gk - 1)
              case measure => have := HG.out; omega
              case rel => exact ⟨j + 1, _, O' ++ [((pt, pc, pi), pn + (ln : Int), ps ++ S)], false, by have := HG.out; omega, rfl, by go_num, HPT.out, HFIN.out.1 Z HZ.out, HFIN.out.2.1 Z HZ.out HZC.out, HFIN.out.2.2.1 Z HZ.out, HFIN.out.2.2.2 Z HZ.out⟩
    · have i1 : ¬ (j : Int) < (L : Int) := by omega
      have HE := Lib.hid (show piecesM rs = O by
        have h1 := HPG.out
        have h2 := congrArg List.length HRS.out
        rw [List.length_map] at h2
        rw [List.take_of_length_le (by have := HL.out; omega)] at h1
        unfold piecesM
        rw [h1])
      have c3 : wr.cell? ⟨b3, 0, none⟩ = some v1 := by rw [Lib.cell_of_heap HR3.out]; rfl
      obtain ⟨p1, k1, rfl, _⟩ := HROW.out.sl
      go_wp2
      go_ret
      exact ⟨_, rfl, by rw [HE.out]; exact HROW.out.base (by have := HS.out; have := HB3.out; omega), by have := HB3.out; subst this; exact HBW.out.trans HBR.out⟩
end Go.Proofs.Ytcgioboiebanpaa
