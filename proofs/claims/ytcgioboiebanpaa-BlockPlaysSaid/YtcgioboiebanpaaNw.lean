/- Delete. -/
import Derived.Test.YtcgioboiebanpaaWr
namespace Go.Proofs.Ytcgioboiebanpaa
open Go.RowKit Go.Maps
set_option linter.unusedVariables false

theorem meetsB_is {w : World} {x : RV} {r : MR} (h : Tells w x r) (k : KV) (n : Int) : meetsB x k.1 k.2.1 k.2.2 n = meetsM r k n := by
  unfold meetsM meetsB asV
  rw [h.key, h.len]
theorem foundR_no {r : MR} {k : KV} {n : Int} (h : ¬ (n ≤ 2147483647 ∧ 0 ≤ k.2.2 ∧ meetsM r k n = true)) : foundR r k n = 0 := if_neg h
theorem dead_enc (x : RV) (h : x.1.2.1.length = 32) : runR.enc (x.1, x.2.1, true) = (runR.enc x).set 35 (.bool true) := by
  show (runB _).toList = (runB x).toList.set 35 _
  rw [runB_list, runB_list]
  have hb : (Lib.byteCells x.1.2.1).length = 32 := by simp [Lib.byteCells, h]
  rw [List.set_append_right _ _ (by simp [hb])]
  simp [hb]
theorem Doc.kill {w : World} {d : Nat} {zs : List (RV × MR)} {size live : Int} {g len cap i : Nat} {x : RV} {r : MR} (h : Doc w d (.slice (some ⟨g, 0, none⟩) len cap) zs size live) (hi : zs[i]? = some (x, r)) :
    Doc (w.setCell ⟨g, i * 36 + 35, none⟩ (.bool true)) d (.slice (some ⟨g, 0, none⟩) len cap) (zs.set i ((x.1, x.2.1, true), (r.1, r.2.1, true))) size live ∧ Step d (.slice (some ⟨g, 0, none⟩) len cap) (.slice (some ⟨g, 0, none⟩) len cap) w (w.setCell ⟨g, i * 36 + 35, none⟩ (.bool true)) := by
  have hx : (zs.map (·.1))[i]? = some x := by simp [hi]
  have hok : runR.ok x := h.row.1 x (List.mem_of_getElem? hx)
  have hr := row_field (R := runR) (x' := (x.1, x.2.1, true)) (u := .bool true) hx hok (show 35 < 36 by decide) (dead_enc x hok) h.row
  have hgd : g ≠ d := fun e => own_d h.row (by rw [e]; rfl)
  have hs : Step d (.slice (some ⟨g, 0, none⟩) len cap) (.slice (some ⟨g, 0, none⟩) len cap) w (w.setCell ⟨g, i * 36 + 35, none⟩ (.bool true)) := Step.grown ⟨rfl, rfl, rfl, by simp, fun k _ hk => heap_setCell_ne w g _ k _ (fun e => hk (by rw [e]; rfl))⟩
  have hk := h.keepN hs
  refine ⟨⟨(heap_setCell_ne w g _ d _ (fun e => hgd e.symm)).trans h.cells, by have h9 := hr.1; rw [show runR.sz = 36 from rfl] at h9; simpa [List.map_set] using h9, fun z hz => ?_⟩, hs⟩
  rcases List.mem_or_eq_of_mem_set hz with hz | rfl
  · exact (h.tells z hz).keep hk
  · have ht := (h.tells _ (List.mem_of_getElem? hi)).keep hk
    exact ⟨ht.key, ht.k32, ht.len, rfl, ht.runes, ht.pos, ht.cap, ht.max⟩
set_option maxHeartbeats 8000000 in
set_option maxRecDepth 100000 in
theorem delete_any (d : Nat) (v : Value) (zs : List (RV × MR)) (size live : Int) (k : KV) (n : Int) (w : World) (hk : k.2.1.length = 32) (hok : ∀ r ∈ zs.map (·.2), idxOk r) (htot : tot (zs.map (·.2)) ≤ 10000)
    (hlv : -1000000 ≤ live ∧ live ≤ 1000000) (h : Doc w d v zs size live) :
    Calls Try.prog 24 #[.pointer (some ⟨d, 0, none⟩), .agg (keyB k.1 k.2.1 k.2.2), .int .i64 n] w fun e w' =>
      e = .returned (.int .i64 (delE (zs.map (·.2)) k n)) ∧ ∃ v' zs', Doc w' d v' zs' size (delL (zs.map (·.2)) k n live).2 ∧ zs'.map (·.2) = (delL (zs.map (·.2)) k n live).1 ∧ Step d v v' w w' := by
  obtain ⟨kt, kc, ki⟩ := k
  simp only at hk ⊢
  obtain ⟨W, hW⟩ : ∃ W, W = w.alloc (.cells (keyB kt kc ki) 26) := ⟨_, rfl⟩
  obtain ⟨b4, hb4⟩ : ∃ b, b = w.heap.size := ⟨_, rfl⟩
  have hbW := (Below.refl w.heap.size w).alloc (Nat.le_refl _) (.cells (keyB kt kc ki) 26)
  have hk1 := (MapKept.heap_alloc w (.cells (keyB kt kc ki) 26)).1
  rw [← hW] at hbW hk1
  rw [← hb4] at hk1
  have HBW := Lib.hid hbW
  have HDOC := Lib.hid (h.below hbW)
  have HK := Lib.hid hk
  have HK1 := Lib.hid hk1
  have HOK := Lib.hid hok
  have HTOT := Lib.hid htot
  have HLV := Lib.hid hlv
  have hdl := h.lt
  have HB4 := Lib.hid (show d < b4 ∧ b4 < W.heap.size ∧ v.ownBlock ≠ some b4 by
    have h1 := (Array.getElem?_eq_some_iff.1 hk1).1
    refine ⟨by omega, h1, fun e => ?_⟩
    obtain ⟨_, cur, he⟩ := row_own h.row e
    have := (Array.getElem?_eq_some_iff.1 he).1
    omega)
  have HKS := Lib.hid (show (keyB kt kc ki).size = 34 by rw [keyB_size, hk])
  obtain ⟨rs, hrs⟩ : ∃ rs, rs = zs.map (·.2) := ⟨_, rfl⟩
  rw [← hrs] at HOK HTOT ⊢
  have HRS := Lib.hid hrs
  have HZL := Lib.hid (show zs.length ≤ 10000 by have h1 := tot_len (HOK.out); have h2 := congrArg List.length hrs; rw [List.length_map] at h2; have := HTOT.out; omega)
  clear hbW hk1 hk hok htot hlv h hdl hrs
  go_enter Try.func24, Try.ntmps24
  go_upto_region 1 with fail
  rw [← hW, ← hb4]
  clear hW hb4
  by_cases hn1 : n < 1
  · have HE := Lib.hid (show delE rs (kt, kc, ki) n = 1 from if_pos hn1)
    have HL := Lib.hid (show delL rs (kt, kc, ki) n live = (rs, live) by unfold delL; rw [HE.out]; rfl)
    go_wp2
    go_ret
    exact ⟨ret_i HE.out.symm, v, zs, by rw [HL.out]; exact HDOC.out, by rw [HL.out]; exact HRS.out.symm, .of_below HBW.out⟩
  have HN1 := Lib.hid hn1
  obtain ⟨a0, cap0, hv0, hin0⟩ := HDOC.out.slice
  rw [List.length_map] at hv0
  have HIN0 := Lib.hid hin0
  obtain ⟨L, hL⟩ : ∃ L, L = zs.length := ⟨_, rfl⟩
  rw [← hL] at hv0 HZL
  have HL := Lib.hid hL
  have c0 : W.cell? ⟨d, 0, none⟩ = some (.slice a0 L cap0) := by rw [Lib.cell_of_heap HDOC.out.cells, hv0]; rfl
  have HV0 := Lib.hid hv0
  clear hin0 hL hv0
  go_wp2_with fail
  clear c0
  go_loopg [7, 24] L (fun g vf vj wr => ∃ j : Nat, g + j = L ∧ vf = .int .i64 (foundM (rs.take j) (kt, kc, ki) n) ∧ vj = .int .i64 j ∧ Below W.heap.size W wr)
  case atStart => exact ⟨0, by omega, rfl, rfl, Below.refl _ _⟩
  case round =>
    obtain ⟨j, hg, rfl, rfl, hbw⟩ := hrel
    have HG := Lib.hid hg
    have HBR := Lib.hid hbw
    clear hg hbw
    have hL4 : L ≤ 10000 := HZL.out
    by_cases hj : j < L
    · have hjz : j < zs.length := by have := HL.out; omega
      have i1 : (j : Int) < (L : Int) := by omega
      rcases (HIN0.out.below HBR.out).2 with h | ⟨b, off, hab, hlt, hc⟩
      · rw [List.map_eq_nil_iff] at h; subst h; simp at hjz
      subst hab
      have hxx : (zs.map (·.1))[j]? = some zs[j].1 := by simp [hjz]
      have hrr : rs[j]? = some zs[j].2 := by rw [HRS.out]; simp [hjz]
      have hat := hc j _ hxx
      have htl := HDOC.out.tells zs[j] (List.getElem_mem hjz)
      have HIX := Lib.hid (HOK.out _ (List.mem_of_getElem? hrr))
      have HTK := Lib.hid (show foundM (rs.take (j + 1)) (kt, kc, ki) n = foundM (rs.take j) (kt, kc, ki) n + foundR zs[j].2 (kt, kc, ki) n by
        rw [List.take_succ_eq_append_getElem (List.getElem?_eq_some_iff.1 hrr).1, foundM_snoc, (List.getElem?_eq_some_iff.1 hrr).2])
      have HFR := Lib.hid (show 0 ≤ foundM (rs.take j) (kt, kc, ki) n ∧ foundM (rs.take j) (kt, kc, ki) n ≤ 10000 by
        have h1 := foundM_range (rs := rs.take j) (fun r hr => HOK.out r (List.mem_of_mem_take hr)) (kt, kc, ki) n (by have := HN1.out; omega)
        have h2 := tot_take (rs := rs) j
        have := HTOT.out
        omega)
      have HTL := Lib.hid htl
      generalize zs[j] = z at *
      obtain ⟨x, r⟩ := z
      simp only at hxx hrr hat htl HIX HTK HTL
      have HX32 := Lib.hid (show x.1.2.1.length = 32 by rw [htl.key]; exact htl.k32)
      have e1 : fits wr ⟨b, off + j * 36, none⟩ 36 := hat.1
      have e2 : aggAt wr ⟨b, off + j * 36, none⟩ 36 = runB x := by
        have h3 : (aggAt wr ⟨b, off + j * 36, none⟩ 36) = (runR.enc x).toArray := hat.2
        rw [h3]; rfl
      have q7 : b < wr.heap.size := hlt
      clear hat hc hxx hrr hlt htl
      go_upto_region 7 with (refine wpList_store_blk 70 36 (by kernel_rfl) rfl _ _ rfl wr.heap.size (runB x) (runB_size x HX32.out) (run_one x) rfl rfl _ (MapKept.heap_alloc wr _).1 (by rfl) ?_)
      intro w2 s1 s2 s3
      have HW2 := Lib.hid (show Below wr.heap.size wr w2 from ((Below.refl wr.heap.size wr).alloc (Nat.le_refl _) _).trans ⟨s3.os, s3.tape, s3.output, s3.size, fun j hj => s3.block j (by simp; omega) (by simp; omega)⟩)
      have HB2 := Lib.hid (HBR.out.trans (HW2.out.mono HBR.out.size))
      obtain ⟨b9, hb9⟩ : ∃ b, b = wr.heap.size := ⟨_, rfl⟩
      rw [← hb9] at s1 ⊢
      have HS1 := Lib.hid s1
      have hk2 := (HB2.out.block b4 HB4.out.2.1).trans HK1.out
      have HK2 := Lib.hid hk2
      clear s1 s2 s3 e1 e2 q7 hb9
      have c33 := KeyAt.c33 hk2 HK.out
      by_cases h1 : n ≤ 2147483647
      case neg =>
        have h1b : decide (n ≤ 2147483647) = false := decide_eq_false h1
        have HF0 := Lib.hid (foundR_no (r := r) (k := (kt, kc, ki)) (n := n) (fun hh => h1 hh.1))
        clear hk2
        go_wp2
        go_roundg (gk - 1)
        case measure => have := HG.out; omega
        case rel => exact ⟨j + 1, by have := HG.out; omega, by rw [HTK.out, HF0.out, Int.add_zero], by go_num, HB2.out⟩
      case pos =>
        have h1b : decide (n ≤ 2147483647) = true := decide_eq_true h1
        by_cases h2 : 0 ≤ ki
        case neg =>
          have h2b : decide (0 ≤ ki) = false := decide_eq_false h2
          have HF0 := Lib.hid (foundR_no (r := r) (k := (kt, kc, ki)) (n := n) (fun hh => h2 hh.2.1))
          clear hk2
          go_wp2
          go_roundg (gk - 1)
          case measure => have := HG.out; omega
          case rel => exact ⟨j + 1, by have := HG.out; omega, by rw [HTK.out, HF0.out, Int.add_zero], by go_num, HB2.out⟩
        case pos =>
          have h2b : decide (0 ≤ ki) = true := decide_eq_true h2
          have f1 := (blk_ld HS1.out (runB_size x HX32.out)).1
          have f2 := (blk_ld HS1.out (runB_size x HX32.out)).2
          have g1 := (blk_ld hk2 HKS.out).1
          have g2 := (blk_ld hk2 HKS.out).2
          clear hk2
          go_wp2_with fail
          refine (meets_any x kt kc ki n HX32.out HK.out w2).mono ?_
          rintro e w3 ⟨rfl, hb3⟩
          have HB3 := Lib.hid (HB2.out.trans (hb3.mono HB2.out.size))
          have hs3 := (hb3.block b9 (Array.getElem?_eq_some_iff.1 HS1.out).1).trans HS1.out
          have hk3 := (hb3.block b4 (Array.getElem?_eq_some_iff.1 HK2.out).1).trans HK2.out
          have hra := RunAt.of HX32.out (blk_ld hs3 (runB_size x HX32.out)).1 (blk_ld hs3 (runB_size x HX32.out)).2
          have HMB := Lib.hid (show meetsB x kt kc ki n = meetsM r (kt, kc, ki) n from meetsB_is HTL.out (kt, kc, ki) n)
          rw [HMB.out]
          clear hb3 f1 f2 g1 g2 c33 hs3
          cases hm : meetsM r (kt, kc, ki) n with
          | false =>
            have HF0 := Lib.hid (foundR_no (r := r) (k := (kt, kc, ki)) (n := n) (fun hh => by rw [hm] at hh; exact absurd hh.2.2 (by simp)))
            clear hm hra hk3
            go_wp2
            go_roundg (gk - 1)
            case measure => have := HG.out; omega
            case rel => exact ⟨j + 1, by have := HG.out; omega, by rw [HTK.out, HF0.out, Int.add_zero], by go_num, HB3.out⟩
          | true =>
            have HF0 := Lib.hid (show foundR r (kt, kc, ki) n = min (ki + n) (r.1.2.2 + r.2.1.length) - max ki r.1.2.2 from if_pos ⟨h1, h2, hm⟩)
            obtain ⟨m1, m2⟩ := meetsM_iff HIX.out ⟨by have := HN1.out; omega, h1⟩ (k := (kt, kc, ki)) h2 hm
            simp only at m1 m2
            have c33 := KeyAt.c33 hk3 HK.out
            have e5 := hra.i
            have e6 := hra.r
            simp only [Nat.zero_add] at e5 e6
            rw [HTL.out.key] at e5
            rw [HTL.out.len] at e6
            obtain ⟨o1, o2, o3⟩ := HIX.out
            have hfr := HFR.out
            obtain ⟨F, hF⟩ : ∃ F, F = foundM (rs.take j) (kt, kc, ki) n := ⟨_, rfl⟩
            rw [← hF] at HTK hfr ⊢
            have hn1' : 1 ≤ n := by omega
            obtain ⟨ri, hri⟩ : ∃ ri, ri = r.1.2.2 := ⟨_, rfl⟩
            obtain ⟨ln, hln⟩ : ∃ ln, ln = r.2.1.length := ⟨_, rfl⟩
            rw [← hri] at e5 o1 o2 m1 m2
            rw [← hln] at e6 o2 o3 m1
            rw [← hri, ← hln] at HF0
            have i2 : IntKind.i64.wrap (ki + n) = ki + n := IntWalk.i64_in _ (by omega)
            have i3 : IntKind.i64.wrap (ri + (ln : Int)) = ri + ln := IntWalk.i64_in _ (by omega)
            have i4 : IntKind.i64.wrap (min (ki + n) (ri + (ln : Int)) - max ki ri) = min (ki + n) (ri + (ln : Int)) - max ki ri := IntWalk.i64_in _ (by omega)
            have i5 : IntKind.i64.wrap (F + (min (ki + n) (ri + (ln : Int)) - max ki ri)) = F + (min (ki + n) (ri + (ln : Int)) - max ki ri) := IntWalk.i64_in _ (by omega)
            have HV := Lib.hid (show F + (min (ki + n) (ri + (ln : Int)) - max ki ri) = foundM (rs.take (j + 1)) (kt, kc, ki) n by rw [HTK.out, HF0.out])
            clear hm hra hk3 hF hri hln hfr o1 o2 o3 m1 m2 hn1'
            go_wp2
            go_roundg (gk - 1)
            case measure => have := HG.out; omega
            case rel => exact ⟨j + 1, by have := HG.out; omega, by rw [← HV.out], by go_num, HB3.out⟩
    · have hjL : j = L := by have := HG.out; omega
      have HTA := Lib.hid (show foundM (rs.take j) (kt, kc, ki) n = foundM rs (kt, kc, ki) n by
        have h2 := congrArg List.length HRS.out
        rw [List.length_map] at h2
        have := HL.out
        rw [List.take_of_length_le (by omega)])
      have i1 : ¬ (j : Int) < (L : Int) := by omega
      rw [HTA.out]
      by_cases hf : foundM rs (kt, kc, ki) n = n
      case neg =>
        have HE := Lib.hid (show delE rs (kt, kc, ki) n = 12 by unfold delE; rw [if_neg (show ¬ n < 1 by have := HN1.out; omega), if_neg hf])
        have HLL := Lib.hid (show delL rs (kt, kc, ki) n live = (rs, live) by unfold delL; rw [HE.out]; rfl)
        generalize foundM rs (kt, kc, ki) n = F at *
        have hf2 : (F != n) = true := by simpa using hf
        go_wp2
        go_ret
        exact ⟨ret_i HE.out.symm, v, zs, by rw [HLL.out]; exact HDOC.out.below HBR.out, by rw [HLL.out]; exact HRS.out.symm, .of_below (HBW.out.trans (HBR.out.mono HBW.out.size))⟩
      case pos =>
        have HE := Lib.hid (show delE rs (kt, kc, ki) n = 0 by unfold delE; rw [if_neg (show ¬ n < 1 by have := HN1.out; omega), if_pos hf])
        have HLL := Lib.hid (show delL rs (kt, kc, ki) n live = delGo (kt, kc, ki) n (tot rs) rs 0 live by unfold delL; rw [HE.out]; rfl)
        have HNK := Lib.hid (foundM_pos (rs := rs) (k := (kt, kc, ki)) (n := n) (by rw [hf]; omega))
        rw [hf]
        obtain ⟨R, hR⟩ : ∃ R, R = delL rs (kt, kc, ki) n live := ⟨_, rfl⟩
        have HRD := Lib.hid hR
        rw [← hR] at HLL
        clear hR
        clear hf hj hjL HTA hn1 hL4
        go_wp2_with fail
        go_loopg [10] (tot rs) (fun g v10 wx => ∃ (i : Nat) (v1 : Value) (zs1 : List (RV × MR)) (lv1 : Int), v10 = .int .i64 i ∧ Doc wx d v1 zs1 size lv1 ∧ Step d v v1 W wx ∧ delGo (kt, kc, ki) n g (zs1.map (·.2)) i lv1 = R ∧ (∀ r ∈ zs1.map (·.2), idxOk r) ∧ tot (zs1.map (·.2)) = tot rs ∧
          tot ((zs1.map (·.2)).drop i) ≤ g ∧ live - tot rs ≤ lv1 - tot ((zs1.map (·.2)).drop i) ∧ lv1 ≤ live)
        case atStart =>
          exact ⟨0, v, zs, live, rfl, HDOC.out.below HBR.out, .of_below HBR.out, by rw [← HRS.out]; exact HLL.out.symm, by rw [← HRS.out]; exact HOK.out, by rw [← HRS.out], by rw [← HRS.out, List.drop_zero]; exact Nat.le_refl _, by rw [← HRS.out, List.drop_zero]; exact Int.le_refl _, Int.le_refl _⟩
        case round =>
          obtain ⟨i, v1, zs1, lv1, rfl, hd1, hs1, hgo, hok1, ht1, htd, hl1, hl2⟩ := hrel
          have HD1 := Lib.hid hd1
          have HS1 := Lib.hid hs1
          have HGO := Lib.hid hgo
          have HOK1 := Lib.hid hok1
          have HT1 := Lib.hid ht1
          have HTD := Lib.hid htd
          have HLB := Lib.hid (And.intro hl1 hl2)
          have HZ1 := Lib.hid (show zs1.length ≤ 10000 by have h1 := tot_len hok1; rw [List.length_map] at h1; have := HTOT.out; omega)
          obtain ⟨a1, cap1, hv1, hin1⟩ := hd1.slice
          rw [List.length_map] at hv1
          have HIN1 := Lib.hid hin1
          have HV1 := Lib.hid hv1
          obtain ⟨L1, hL1⟩ : ∃ L1, L1 = zs1.length := ⟨_, rfl⟩
          have HL1 := Lib.hid hL1
          have hL4 : L1 ≤ 10000 := by rw [hL1]; exact HZ1.out
          have c0 : wr.cell? ⟨d, 0, none⟩ = some (.slice a1 L1 cap1) := by rw [Lib.cell_of_heap hd1.cells, hv1, hL1]; rfl
          have HKR := Lib.hid ((hs1.block b4 HB4.out.2.1 (by have := HB4.out; omega) HB4.out.2.2).trans HK1.out)
          clear hd1 hs1 hgo hok1 ht1 htd hl1 hl2 hv1 hin1 hL1
          by_cases hi : i < L1
          · have i1 : (i : Int) < (L1 : Int) := by omega
            have hiz : i < zs1.length := by have := HL1.out; omega
            rcases (HIN1.out).2 with h | ⟨b, off, hab, hlt, hc⟩
            · rw [List.map_eq_nil_iff] at h; subst h; simp at hiz
            subst hab
            have hxx : (zs1.map (·.1))[i]? = some zs1[i].1 := by simp [hiz]
            have hrr : (zs1.map (·.2))[i]? = some zs1[i].2 := by simp [hiz]
            have hzz : zs1[i]? = some zs1[i] := by simp [hiz]
            have hat := hc i _ hxx
            have HTL := Lib.hid (HD1.out.tells zs1[i] (List.getElem_mem hiz))
            have HIX := Lib.hid (HOK1.out _ (List.mem_of_getElem? hrr))
            have HRR := Lib.hid hrr
            have HZZ := Lib.hid hzz
            generalize zs1[i] = z at *
            obtain ⟨x, r⟩ := z
            simp only at hxx hrr hat HTL HIX HRR
            have HX32 := Lib.hid (show x.1.2.1.length = 32 by rw [HTL.out.key]; exact HTL.out.k32)
            have e1 : fits wr ⟨b, off + i * 36, none⟩ 36 := hat.1
            have e2 : aggAt wr ⟨b, off + i * 36, none⟩ 36 = runB x := by
              have h3 : (aggAt wr ⟨b, off + i * 36, none⟩ 36) = (runR.enc x).toArray := hat.2
              rw [h3]; rfl
            have q7 : b < wr.heap.size := hlt
            obtain ⟨F, hF⟩ : ∃ F, gk = F + 1 := ⟨gk - 1, by have h1 := HTD.out; rw [tot_drop hrr] at h1; have := HIX.out.2.2; omega⟩
            have HF := Lib.hid hF
            have HTD2 := Lib.hid (show tot ((zs1.map (·.2)).drop i) = r.2.1.length + tot ((zs1.map (·.2)).drop (i + 1)) from tot_drop hrr)
            have HGO2 := Lib.hid (show (if meetsM r (kt, kc, ki) n = true then
                if r.1.2.2 < ki then delGo (kt, kc, ki) n F (cutM (zs1.map (·.2)) i (ki - r.1.2.2)) (i + 1) lv1
                else match (cutM (zs1.map (·.2)) i (ki + n - r.1.2.2))[i]? with
                  | none => (zs1.map (·.2), lv1)
                  | some x => if x.2.2 = true then delGo (kt, kc, ki) n F (cutM (zs1.map (·.2)) i (ki + n - r.1.2.2)) (i + 1) lv1
                    else delGo (kt, kc, ki) n F ((cutM (zs1.map (·.2)) i (ki + n - r.1.2.2)).set i (x.1, x.2.1, true)) (i + 1) (lv1 - x.2.1.length)
              else delGo (kt, kc, ki) n F (zs1.map (·.2)) (i + 1) lv1) = R by
              have h1 := HGO.out
              rw [hF] at h1
              simp only [delGo, hrr] at h1
              exact h1)
            clear hat hc hxx hrr hzz hlt hF
            go_upto_region 16 with (refine wpList_store_blk 70 36 (by kernel_rfl) rfl _ _ rfl wr.heap.size (runB x) (runB_size x HX32.out) (run_one x) rfl rfl _ (MapKept.heap_alloc wr _).1 (by rfl) ?_)
            intro w2 s1 s2 s3
            have HW2 := Lib.hid (show Below wr.heap.size wr w2 from ((Below.refl wr.heap.size wr).alloc (Nat.le_refl _) _).trans ⟨s3.os, s3.tape, s3.output, s3.size, fun j hj => s3.block j (by simp; omega) (by simp; omega)⟩)
            obtain ⟨b9, hb9⟩ : ∃ b, b = wr.heap.size := ⟨_, rfl⟩
            rw [← hb9] at s1 ⊢
            have HSB := Lib.hid s1
            have hk2 := (HW2.out.block b4 (Array.getElem?_eq_some_iff.1 HKR.out).1).trans HKR.out
            have HK2 := Lib.hid hk2
            have f1 := (blk_ld s1 (runB_size x HX32.out)).1
            have f2 := (blk_ld s1 (runB_size x HX32.out)).2
            have g1 := (blk_ld hk2 HKS.out).1
            have g2 := (blk_ld hk2 HKS.out).2
            clear s1 s2 s3 e1 e2 q7 hb9 hk2 c0
            go_wp2_with fail
            refine (meets_any x kt kc ki n HX32.out HK.out w2).mono ?_
            rintro e w3 ⟨rfl, hb3⟩
            have HB3 := Lib.hid (HW2.out.trans (hb3.mono HW2.out.size))
            have hs3 := (hb3.block b9 (Array.getElem?_eq_some_iff.1 HSB.out).1).trans HSB.out
            have hk3 := (hb3.block b4 (Array.getElem?_eq_some_iff.1 HK2.out).1).trans HK2.out
            have hra := RunAt.of HX32.out (blk_ld hs3 (runB_size x HX32.out)).1 (blk_ld hs3 (runB_size x HX32.out)).2
            have HMB := Lib.hid (show meetsB x kt kc ki n = meetsM r (kt, kc, ki) n from meetsB_is HTL.out (kt, kc, ki) n)
            rw [HMB.out]
            have HD3 := Lib.hid (HD1.out.below HB3.out)
            have HS3 := Lib.hid (HS1.out.trans (Step.of_below HB3.out))
            clear hb3 f1 f2 g1 g2 hs3
            cases hm : meetsM r (kt, kc, ki) n with
            | false =>
              have HGN := Lib.hid (show delGo (kt, kc, ki) n F (zs1.map (·.2)) (i + 1) lv1 = R by have h1 := HGO2.out; rw [if_neg (by rw [hm]; simp)] at h1; exact h1)
              clear hm hra hk3
              go_wp2
              go_roundg F
              case measure => have := HF.out; omega
              case rel => exact ⟨i + 1, v1, zs1, lv1, by go_num, HD3.out, HS3.out, HGN.out, HOK1.out, HT1.out, by have := HTD2.out; have := HTD.out; have := HF.out; have := HIX.out.2.2; omega, by have := HTD2.out; have := HLB.out.1; omega, HLB.out.2⟩
            | true =>
              obtain ⟨m1, m2⟩ := meetsM_iff HIX.out ⟨by have := HN1.out; omega, HNK.out.1⟩ (k := (kt, kc, ki)) HNK.out.2 hm
              simp only at m1 m2
              have HM1 := Lib.hid (And.intro m1 m2)
              have HGM := Lib.hid (show (if r.1.2.2 < ki then delGo (kt, kc, ki) n F (cutM (zs1.map (·.2)) i (ki - r.1.2.2)) (i + 1) lv1
                else match (cutM (zs1.map (·.2)) i (ki + n - r.1.2.2))[i]? with
                  | none => (zs1.map (·.2), lv1)
                  | some x => if x.2.2 = true then delGo (kt, kc, ki) n F (cutM (zs1.map (·.2)) i (ki + n - r.1.2.2)) (i + 1) lv1
                    else delGo (kt, kc, ki) n F ((cutM (zs1.map (·.2)) i (ki + n - r.1.2.2)).set i (x.1, x.2.1, true)) (i + 1) (lv1 - x.2.1.length)) = R by have h1 := HGO2.out; rw [if_pos hm] at h1; exact h1)
              have c33 := KeyAt.c33 hk3 HK.out
              have e5 := hra.i
              simp only [Nat.zero_add] at e5
              rw [HTL.out.key] at e5
              obtain ⟨o1, o2, o3⟩ := HIX.out
              obtain ⟨ri, hri⟩ : ∃ ri, ri = r.1.2.2 := ⟨_, rfl⟩
              rw [← hri] at e5 o1 o2 m1 m2 HGM
              have hnk := HNK.out
              have i2 : IntKind.i64.wrap (ki - ri) = ki - ri := IntWalk.i64_in _ (by omega)
              have i3 : IntKind.i64.wrap (ki + n) = ki + n := IntWalk.i64_in _ (by omega)
              have i4 : IntKind.i64.wrap (ki + n - ri) = ki + n - ri := IntWalk.i64_in _ (by omega)
              have HRR3 := HRR
              clear hm hra hk3 hri hnk m1 m2
              by_cases hlt : ri < ki
              · have HGN := Lib.hid (show delGo (kt, kc, ki) n F (cutM (zs1.map (·.2)) i (ki - ri)) (i + 1) lv1 = R by have h1 := HGM.out; rw [if_pos hlt] at h1; exact h1)
                have HCF := Lib.hid (cutM_facts HOK1.out HRR.out (ki - ri))
                clear o1 o2 o3
                go_wp2_with fail
                refine (cut_doc HD3.out i (ki - ri) (by have := HL1.out; omega) (by have := HZ1.out; omega)).mono ?_
                rintro e w5 ⟨rfl, v5, zs5, h51, h52, h53, h54⟩
                have H51 := Lib.hid h51
                have H52 := Lib.hid h52
                have H53 := Lib.hid (HS3.out.trans h53)
                clear h51 h52 h53 h54 c33 e5 i2 i3 i4
                go_wp2
                go_roundg F
                case measure => have := HF.out; omega
                case rel =>
                  obtain ⟨q1, q2, q3, x5, q4, q5, q6⟩ := HCF.out
                  have q7 := tot_drop q4
                  exact ⟨i + 1, v5, zs5, lv1, by go_num, H51.out, H53.out, by rw [H52.out]; exact HGN.out, by rw [H52.out]; exact q1, by rw [H52.out, q2]; exact HT1.out, by rw [H52.out]; have := HTD.out; have := HF.out; omega, by rw [H52.out]; have := HLB.out.1; omega, HLB.out.2⟩
              · have HCF := Lib.hid (cutM_facts HOK1.out HRR.out (ki + n - ri))
                have HGN := Lib.hid (show (match (cutM (zs1.map (·.2)) i (ki + n - ri))[i]? with
                  | none => (zs1.map (·.2), lv1)
                  | some x => if x.2.2 = true then delGo (kt, kc, ki) n F (cutM (zs1.map (·.2)) i (ki + n - ri)) (i + 1) lv1
                    else delGo (kt, kc, ki) n F ((cutM (zs1.map (·.2)) i (ki + n - ri)).set i (x.1, x.2.1, true)) (i + 1) (lv1 - x.2.1.length)) = R by have h1 := HGM.out; rw [if_neg hlt] at h1; exact h1)
                clear o1 o2 o3
                go_wp2_with fail
                refine (cut_doc HD3.out i (ki + n - ri) (by have := HL1.out; omega) (by have := HZ1.out; omega)).mono ?_
                rintro e w5 ⟨rfl, v5, zs5, h51, h52, h53, h54⟩
                have H51 := Lib.hid h51
                have H52 := Lib.hid h52
                have H53 := Lib.hid (HS3.out.trans h53)
                clear h53 c33 e5 i2 i3 i4
                obtain ⟨q1, q2, q3, x5, q4, q5, q6⟩ := HCF.out
                have HQ1 := Lib.hid q1
                have HQ2 := Lib.hid (And.intro q2 q3)
                have HQ4 := Lib.hid q4
                have HQD := Lib.hid (tot_drop q4)
                have HQ6 := Lib.hid q6
                have HGP := Lib.hid (show (if x5.2.2 = true then delGo (kt, kc, ki) n F (cutM (zs1.map (·.2)) i (ki + n - ri)) (i + 1) lv1
                    else delGo (kt, kc, ki) n F ((cutM (zs1.map (·.2)) i (ki + n - ri)).set i (x5.1, x5.2.1, true)) (i + 1) (lv1 - x5.2.1.length)) = R by have h1 := HGN.out; rw [q4] at h1; exact h1)
                rw [← h52] at q4
                have hi5 : i < zs5.length := by have := (List.getElem?_eq_some_iff.1 q4).1; simpa using this
                obtain ⟨x6, hz5⟩ : ∃ x6, zs5[i]? = some (x6, x5) := by
                  refine ⟨zs5[i].1, ?_⟩
                  rw [List.getElem?_map, List.getElem?_eq_getElem hi5, Option.map_some, Option.some.injEq] at q4
                  rw [List.getElem?_eq_getElem hi5, ← q4]
                have hx5 : (zs5.map (·.1))[i]? = some x6 := by rw [List.getElem?_map, hz5]; rfl
                have ht5 := h51.tells (x6, x5) (List.mem_of_getElem? hz5)
                have hne5 : zs5.map (·.1) ≠ [] := fun h => by rw [h] at hx5; simp at hx5
                obtain ⟨g5, c5, rfl, hcap5, hcm5, hgd5, hgl5⟩ := h51.row.some hne5
                have hat5 := h51.row.at hx5
                have hx632 : x6.1.2.1.length = 32 := by rw [ht5.key]; exact ht5.k32
                have hra5 := RunAt.at hx632 hat5
                have e7 := hra5.d
                have e8 := hra5.r
                rw [ht5.dead] at e7
                rw [ht5.len] at e8
                simp only [show runR.sz = 36 from rfl] at e7 e8
                have HE8 := Lib.hid e8
                have z7 := row_free h51.row (i * 36 + 35)
                rw [List.length_map] at *
                have c0 : w5.cell? ⟨d, 0, none⟩ = some (.slice (some ⟨g5, 0, none⟩) zs5.length c5) := by rw [Lib.cell_of_heap h51.cells]; rfl
                obtain ⟨L5, hL5⟩ : ∃ L5, L5 = zs5.length := ⟨_, rfl⟩
                rw [← hL5] at c0
                have i5 : (i : Int) < (L5 : Int) := by omega
                have HZ5 := Lib.hid hz5
                have HGD := Lib.hid (show g5 ≠ d by omega)
                have hl5 : x5.2.1.length ≤ 10000 := by
                  have h1 := HQD.out
                  have h2 := HQ2.out.2
                  have h3 := tot_take (rs := zs1.map (·.2)) i
                  have := HT1.out
                  have := HTOT.out
                  omega
                have HL5 := Lib.hid hl5
                clear h51 h52 h54 q1 q2 q3 q4 q5 q6 hi5 hx5 ht5 hne5 hcap5 hcm5 hgd5 hgl5 hat5 hx632 hra5 e8 hz5
                obtain ⟨dd, hdd⟩ : ∃ dd, dd = x5.2.2 := ⟨_, rfl⟩
                rw [← hdd] at e7 HGP
                clear hdd
                cases dd with
                | true =>
                  clear hL5 hl5
                  go_wp2
                  go_roundg F
                  case measure => have := HF.out; omega
                  case rel =>
                    exact ⟨i + 1, _, zs5, lv1, by go_num, H51.out, H53.out, by rw [H52.out]; exact HGP.out, by rw [H52.out]; exact HQ1.out, by rw [H52.out, HQ2.out.1]; exact HT1.out, by rw [H52.out]; have := HQD.out; have := HQ2.out.2; have := HQ6.out; have := HTD.out; have := HF.out; omega, by rw [H52.out]; have := HQD.out; have := HQ2.out.2; have := HLB.out.1; omega, HLB.out.2⟩
                | false =>
                  have hkill := H51.out.kill HZ5.out
                  have HKILL := Lib.hid hkill
                  clear hkill
                  clear hL5
                  go_upto_region 23 with fail
                  generalize w5.setCell ⟨g5, i * 36 + 35, none⟩ (.bool true) = w6 at *
                  have hd6 := HKILL.out.1
                  have hx6 : ((zs5.set i ((x6.1, x6.2.1, true), (x5.1, x5.2.1, true))).map (·.1))[i]? = some (x6.1, x6.2.1, true) := by
                    rw [List.getElem?_map, List.getElem?_set_self (List.getElem?_eq_some_iff.1 HZ5.out).1]; rfl
                  have ht6 := hd6.tells _ (List.mem_of_getElem? (show (zs5.set i ((x6.1, x6.2.1, true), (x5.1, x5.2.1, true)))[i]? = some ((x6.1, x6.2.1, true), (x5.1, x5.2.1, true)) by rw [List.getElem?_set_self (List.getElem?_eq_some_iff.1 HZ5.out).1]))
                  have hat6 := hd6.row.at hx6
                  have hra6 := RunAt.at (x := (x6.1, x6.2.1, true)) (show x6.1.2.1.length = 32 by have h1 := ht6.key; simp only at h1; rw [h1]; exact ht6.k32) hat6
                  have e8 := hra6.r
                  have h9 := ht6.len
                  simp only at e8 h9
                  rw [h9] at e8
                  simp only [show runR.sz = 36 from rfl] at e8
                  have c2 : w6.cell? ⟨d, 2, none⟩ = some (.int .i64 lv1) := by rw [Lib.cell_of_heap hd6.cells]; rfl
                  have i6 : IntKind.i64.wrap (lv1 - (x5.2.1.length : Int)) = lv1 - (x5.2.1.length : Int) := IntWalk.i64_in _ (by have := HLB.out; have := HLV.out; have := HTOT.out; have := HL5.out; omega)
                  have hbd := (Below.refl w6.heap.size w6).drew
                  have HD7 := Lib.hid (hd6.below hbd)
                  have HS7 := Lib.hid ((H53.out.trans HKILL.out.2).trans (Step.of_below hbd))
                  generalize x5.2.1.length = l5 at *
                  clear hd6 hx6 ht6 hat6 hra6 h9 hbd e7 z7 c0 i5
                  go_still_tail 12, (by kernel_rfl)
                  change wpList _ _ _ _ _ w6.drew
                  clear e8 c2 i6
                  generalize w6.drew = w7 at *
                  have c2 : w7.cell? ⟨d, 2, none⟩ = some (.int .i64 lv1) := by rw [Lib.cell_of_heap HD7.out.cells]; rfl
                  have z2 : w7.frozen? ⟨d, 2, none⟩ = false := Lib.frozen_of_heap HD7.out.cells 2
                  have HF8 := Lib.hid (HD7.out.field (size' := size) (live' := lv1 - l5) 2 (.int .i64 (lv1 - l5)) rfl)
                  go_wp2
                  go_roundg F
                  case measure => have := HF.out; omega
                  case rel =>
                    have hset := set_facts HQ1.out HQ4.out
                    have hmap : (zs5.set i ((x6.1, x6.2.1, true), (x5.1, x5.2.1, true))).map (·.2) = (cutM (zs1.map (·.2)) i (ki + n - ri)).set i (x5.1, x5.2.1, true) := by rw [List.map_set, H52.out]
                    refine ⟨i + 1, _, _, lv1 - l5, by go_num, HF8.out.1, HS7.out.trans HF8.out.2, by rw [hmap]; exact HGP.out, by rw [hmap]; exact hset.1, by rw [hmap, hset.2.1, HQ2.out.1]; exact HT1.out, ?_, ?_, ?_⟩
                    · rw [hmap, hset.2.2]; have := HQD.out; have := HQ2.out.2; have := HQ6.out; have := HTD.out; have := HF.out; omega
                    · rw [hmap, hset.2.2]; have := HQD.out; have := HQ2.out.2; have := HLB.out.1; omega
                    · have := HLB.out.2; omega
          · have HGE := Lib.hid (show (zs1.map (·.2), lv1) = R by
              have h1 := HGO.out
              have h2 : (zs1.map (·.2))[i]? = none := List.getElem?_eq_none (by rw [List.length_map, ← HL1.out]; omega)
              cases gk with
              | zero => exact h1
              | succ f => simp only [delGo, h2] at h1; exact h1)
            have i1 : ¬ (i : Int) < (L1 : Int) := by omega
            go_wp2
            go_ret
            exact ⟨ret_i HE.out.symm, v1, zs1, by rw [← HRD.out, ← HGE.out]; exact HD1.out, by rw [← HRD.out, ← HGE.out], (Step.of_below (d := d) (v := v) HBW.out).trans HS1.out⟩
end Go.Proofs.Ytcgioboiebanpaa
