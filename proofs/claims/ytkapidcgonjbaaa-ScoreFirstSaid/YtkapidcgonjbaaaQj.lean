/- The reference's ranks: walks. -/
import Derived.Test.YtkapidcgonjbaaaQi
namespace Go.Proofs.Ytkapidcgonjbaaa
open Go.RowKit
open Go.Sort hiding Below
set_option linter.unusedVariables false

theorem ahead_eq (l : List Nat) (a b : Nat) : rkLtN l a b = if isN (fAt l a) = isN (fAt l b) then (if fOrd (fAt l a) (fAt l b) = 0 then decide (a < b) else decide (0 < fOrd (fAt l a) (fAt l b))) else isN (fAt l b) := by
  have h1 := fOrd_pos (fAt l a) (fAt l b)
  have h2 : fOrd (fAt l a) (fAt l b) = 0 ↔ rk (fAt l a) = rk (fAt l b) := cmpInt_eq _ _
  by_cases hn : isN (fAt l a) = isN (fAt l b)
  · have he : lastOf (fAt l a) = lastOf (fAt l b) := by unfold lastOf; rw [hn]
    rw [if_pos hn]
    unfold rkLtN
    rw [he]
    split
    · next h => have := h2.1 h; congr 1; apply propext; omega
    · next h => have := mt h2.2 h; congr 1; apply propext; omega
  · rw [if_neg hn]
    cases h3 : isN (fAt l b) with
    | true =>
      have h4 : isN (fAt l a) = false := by cases h : isN (fAt l a) <;> simp_all
      rw [rkLtN_iff, lastOf_num h4, lastOf_nan h3]; exact .inl (by decide)
    | false =>
      have h4 : isN (fAt l a) = true := by cases h : isN (fAt l a) <;> simp_all
      rw [rkLtN_false, lastOf_nan h4, lastOf_num h3]; omega

set_option maxHeartbeats 4000000 in
set_option maxRecDepth 100000 in
theorem ahead_any (p : Option Addr) (c : Nat) (l : List Nat) (i j : Nat) (hi : i < l.length) (hj : j < l.length) (w : World) (hin : fltR.In w p l) :
    Calls Try.prog 48 #[.slice p l.length c, .int .i64 i, .int .i64 j] w fun e w' => e = .returned (.bool (rkLtN l i j)) ∧ Below w.heap.size w w' := by
  obtain ⟨b, off, rfl, hlt, hc⟩ := flts_at hin hi
  obtain ⟨q1, hx1⟩ := hc i hi
  obtain ⟨q2, hx2⟩ := hc j hj
  have HC := Lib.hid hc
  have i1 : (i : Int) < l.length := by omega
  have i2 : (j : Int) < l.length := by omega
  have HE := Lib.hid (ahead_eq l i j)
  obtain ⟨x, hx⟩ : ∃ x, x = fAt l i := ⟨_, rfl⟩
  obtain ⟨y, hy⟩ : ∃ y, y = fAt l j := ⟨_, rfl⟩
  rw [← hx, ← hy] at HE
  rw [← hx] at q1 hx1
  rw [← hy] at q2 hx2
  have HX := Lib.hid hx
  have HY := Lib.hid hy
  have HRO := Lib.hid (fun W => still_below (rorder_any x y hx1 hx2 W))
  have HRX := Lib.hid (fun W => still_below (rnan_any x W))
  have HRY := Lib.hid (fun W => still_below (rnan_any y W))
  clear hx hy hx1 hx2 hc hin
  have q9 : b < w.heap.size := hlt
  obtain ⟨R, hR⟩ : ∃ R, R = rkLtN l i j := ⟨_, rfl⟩
  rw [← hR] at HE ⊢
  clear hR
  by_cases hn : isN x = isN y
  · have hE := HE.out
    rw [if_pos hn] at hE
    have HE2 := Lib.hid hE
    obtain ⟨nx, hnx⟩ : ∃ nx, nx = isN y := ⟨_, rfl⟩
    rw [hn, ← hnx] at HRX
    rw [← hnx] at HRY
    clear hn hE HE hnx
    obtain ⟨cc, hcc⟩ : ∃ cc, cc = fOrd x y := ⟨_, rfl⟩
    rw [← hcc] at HE2 HRO
    clear hcc
    by_cases h0 : cc = 0
    · have hE := HE2.out
      rw [if_pos h0] at hE
      have HE3 := Lib.hid hE
      subst h0
      clear hE HE2
      go_enter Try.func48, Try.ntmps48
      go_upto_region 1 with fail
      refine wp_region_over (by kernel_rfl) (by kernel_rfl) ?_
      repeat (go_big_quiet_step (first | (go_at_call 34; exact Calls.over_of (HRX.out _)) | (go_at_call 34; exact Calls.over_of (HRY.out _))))
      refine wpQuiet_nil ?_
      rintro _ ⟨z0, rfl⟩
      have HB1 := Lib.hid (ov_below w z0)
      have q1' := ((HB1.out.cell (p := ⟨b, off + i, none⟩) hlt).trans q1)
      have q2' := ((HB1.out.cell (p := ⟨b, off + j, none⟩) hlt).trans q2)
      have q9' : b < (ov w z0).heap.size := Nat.lt_of_lt_of_le hlt HB1.out.size
      clear q1 q2 q9
      generalize ov w z0 = w1 at *
      go_upto_region 3 with fail
      refine wp_region_over (by kernel_rfl) (by kernel_rfl) ?_
      repeat (go_big_quiet_step ((go_at_call 11; exact Calls.over_of (HRO.out _))))
      refine wpQuiet_nil ?_
      rintro _ ⟨z1, rfl⟩
      have HB2 := Lib.hid (HB1.out.trans ((ov_below w1 z1).mono HB1.out.size))
      clear q1' q2' q9'
      go_wp2
      go_ret
      exact ⟨by rw [HE3.out]; congr 2 <;> simp, HB2.out⟩
    · have hE := HE2.out
      rw [if_neg h0] at hE
      have HE3 := Lib.hid hE
      have d0 : (cc == 0) = false := beq_eq_false_iff_ne.2 h0
      clear hE HE2 h0
      go_enter Try.func48, Try.ntmps48
      go_upto_region 1 with fail
      refine wp_region_over (by kernel_rfl) (by kernel_rfl) ?_
      repeat (go_big_quiet_step (first | (go_at_call 34; exact Calls.over_of (HRX.out _)) | (go_at_call 34; exact Calls.over_of (HRY.out _))))
      refine wpQuiet_nil ?_
      rintro _ ⟨z0, rfl⟩
      have HB1 := Lib.hid (ov_below w z0)
      have q1' := ((HB1.out.cell (p := ⟨b, off + i, none⟩) hlt).trans q1)
      have q2' := ((HB1.out.cell (p := ⟨b, off + j, none⟩) hlt).trans q2)
      have q9' : b < (ov w z0).heap.size := Nat.lt_of_lt_of_le hlt HB1.out.size
      clear q1 q2 q9
      generalize ov w z0 = w1 at *
      go_upto_region 3 with fail
      refine wp_region_over (by kernel_rfl) (by kernel_rfl) ?_
      repeat (go_big_quiet_step ((go_at_call 11; exact Calls.over_of (HRO.out _))))
      refine wpQuiet_nil ?_
      rintro _ ⟨z1, rfl⟩
      have HB2 := Lib.hid (HB1.out.trans ((ov_below w1 z1).mono HB1.out.size))
      clear q1' q2' q9'
      go_wp2
      go_ret
      exact ⟨ret_bool HE3.out.symm, HB2.out⟩
  · have hE := HE.out
    rw [if_neg hn] at hE
    have HE2 := Lib.hid hE
    obtain ⟨ny, hny⟩ : ∃ ny, ny = isN y := ⟨_, rfl⟩
    have hnx : isN x = !ny := by rw [hny]; cases h1 : isN x <;> cases h2 : isN y <;> simp_all
    rw [hnx] at HRX
    rw [← hny] at HRY HE2
    clear hn hE HE hny hnx
    go_enter Try.func48, Try.ntmps48
    go_upto_region 1 with fail
    refine wp_region_over (by kernel_rfl) (by kernel_rfl) ?_
    repeat (go_big_quiet_step (first | (go_at_call 34; exact Calls.over_of (HRX.out _)) | (go_at_call 34; exact Calls.over_of (HRY.out _))))
    refine wpQuiet_nil ?_
    rintro _ ⟨z0, rfl⟩
    have HB1 := Lib.hid (ov_below w z0)
    have q2' := ((HB1.out.cell (p := ⟨b, off + j, none⟩) hlt).trans q2)
    clear q1 q2 q9
    generalize ov w z0 = w1 at *
    cases ny with
    | true =>
      go_wp2_with fail
      refine (HRY.out _).mono ?_
      rintro e w2 ⟨rfl, hb2⟩
      have HB2 := Lib.hid (HB1.out.trans (hb2.mono HB1.out.size))
      clear hb2
      go_wp2
      go_ret
      exact ⟨ret_bool HE2.out.symm, HB2.out⟩
    | false =>
      go_wp2_with fail
      refine (HRY.out _).mono ?_
      rintro e w2 ⟨rfl, hb2⟩
      have HB2 := Lib.hid (HB1.out.trans (hb2.mono HB1.out.size))
      clear hb2
      go_wp2
      go_ret
      exact ⟨ret_bool HE2.out.symm, HB2.out⟩

set_option maxHeartbeats 4000000 in
set_option maxRecDepth 100000 in
theorem rrank_any (p : Option Addr) (c : Nat) (l R : List Nat) (hR : IsRank l R) (w : World) (hlen : l.length ≤ 1000) (hin : fltR.In w p l) :
    Calls Try.prog 29 #[.slice p l.length c] w fun e w' => ∃ v, e = .returned v ∧ intR.row 3 w.heap.size (R.map fun x => ((x : Nat) : Int)) v w' ∧ Below w.heap.size w w' := by
  have HX := Lib.hid hin
  have HRR := Lib.hid hR
  obtain ⟨i, z, hi, hz0, hz1, hz2, hz3⟩ := int43.info
  have hz4 : i.zero = some (.int .i64 0) := by have := info3; rw [hi] at this; simp at this; exact this.1
  obtain rfl : z = .int .i64 0 := by rw [hz0] at hz4; simpa using hz4
  have b2 : i.bytes * l.length ≤ 281474976710656 := by rw [hz2]; omega
  have b3 : l.length ≤ maxLen := by unfold maxLen at *; omega
  have HI := Lib.hid hi
  have HZ0 := Lib.hid hz0
  have HZ1 := Lib.hid hz1
  have HLR := Lib.hid hR.len
  clear hin hR hi hz0 hz1 hz2 hz3 hz4
  go_enter Try.func29, Try.ntmps29
  go_wp2_with (at_make; refine wpList_make_full _ rfl _ _ 43 rfl w.heap.size 3 i _ 1 Try.underlying43 HI.out HZ0.out HZ1.out _ _ _ _ l.length rfl rfl rfl rfl b2 b3 (Nat.le_refl _) ?_)
  intro w1 hown hgr
  have hr : intR.row 3 w.heap.size (outR R 0) (.slice (some ⟨w.heap.size, 0, none⟩) l.length l.length) w1 := ⟨fun _ _ => trivial, by
    rw [outR_zero, List.length_replicate, HLR.out]
    have := made_ints l.length
    rw [Nat.mul_one] at this
    rw [← this]
    exact hown⟩
  have HR := Lib.hid hr
  have HB1 := Lib.hid ((Below.refl w.heap.size w).grown hgr (Nat.le_refl _) (fun k hk => by cases hk))
  clear hown hgr hr b2 b3
  go_wp2_with fail
  go_loopg [4] l.length (fun g v4 wr => ∃ k : Nat, g + k = l.length ∧ v4 = .int .i64 k ∧ intR.row 3 w.heap.size (outR R k) (.slice (some ⟨w.heap.size, 0, none⟩) l.length l.length) wr ∧ Below w.heap.size w wr)
  case atStart => exact ⟨0, by omega, rfl, HR.out, HB1.out⟩
  case round =>
    obtain ⟨k, hg, rfl, hrow, hbw⟩ := hrel
    have HG := Lib.hid hg
    have HROW := Lib.hid hrow
    have HB := Lib.hid hbw
    clear hg hrow hbw
    by_cases hk : k < l.length
    · have HK := Lib.hid hk
      have i1 : (k : Int) < l.length := by omega
      go_wp2_with fail
      go_loopg [5, 6] l.length (fun g v5 v6 wz => ∃ m : Nat, g + m = l.length ∧ v6 = .int .i64 m ∧ v5 = .int .i64 (cntR l k m : Nat) ∧ Below wr.heap.size wr wz)
      case atStart => exact ⟨0, by omega, rfl, by simp [cntR], Below.refl _ _⟩
      case round =>
        obtain ⟨m, hg2, rfl, rfl, hbz⟩ := hrel
        have HG2 := Lib.hid hg2
        have HBZ := Lib.hid hbz
        have HBY := Lib.hid (HB.out.trans (hbz.mono HB.out.size))
        clear hg2 hbz
        by_cases hm : m < l.length
        · have HM := Lib.hid hm
          have i2 : (m : Int) < l.length := by omega
          have HA := Lib.hid (ahead_any p c l m k hm hk _ (HX.out.below HBY.out))
          have HS := Lib.hid (cntR_succ l k m)
          have hle := cntR_le l k m
          cases hb : rkLtN l m k with
          | true =>
            rw [hb] at HA HS
            have HS2 := Lib.hid (show cntR l k (m + 1) = cntR l k m + 1 from HS.out)
            clear hb HS
            generalize cntR l k m = cn at *
            go_wp2_with fail
            refine HA.out.mono ?_
            rintro e w2 ⟨rfl, hb2⟩
            have HB2 := Lib.hid (HBZ.out.trans (hb2.mono HBZ.out.size))
            clear hb2 HA
            go_wp2
            go_roundg (gk - 1)
            case measure => have := HG2.out; have := HM.out; omega
            case rel => exact ⟨m + 1, by have := HG2.out; have := HM.out; omega, by go_num, by rw [HS2.out]; go_num, HB2.out⟩
          | false =>
            rw [hb] at HA HS
            have HS2 := Lib.hid (show cntR l k (m + 1) = cntR l k m from HS.out)
            clear hb HS
            generalize cntR l k m = cn at *
            go_wp2_with fail
            refine HA.out.mono ?_
            rintro e w2 ⟨rfl, hb2⟩
            have HB2 := Lib.hid (HBZ.out.trans (hb2.mono HBZ.out.size))
            clear hb2 HA
            go_wp2
            go_roundg (gk - 1)
            case measure => have := HG2.out; have := HM.out; omega
            case rel => exact ⟨m + 1, by have := HG2.out; have := HM.out; omega, by go_num, by rw [HS2.out], HB2.out⟩
        · have hme : m = l.length := by have := HG2.out; omega
          obtain ⟨hc1, hc2⟩ := outR_set HRR.out hk
          have HC2 := Lib.hid hc2
          have hrz := HROW.out.below HBZ.out
          have hcl : cntR l k l.length < (outR R k).length := by rw [outR_len]; exact hc1
          have e1 := int_cell (hrz.at (k := cntR l k l.length) (x := (outR R k)[cntR l k l.length]) (by simp) |> fun h => by rw [Nat.zero_add]; exact h : intR.At wr ⟨w.heap.size, 0 + cntR l k l.length * intR.sz, none⟩ (outR R k)[cntR l k l.length])
          rw [Nat.zero_add] at e1
          have e2 := int_frozen hcl hrz
          obtain ⟨hs1, hs2⟩ := int_set (k : Int) hcl hrz
          rw [hc2] at hs1
          have HS1 := Lib.hid hs1
          have HS2 := Lib.hid (HBY.out.trans hs2)
          have hcn : cntR l k l.length < l.length := by have := HLR.out; omega
          rw [hme]
          generalize (outR R k)[cntR l k l.length] = z0 at *
          generalize cntR l k l.length = cn at *
          have i3 : (cn : Int) < l.length := by omega
          have i4 : ¬ (l.length : Int) < l.length := by omega
          clear hc1 hc2 hrz hcl hs1 hs2 hme
          go_wp2
          go_roundg (l.length - (k + 1))
          case measure => have := HG.out; have := HK.out; omega
          case rel => exact ⟨k + 1, by have := HK.out; omega, by go_num, HS1.out, HS2.out⟩
    · have hke : k = l.length := by have := HG.out; omega
      have hr := HROW.out
      rw [hke, outR_all HRR.out] at hr
      have HR2 := Lib.hid hr
      clear hr hke
      go_wp2
      go_ret
      exact ⟨_, rfl, HR2.out, HB.out⟩
end Go.Proofs.Ytkapidcgonjbaaa
