/- The walk of the reference's Right. -/
import Derived.Test.YtchbpfkjhilgiaaNa
namespace Go.Proofs.Ytchbpfkjhilgiaa
open Go.RowKit
set_option linter.unusedVariables false

set_option maxHeartbeats 4000000 in
set_option maxRecDepth 100000 in
theorem rright_any (p : Option Addr) (c : Nat) (l : List Nd) (w : World) (hlen : l.length ≤ 1000) (hin : nodeR.In w p l) :
    Calls Try.prog 9 #[.slice p l.length c] w fun e w' => e = .returned (.bool (decide (RightL l))) ∧ Below w.heap.size w w' := by
  have HX := Lib.hid hin
  have HRN := Lib.hid (fun (k : Nat) (hk : k < l.length) (h : ¬ okN l k) => (show decide (RightL l) = false from decide_eq_false fun hr => h (hr.1 k hk)))
  clear hin
  go_enter Try.func9, Try.ntmps9
  go_wp2_with fail
  go_loopg [3] l.length (fun g v3 wr => ∃ k : Nat, g + k = l.length ∧ v3 = .int .i64 k ∧ (∀ i, i < k → okN l i) ∧ (∀ i j, i < j → j < k → keyN l i ≠ keyN l j) ∧ Below w.heap.size w wr)
  case atStart => exact ⟨0, by omega, rfl, fun i hi => by omega, fun i j _ hj => by omega, Below.refl _ _⟩
  case round =>
    obtain ⟨k, hg, rfl, hall, hdis, hbw⟩ := hrel
    have HG := Lib.hid hg
    have HALL := Lib.hid hall
    have HDIS := Lib.hid hdis
    have HB := Lib.hid hbw
    clear hg hall hdis hbw
    by_cases hk : k < l.length
    · obtain ⟨b, off, rfl, hlt, h32, hat⟩ := node_at (HX.out.below HB.out) hk
      have HIN := Lib.hid (HX.out.below HB.out)
      obtain ⟨x, hx⟩ : ∃ x, x = l.getD k nd0 := ⟨_, rfl⟩
      have HOK := Lib.hid (show okN l k ↔ (may x.2.2.1 = true ∧ -1 ≤ x.2.1 ∧ x.2.1 < l.length ∧ (0 ≤ x.2.1 → kCmp (keyN l x.2.1.toNat) x.1 < 0)) by rw [hx]; exact Iff.rfl)
      have HKX := Lib.hid (show keyN l k = x.1 by rw [hx]; rfl)
      have HXX := Lib.hid hx.symm
      rw [← hx] at h32 hat
      have i1 : (k : Int) < l.length := by omega
      have H32 := Lib.hid h32
      have q1 := hat.p
      have q2 := hat.r
      have q3 := hat.kf
      have q4 := hat.ka
      clear hat hx h32
      obtain ⟨⟨kt, kc, ki⟩, xp, xr, xd⟩ := x
      simp only at HOK HKX H32 q1 q2 q4
      by_cases p1 : xp < -1
      · have HF := Lib.hid (HRN.out k hk (by rw [HOK.out]; exact fun h => absurd h.2.1 (by omega)))
        go_wp2
        go_ret
        exact ⟨ret_boolN HF.out.symm, HB.out⟩
      by_cases p2 : (l.length : Int) ≤ xp
      · have HF := Lib.hid (HRN.out k hk (by rw [HOK.out]; exact fun h => absurd h.2.2.1 (by omega)))
        go_wp2
        go_ret
        exact ⟨ret_boolN HF.out.symm, HB.out⟩
      go_wp2_with fail
      refine (May_any _ _).mono ?_
      rintro e w2 ⟨rfl, rfl⟩
      cases hm : may xr with
      | false =>
        have HF := Lib.hid (HRN.out k hk (by rw [HOK.out]; exact fun h => by rw [hm] at h; exact absurd h.1 (by decide)))
        clear hm
        go_wp2
        go_ret
        exact ⟨ret_boolN HF.out.symm, HB.out⟩
      | true =>
        have HM := Lib.hid hm
        clear hm
        by_cases p3 : xp < 0
        · have HOKK := Lib.hid (show okN l k by rw [HOK.out]; exact ⟨HM.out, by omega, by omega, fun h => by omega⟩)
          have d1 : decide (0 ≤ xp) = false := decide_eq_false (by omega)
          clear HOK
          go_wp2_with fail
          refine wp_region_over (by kernel_rfl) (by kernel_rfl) ?_
          repeat (go_big_quiet_step (fail))
          refine wpQuiet_nil ?_
          rintro _ ⟨z0, rfl⟩
          have HBI := Lib.hid (HB.out.trans ((ov_below wr z0).mono HB.out.size))
          generalize ov wr z0 = wz at *
          clear q1 q2 q3 q4
          rename World => wq
          go_wp2_with fail
          go_loopg [5] k (fun g v5 wr => ∃ m : Nat, g + m = k ∧ v5 = .int .i64 m ∧ (∀ j, j < m → keyN l j ≠ (kt, kc, ki)) ∧ Below wq.heap.size wq wr)
          case atStart => exact ⟨0, by omega, rfl, fun j hj => by omega, Below.refl _ _⟩
          case round =>
            obtain ⟨m, hg, rfl, hne, hbw⟩ := hrel
            have HG2 := Lib.hid hg
            have HNE := Lib.hid hne
            have HB2 := Lib.hid hbw
            clear hg hne hbw
            by_cases hm : m < k
            · have hml : m < l.length := by omega
              obtain ⟨b1, off1, he1, hlt1, h321, hat1⟩ := node_at (HX.out.below (HBI.out.trans (HB2.out.mono HBI.out.size))) hml
              obtain ⟨b2, off2, he2, hlt2, h322, hat2⟩ := node_at (HX.out.below (HBI.out.trans (HB2.out.mono HBI.out.size))) hk
              cases he1
              cases he2
              rw [HXX.out] at hat2
              have s1 := hat1.kf
              have s2 := hat1.ka
              have s3 := hat2.kf
              have s4 := hat2.ka
              simp only at s4
              have HKN := Lib.hid (show keyN l m = (l.getD m nd0).1 from rfl)
              generalize l.getD m nd0 = y at *
              obtain ⟨⟨yt, yc, yi⟩, yp, yr, yd⟩ := y
              simp only at s2 HKN h321
              have HKE := Lib.hid (kCmp_zero (yt, yc, yi) (kt, kc, ki))
              have HKZ := Lib.hid (keys_zero yt yc yi kt kc ki)
              have j1 : (m : Int) < l.length := by omega
              have j2 : (m : Int) < k := by omega
              have j3 := h321
              have j4 := H32.out
              try simp only at j4
              have d9 : decide ((m : Int) < k) = true := decide_eq_true (by omega)
              clear hat1 hat2 h322
              by_cases hke : keyEq yt yc yi kt kc ki = true
              · have HF := Lib.hid (show decide (RightL l) = false from decide_eq_false (fun hr => hr.2 m k hm hk (by
                  rw [HKN.out, HKX.out]; exact HKE.out.1 (by have := HKZ.out; rw [hke] at this; exact of_decide_eq_true this.symm))))
                go_wp2_with fail
                refine wp_region_over (by kernel_rfl) (by kernel_rfl) ?_
                repeat (go_big_quiet_step (fail))
                refine wpQuiet_nil ?_
                rintro _ ⟨z0, rfl⟩
                have HBZ := Lib.hid (HBI.out.trans ((HB2.out.trans ((ov_below wr z0).mono HB2.out.size)).mono HBI.out.size))
                clear s1 s2 s3 s4
                go_wp2
                go_ret
                exact ⟨ret_boolN HF.out.symm, HBZ.out⟩
              · have hke' : keyEq yt yc yi kt kc ki = false := by simpa using hke
                have HF := Lib.hid (show keyN l m ≠ (kt, kc, ki) from fun he => hke (by have := HKZ.out; rw [this]; exact decide_eq_true (HKE.out.2 (by rw [← HKN.out]; exact he))))
                clear hke
                go_wp2_with fail
                refine wp_region_over (by kernel_rfl) (by kernel_rfl) ?_
                repeat (go_big_quiet_step (fail))
                refine wpQuiet_nil ?_
                rintro _ ⟨z0, rfl⟩
                have HBZ := Lib.hid (HB2.out.trans ((ov_below wr z0).mono HB2.out.size))
                clear s1 s2 s3 s4
                go_wp2
                go_roundg (gk - 1)
                case measure => have := HG2.out; omega
                case rel => exact ⟨m + 1, by have := HG2.out; omega, by go_num, fun j hj => by rcases Nat.lt_succ_iff_lt_or_eq.1 hj with h | rfl; exact HNE.out j h; exact HF.out, HBZ.out⟩
            · have HMK := Lib.hid (show m = k by have := HG2.out; omega)
              have HBZ := Lib.hid (HBI.out.trans (HB2.out.mono HBI.out.size))
              go_wp2
              go_roundg (l.length - (k + 1))
              case measure => have := HG.out; omega
              case rel => exact ⟨k + 1, by omega, by go_num, fun i hi => by rcases Nat.lt_succ_iff_lt_or_eq.1 hi with h | rfl; exact HALL.out i h; exact HOKK.out,
                fun i j hij hj => by
                  rcases Nat.lt_succ_iff_lt_or_eq.1 hj with h | rfl
                  · exact HDIS.out i j hij h
                  · rw [HKX.out]; exact HNE.out i (by rw [HMK.out]; exact hij), HBZ.out⟩
        · obtain ⟨pn, rfl⟩ := Int.eq_ofNat_of_zero_le (show 0 ≤ xp by omega)
          have hpn : pn < l.length := by omega
          obtain ⟨b', off', he, hltp, hp32, hatp⟩ := node_at HIN.out hpn
          cases he
          have HKY := Lib.hid (show kCmp (keyN l pn) (kt, kc, ki) = keysCmp (l.getD pn nd0).1.1 (l.getD pn nd0).1.2.1 (l.getD pn nd0).1.2.2 kt kc ki from rfl)
          have s2 := hatp.kf
          have s3 := hatp.ka
          generalize l.getD pn nd0 = y at *
          obtain ⟨⟨yt, yc, yi⟩, yp, yr, yd⟩ := y
          simp only at s3 HKY hp32
          have HKC := Lib.hid (fun W => rkeys_any yt yc yi kt kc ki hp32 H32.out W)
          rw [← HKY.out] at HKC
          obtain ⟨cc, hcc⟩ : ∃ cc, cc = kCmp (keyN l pn) (kt, kc, ki) := ⟨_, rfl⟩
          rw [← hcc] at HKC
          have i2 : (pn : Int) < l.length := by omega
          have d1 : decide (0 ≤ (pn : Int)) = true := decide_eq_true (by omega)
          clear hatp HKY
          by_cases hc0 : 0 ≤ cc
          · have HF := Lib.hid (HRN.out k hk (by rw [HOK.out]; exact fun h => absurd (h.2.2.2 (by omega)) (by rw [Int.toNat_natCast, ← hcc]; omega)))
            have d2 : decide (0 ≤ cc) = true := decide_eq_true hc0
            clear HOK hcc
            go_wp2_with fail
            refine wp_region_over (by kernel_rfl) (by kernel_rfl) ?_
            repeat (go_big_quiet_step ((go_at_call 22; exact Calls.over_of (HKC.out _))))
            refine wpQuiet_nil ?_
            rintro _ ⟨z0, rfl⟩
            have HBZ := Lib.hid (HB.out.trans ((ov_below wr z0).mono HB.out.size))
            clear q1 q2 q3 q4 s2 s3
            go_wp2
            go_ret
            exact ⟨ret_boolN HF.out.symm, HBZ.out⟩
          · have HOKK := Lib.hid (show okN l k by rw [HOK.out]; exact ⟨HM.out, by omega, by omega, fun h => by rw [Int.toNat_natCast, ← hcc]; omega⟩)
            have d2 : decide (0 ≤ cc) = false := decide_eq_false hc0
            clear HRN HOK hcc
            go_wp2_with fail
            refine wp_region_over (by kernel_rfl) (by kernel_rfl) ?_
            repeat (go_big_quiet_step ((go_at_call 22; exact Calls.over_of (HKC.out _))))
            refine wpQuiet_nil ?_
            rintro _ ⟨z0, rfl⟩
            clear s2 s3
            have HBI := Lib.hid (HB.out.trans ((ov_below wr z0).mono HB.out.size))
            generalize ov wr z0 = wz at *
            clear q1 q2 q3 q4
            rename World => wq
            go_wp2_with fail
            go_loopg [5] k (fun g v5 wr => ∃ m : Nat, g + m = k ∧ v5 = .int .i64 m ∧ (∀ j, j < m → keyN l j ≠ (kt, kc, ki)) ∧ Below wq.heap.size wq wr)
            case atStart => exact ⟨0, by omega, rfl, fun j hj => by omega, Below.refl _ _⟩
            case round =>
              obtain ⟨m, hg, rfl, hne, hbw⟩ := hrel
              have HG2 := Lib.hid hg
              have HNE := Lib.hid hne
              have HB2 := Lib.hid hbw
              clear hg hne hbw
              by_cases hm : m < k
              · have hml : m < l.length := by omega
                obtain ⟨b1, off1, he1, hlt1, h321, hat1⟩ := node_at (HX.out.below (HBI.out.trans (HB2.out.mono HBI.out.size))) hml
                obtain ⟨b2, off2, he2, hlt2, h322, hat2⟩ := node_at (HX.out.below (HBI.out.trans (HB2.out.mono HBI.out.size))) hk
                cases he1
                cases he2
                rw [HXX.out] at hat2
                have s1 := hat1.kf
                have s2 := hat1.ka
                have s3 := hat2.kf
                have s4 := hat2.ka
                simp only at s4
                have HKN := Lib.hid (show keyN l m = (l.getD m nd0).1 from rfl)
                generalize l.getD m nd0 = y at *
                obtain ⟨⟨yt, yc, yi⟩, yp, yr, yd⟩ := y
                simp only at s2 HKN h321
                have HKE := Lib.hid (kCmp_zero (yt, yc, yi) (kt, kc, ki))
                have HKZ := Lib.hid (keys_zero yt yc yi kt kc ki)
                have j1 : (m : Int) < l.length := by omega
                have j2 : (m : Int) < k := by omega
                have j3 := h321
                have j4 := H32.out
                try simp only at j4
                have d9 : decide ((m : Int) < k) = true := decide_eq_true (by omega)
                clear hat1 hat2 h322
                by_cases hke : keyEq yt yc yi kt kc ki = true
                · have HF := Lib.hid (show decide (RightL l) = false from decide_eq_false (fun hr => hr.2 m k hm hk (by
                    rw [HKN.out, HKX.out]; exact HKE.out.1 (by have := HKZ.out; rw [hke] at this; exact of_decide_eq_true this.symm))))
                  go_wp2_with fail
                  refine wp_region_over (by kernel_rfl) (by kernel_rfl) ?_
                  repeat (go_big_quiet_step (fail))
                  refine wpQuiet_nil ?_
                  rintro _ ⟨z0, rfl⟩
                  have HBZ := Lib.hid (HBI.out.trans ((HB2.out.trans ((ov_below wr z0).mono HB2.out.size)).mono HBI.out.size))
                  clear s1 s2 s3 s4
                  go_wp2
                  go_ret
                  exact ⟨ret_boolN HF.out.symm, HBZ.out⟩
                · have hke' : keyEq yt yc yi kt kc ki = false := by simpa using hke
                  have HF := Lib.hid (show keyN l m ≠ (kt, kc, ki) from fun he => hke (by have := HKZ.out; rw [this]; exact decide_eq_true (HKE.out.2 (by rw [← HKN.out]; exact he))))
                  clear hke
                  go_wp2_with fail
                  refine wp_region_over (by kernel_rfl) (by kernel_rfl) ?_
                  repeat (go_big_quiet_step (fail))
                  refine wpQuiet_nil ?_
                  rintro _ ⟨z0, rfl⟩
                  have HBZ := Lib.hid (HB2.out.trans ((ov_below wr z0).mono HB2.out.size))
                  clear s1 s2 s3 s4
                  go_wp2
                  go_roundg (gk - 1)
                  case measure => have := HG2.out; omega
                  case rel => exact ⟨m + 1, by have := HG2.out; omega, by go_num, fun j hj => by rcases Nat.lt_succ_iff_lt_or_eq.1 hj with h | rfl; exact HNE.out j h; exact HF.out, HBZ.out⟩
              · have HMK := Lib.hid (show m = k by have := HG2.out; omega)
                have HBZ := Lib.hid (HBI.out.trans (HB2.out.mono HBI.out.size))
                go_wp2
                go_roundg (l.length - (k + 1))
                case measure => have := HG.out; omega
                case rel => exact ⟨k + 1, by omega, by go_num, fun i hi => by rcases Nat.lt_succ_iff_lt_or_eq.1 hi with h | rfl; exact HALL.out i h; exact HOKK.out,
                  fun i j hij hj => by
                    rcases Nat.lt_succ_iff_lt_or_eq.1 hj with h | rfl
                    · exact HDIS.out i j hij h
                    · rw [HKX.out]; exact HNE.out i (by rw [HMK.out]; exact hij), HBZ.out⟩
    · have HT := Lib.hid (show decide (RightL l) = true from decide_eq_true ⟨fun i hi => HALL.out i (by have := HG.out; omega), fun i j hij hj => HDIS.out i j hij (by have := HG.out; omega)⟩)
      go_wp2
      go_ret
      exact ⟨ret_boolN HT.out.symm, HB.out⟩
end Go.Proofs.Ytchbpfkjhilgiaa
