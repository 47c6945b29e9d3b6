/- The laws ScoreRanks and ScoreFirst: walks. -/
import Derived.Test.YtkapidcgonjbaaaQj
import Derived.Test.YtkapidcgonjbaaaAw
import Derived.Test.YtkapidcgonjbaaaSw
namespace Go.Proofs.Ytkapidcgonjbaaa
open Go.RowKit Go.WideShapes Go.ChangeShapes
open Go.Sort hiding Below
set_option linter.unusedVariables false

theorem rankZ_any (p : Option Addr) (cap : Nat) (l : List Nat) (w : World) (hlen : l.length ≤ 900) (hcap : l.length ≤ cap) (hcm : cap ≤ maxLen) (hin : fltR.In w p l) :
    Calls Try.prog 28 #[.slice p l.length cap] w fun e w' => ∃ v R, e = .returned v ∧ IsRank l R ∧ intR.row 3 w.heap.size (R.map fun x => ((x : Nat) : Int)) v w' ∧ Below w.heap.size w w' := by
  cases l with
  | nil => exact (rank0_any p cap w).mono fun e w' ⟨v, h1, h2, h3⟩ => ⟨v, [], h1, ⟨List.Perm.refl _, List.Pairwise.nil⟩, h2, h3⟩
  | cons x l =>
    rcases hin.2 with h | ⟨b, off, rfl, _, _⟩
    · cases h
    · exact rankG_any l.length b off cap (x :: l) w rfl (by simp at hlen; omega) hin hcm hcap

set_option maxHeartbeats 4000000 in
set_option maxRecDepth 100000 in
theorem lawRanks_any (a : Option Addr) (cap : Nat) (l : List Nat) (w : World) (hin : fltR.In w a l) (hn : a = none → l = [] ∧ cap = 0) :
    Calls Try.prog 8 #[.slice a l.length cap] w fun e w' => e = .returned (.bool true) ∧ Below w.heap.size w w' := by
  by_cases h1 : 60 < l.length
  · go_enter Try.func8, Try.ntmps8
    go_wp2
    go_ret
    exact ⟨rfl, Below.refl _ _⟩
  have hlen : l.length ≤ 900 := by omega
  have HX := Lib.hid hin
  have HN := Lib.hid hn
  have hbe := (Below.refl w.heap.size w).alloc (Nat.le_refl _) (.cells #[] 23)
  have HBE := Lib.hid hbe
  have HRE := Lib.hid (Rec.row.empty (R := fltR) (e := 23) (w := w))
  have HIE := Lib.hid (hin.below hbe)
  clear hin hn hbe
  go_enter Try.func8, Try.ntmps8
  go_wp2_with (at_builtin; refine Rec.wpList_app flt30 rfl _ _ rfl w.heap.size _ [] l l (by simp) rfl HRE.out a cap rfl HIE.out HN.out (by simp; omega) HBE.out.size ?_)
  intro v1 w1 hr1 _ hb1
  obtain ⟨p1, c1, rfl, _, _, hi1, _⟩ := hr1.sl
  have HB1 := Lib.hid (HBE.out.trans hb1)
  have HI1 := Lib.hid hi1
  clear hr1 hb1 hi1 HRE HIE HBE
  go_wp2_with fail
  refine (best_any p1 c1 l w1 (by omega) HI1.out).mono ?_
  rintro e w2 ⟨a1, f1, rfl, hbp1, rfl⟩
  have HP1 := Lib.hid hbp1
  clear hbp1
  go_wp2_with fail
  refine (rbest_any a cap l w1 (by omega) (HX.out.below HB1.out)).mono ?_
  rintro e w3 ⟨a2, f2, rfl, hbp2, hb3⟩
  obtain ⟨rfl, rfl⟩ := bestP_one HP1.out hbp2
  have HB3 := Lib.hid (HB1.out.trans (hb3.mono HB1.out.size))
  have hbe := (Below.refl w3.heap.size w3).alloc (Nat.le_refl _) (.cells #[] 23)
  have HBE := Lib.hid hbe
  have HRE := Lib.hid (Rec.row.empty (R := fltR) (e := 23) (w := w3))
  have HIE := Lib.hid ((HX.out.below HB3.out).below hbe)
  clear hbp2 hb3 hbe HP1
  go_wp2_with (at_builtin; refine wpList_unguard (by rfl) ?_; refine Rec.wpList_app flt30 rfl _ _ rfl w3.heap.size _ [] l l (by simp) rfl HRE.out a cap rfl HIE.out HN.out (by simp; omega) HBE.out.size ?_)
  intro v4 w4 hr4 _ hb4
  obtain ⟨p4, c4, rfl, hc4, hm4, hi4, _⟩ := hr4.sl
  have HB4 := Lib.hid (HB3.out.trans ((HBE.out.trans hb4).mono HB3.out.size))
  have HI4 := Lib.hid hi4
  have HC4 := Lib.hid hc4
  have HM4 := Lib.hid hm4
  clear hr4 hb4 hi4 hc4 hm4 HRE HIE HBE
  go_wp2_with fail
  refine (rankZ_any p4 c4 l w4 hlen HC4.out HM4.out HI4.out).mono ?_
  rintro e w5 ⟨v5, R, rfl, hR, hr5, hb5⟩
  obtain ⟨p5, c5, rfl, _, _, hi5, _⟩ := hr5.sl
  have HB5 := Lib.hid (HB4.out.trans (hb5.mono HB4.out.size))
  have HI5 := Lib.hid hi5
  have HL := Lib.hid (show (R.map fun x => ((x : Nat) : Int)).length ≤ 1000000 by rw [List.length_map, hR.len]; omega)
  have HRK := Lib.hid (rrank_any a cap l R hR w5 (by omega) (HX.out.below HB5.out))
  clear hr5 hb5 hi5 hR
  generalize (R.map fun x => ((x : Nat) : Int)) = Q at *
  clear R
  go_wp2_with fail
  refine HRK.out.mono ?_
  rintro e w6 ⟨v6, rfl, hr6, hb6⟩
  obtain ⟨p6, c6, rfl, _, _, hi6, _⟩ := hr6.sl
  have HB6 := Lib.hid (HB5.out.trans (hb6.mono HB5.out.size))
  have HI6 := Lib.hid hi6
  have HI56 := Lib.hid (HI5.out.below hb6)
  clear hr6 hb6 hi6 HRK
  go_wp2_with fail
  refine (ints_any p5 p6 c5 c6 Q Q w6 HL.out HL.out HI56.out HI6.out).mono ?_
  rintro e w7 ⟨rfl, hb7⟩
  have HB7 := Lib.hid (HB6.out.trans (hb7.mono HB6.out.size))
  rw [beq_self_eq_true]
  clear hb7
  go_wp2_with fail
  refine (awake_any _).mono ?_
  rintro e w9 ⟨rfl, hb9⟩
  have HB9 := Lib.hid (HB7.out.trans (hb9.mono HB7.out.size))
  clear hb9
  go_wp2
  go_ret
  exact ⟨rfl, HB9.out⟩

set_option maxHeartbeats 4000000 in
set_option maxRecDepth 100000 in
theorem lawFirst_any (a : Option Addr) (cap : Nat) (l : List Nat) (w : World) (hcap : l.length ≤ cap) (hcm : cap ≤ maxLen) (hin : fltR.In w a l) :
    Calls Try.prog 9 #[.slice a l.length cap] w fun e w' => e = .returned (.bool true) ∧ Below w.heap.size w w' := by
  by_cases h1 : 200 < l.length
  · go_enter Try.func9, Try.ntmps9
    go_wp2
    go_ret
    exact ⟨rfl, Below.refl _ _⟩
  have hlen : l.length ≤ 900 := by omega
  have HX := Lib.hid hin
  have HCA := Lib.hid hcap
  have HCM := Lib.hid hcm
  clear hin hcap hcm
  go_enter Try.func9, Try.ntmps9
  go_wp2_with fail
  refine (best_any a cap l w (by omega) HX.out).mono ?_
  rintro e w2 ⟨a1, f1, rfl, hbp1, rfl⟩
  have HP1 := Lib.hid hbp1
  clear hbp1
  go_wp2_with fail
  refine (rankZ_any a cap l w hlen HCA.out HCM.out HX.out).mono ?_
  rintro e w5 ⟨v5, R, rfl, hR, hr5, hb5⟩
  obtain ⟨p5, c5, rfl, _, _, hi5, _⟩ := hr5.sl
  have HB5 := Lib.hid hb5
  have HI5 := Lib.hid hi5
  have HR := Lib.hid hR
  have HLR := Lib.hid hR.len
  rw [List.length_map, hR.len]
  clear hr5 hb5 hi5 hR
  go_wp2_with fail
  go_loopg [6] l.length (fun g v6 wr => ∃ k : Nat, g + k = l.length ∧ v6 = .int .i64 k ∧ Below w5.heap.size w5 wr)
  case atStart => exact ⟨0, by omega, rfl, Below.refl _ _⟩
  case round =>
    obtain ⟨k, hg, rfl, hbw⟩ := hrel
    have HG := Lib.hid hg
    have HB := Lib.hid hbw
    have HBW := Lib.hid (HB5.out.trans (hbw.mono HB5.out.size))
    clear hg hbw
    have hRi : ∀ j, j < R.length → (R.map fun x => ((x : Nat) : Int))[j]? = some ((R.getD j 0 : Nat) : Int) := fun j hj => by
      rw [List.getElem?_map]; simp [List.getD_eq_getElem?_getD, hj]
    have hRl : ∀ j, j < R.length → R.getD j 0 < l.length := fun j hj => by
      have : R.getD j 0 = R[j] := by simp [List.getD_eq_getElem?_getD, hj]
      rw [this]; exact HR.out.lt (List.getElem_mem hj)
    have HRI := Lib.hid hRi
    have HRL := Lib.hid hRl
    clear hRi hRl
    by_cases hk : k < l.length
    · have HK := Lib.hid hk
      have i1 : (k : Int) < l.length := by omega
      have hkR : k < R.length := by rw [HLR.out]; exact hk
      have hx := HRL.out k hkR
      obtain ⟨b, off, rfl, hlt, hc⟩ := flts_at (HX.out.below HBW.out) hk
      have hxI := HRI.out k hkR
      rcases (HI5.out.below HB.out).2 with h | ⟨b1, o1, rfl, hlt1, hc1⟩
      · rw [h] at hxI; simp at hxI
      have q1 := int_cell (hc1 k _ hxI)
      have q9 : b < wr.heap.size := hlt
      have q8 : b1 < wr.heap.size := hlt1
      by_cases hk0 : k = 0
      · have d0 : decide (0 < (k : Int)) = false := decide_eq_false (by omega)
        have d8 : decide (0 < k) = false := decide_eq_false (by omega)
        generalize R.getD k 0 = x at *
        have i2 : (x : Int) < l.length := by omega
        clear hc hc1 hxI hkR
        have d9 : ¬ (0 : Int) < k := by omega
        clear hk0
        go_wp2_with fail
        refine wp_region_over (by kernel_rfl) (by kernel_rfl) ?_
        repeat (go_big_quiet_step (fail))
        refine wpQuiet_nil ?_
        rintro _ ⟨z0, rfl⟩
        have HBI := Lib.hid (HB.out.trans ((ov_below wr z0).mono HB.out.size))
        clear q1
        go_wp2
        go_roundg (gk - 1)
        case measure => have := HG.out; have := HK.out; omega
        case rel => exact ⟨k + 1, by have := HG.out; have := HK.out; omega, by go_num, HBI.out⟩
      · have d0 : decide (0 < (k : Int)) = true := decide_eq_true (by omega)
        have d8 : decide (0 < k) = true := decide_eq_true (by omega)
        obtain ⟨m, hm⟩ : ∃ m, k = m + 1 := ⟨k - 1, by omega⟩
        have hmR : m < R.length := by omega
        have hy := HRL.out m hmR
        have q2 := int_cell (hc1 m _ (HRI.out m hmR))
        obtain ⟨q3, hx3⟩ := hc _ hx
        obtain ⟨q4, hx4⟩ := hc _ hy
        have HST := Lib.hid (show isN (fAt l (R.getD k 0)) = false → isN (fAt l (R.getD m 0)) = false ∧ ¬ fOrd (fAt l (R.getD m 0)) (fAt l (R.getD k 0)) < 0 by rw [hm]; exact rank_step HR.out (by rw [← hm]; exact hkR))
        have e1 : ((k : Int) - 1).toNat = m := by omega
        have e2 : (0 : Int) ≤ (k : Int) - 1 := by omega
        have e3 : (k : Int) - 1 < (l.length : Int) := by omega
        have e4 : IntKind.i64.wrap ((k : Int) - 1) = (k : Int) - 1 := by rw [IntKind.wrap_i64]; omega
        have i2 : ((R.getD k 0 : Nat) : Int) < l.length := by omega
        have i3 : ((R.getD m 0 : Nat) : Int) < l.length := by omega
        clear hc hc1 hxI hkR hmR hm hx hy hk0
        generalize R.getD k 0 = rx at *
        generalize R.getD m 0 = ry at *
        generalize fAt l rx = x at *
        generalize fAt l ry = y at *
        have HRX := Lib.hid (fun W => still_below (isNaN_any x W))
        have HRY := Lib.hid (fun W => still_below (isNaN_any y W))
        have HRO := Lib.hid (fun W => still_below (order_any y x hx4 hx3 W))
        clear hx3 hx4
        cases hn : isN x with
        | true =>
          rw [hn] at HRX
          clear hn HST
          go_wp2_with fail
          refine wp_region_over (by kernel_rfl) (by kernel_rfl) ?_
          repeat (go_big_quiet_step ((go_at_call 22; exact Calls.over_of (HRX.out _))))
          refine wpQuiet_nil ?_
          rintro _ ⟨z0, rfl⟩
          have HBI := Lib.hid (HB.out.trans ((ov_below wr z0).mono HB.out.size))
          clear q1 q2 q3 q4 e1
          go_wp2
          go_roundg (gk - 1)
          case measure => have := HG.out; have := HK.out; omega
          case rel => exact ⟨k + 1, by have := HG.out; have := HK.out; omega, by go_num, HBI.out⟩
        | false =>
          obtain ⟨h3, h4⟩ := HST.out hn
          rw [hn] at HRX
          rw [h3] at HRY
          have d4 : decide (fOrd y x < 0) = false := decide_eq_false h4
          generalize fOrd y x = cc at *
          clear hn HST h3 h4
          go_wp2_with fail
          refine wp_region_over (by kernel_rfl) (by kernel_rfl) ?_
          repeat (go_big_quiet_step (first | (go_at_call 22; exact Calls.over_of (HRX.out _)) | (go_at_call 22; exact Calls.over_of (HRY.out _)) | (go_at_call 17; exact Calls.over_of (HRO.out _))))
          refine wpQuiet_nil ?_
          rintro _ ⟨z0, rfl⟩
          have HBI := Lib.hid (HB.out.trans ((ov_below wr z0).mono HB.out.size))
          clear q1 q2 q3 q4 e1
          go_wp2
          go_roundg (gk - 1)
          case measure => have := HG.out; have := HK.out; omega
          case rel => exact ⟨k + 1, by have := HG.out; have := HK.out; omega, by go_num, HBI.out⟩
    · have i9 : ¬ (k : Int) < l.length := by omega
      cases f1 with
      | false =>
        have ha : a1 = 0 := by
          rcases HP1.out with ⟨h, _⟩ | ⟨_, h, _⟩
          · cases h
          · exact h
        subst ha
        go_wp2_with fail
        refine (awake_any _).mono ?_
        rintro e w9 ⟨rfl, hb9⟩
        have HB9 := Lib.hid (HBW.out.trans (hb9.mono HBW.out.size))
        clear hb9
        go_wp2
        go_ret
        exact ⟨rfl, HB9.out⟩
      | true =>
        have hba := HP1.out.at
        have hl0 : 0 < R.length := by rw [HLR.out]; have := hba.1; omega
        have hxI := HRI.out 0 hl0
        rw [rank_best HR.out hba] at hxI
        rcases (HI5.out.below HB.out).2 with h | ⟨b1, o1, rfl, hlt1, hc1⟩
        · rw [h] at hxI; simp at hxI
        have q1 := int_cell (hc1 0 _ hxI)
        rw [Nat.add_zero] at q1
        have i0 : (0 : Int) < l.length := by have := HLR.out; omega
        clear hc1 hxI hba hl0 hlt1
        go_wp2_with fail
        refine (awake_any _).mono ?_
        rintro e w9 ⟨rfl, hb9⟩
        have HB9 := Lib.hid (HBW.out.trans (hb9.mono HBW.out.size))
        clear hb9
        go_wp2
        go_ret
        exact ⟨rfl, HB9.out⟩

theorem scoreRanks_walk {H : Type} {enc : TypeId × Value → H} {W : World} {b0 : Nat} {v0 : Value} {d0 : DataW H} {p0 : List MemPlace}
    (k0 : Value.okWide Try.prog W .any b0 30 v0) (h0 : DataW.Trod enc Try.prog W 0 (fun _ => true) true 30 v0 d0 p0) :
    Calls Try.prog 8 #[v0] W fun e w' => e = .returned (.bool true) ∧ Below W.heap.size W w' := by
  obtain ⟨l, a, cap, rfl, h1, h2, h3, h4⟩ := Rec.reads (R := fltR) Try.underlying30 (by kernel_rfl) (fun fuel cs y hy => trod_flt hy) h0 (okWide_slice Try.underlying30 k0)
  exact lawRanks_any a cap l W h3 h4
theorem scoreFirst_walk {H : Type} {enc : TypeId × Value → H} {W : World} {b0 : Nat} {v0 : Value} {d0 : DataW H} {p0 : List MemPlace}
    (k0 : Value.okWide Try.prog W .any b0 30 v0) (h0 : DataW.Trod enc Try.prog W 0 (fun _ => true) true 30 v0 d0 p0) :
    Calls Try.prog 9 #[v0] W fun e w' => e = .returned (.bool true) ∧ Below W.heap.size W w' := by
  obtain ⟨l, a, cap, rfl, h1, h2, h3, h4⟩ := Rec.reads (R := fltR) Try.underlying30 (by kernel_rfl) (fun fuel cs y hy => trod_flt hy) h0 (okWide_slice Try.underlying30 k0)
  exact lawFirst_any a cap l W h1 h2 h3
end Go.Proofs.Ytkapidcgonjbaaa
