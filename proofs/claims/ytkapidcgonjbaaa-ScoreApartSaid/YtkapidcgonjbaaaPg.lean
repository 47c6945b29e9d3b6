/- The walk of ScoreApart. -/
import Derived.Test.YtkapidcgonjbaaaPf
namespace Go.Proofs.Ytkapidcgonjbaaa
open Go.RowKit
set_option linter.unusedVariables false

set_option maxHeartbeats 4000000 in
set_option maxRecDepth 100000 in
theorem apart_any (am : Option Addr) (cap : Nat) (rows : List (List Nat)) (least : Nat) (hl : least < 18446744073709551616) (w : World) (hm : MatW w am rows) :
    Calls Try.prog 6 #[.slice am rows.length cap, .float .f64 least] w fun e w' => e = .returned (.bool true) ∧ Below w.heap.size w w' := by
  by_cases h1 : 30 < rows.length
  · go_enter Try.func6, Try.ntmps6
    go_wp2
    go_ret
    exact ⟨rfl, Below.refl _ _⟩
  have hr30 : rows.length ≤ 30 := by omega
  have HM := Lib.hid hm
  have HL := Lib.hid hl
  clear hm hl
  go_enter Try.func6, Try.ntmps6
  go_wp2_with fail
  go_loopg [5] rows.length (fun g v5 wr => ∃ k : Nat, g + k = rows.length ∧ v5 = .int .i64 k ∧ (∀ r ∈ rows.take k, r.length ≤ 30) ∧ wr = w)
  case atStart => exact ⟨0, by omega, rfl, by simp, rfl⟩
  case round =>
    obtain ⟨k, hg, rfl, hall, rfl⟩ := hrel
    have HG := Lib.hid hg
    have HA := Lib.hid hall
    clear hg hall
    by_cases hk : k < rows.length
    · obtain ⟨b, off, rfl⟩ := HM.out.addr hk
      have hrk : rows[k]? = some rows[k] := List.getElem?_eq_getElem hk
      obtain ⟨r, hr⟩ : ∃ r, r = rows[k] := ⟨_, rfl⟩
      rw [← hr] at hrk
      obtain ⟨hb0, a, rc, e0, hrc, hrm, hin, han⟩ := HM.out.row k r hrk
      have HT := Lib.hid (show rows.take (k + 1) = rows.take k ++ [r] by rw [List.take_add_one, hrk]; rfl)
      have hkz : (k : Int) < rows.length := by omega
      clear hr hrk hin han
      by_cases h30 : 30 < r.length
      · go_wp2
        go_ret
        exact ⟨rfl, Below.refl _ _⟩
      · have hri : ¬ ((30 : Int) < r.length) := by omega
        go_wp2
        go_roundg (gk - 1)
        case measure => have := HG.out; omega
        case rel => exact ⟨k + 1, by have := HG.out; omega, by go_num, by rw [HT.out]; intro q hq; rcases List.mem_append.1 hq with h | h; exact HA.out q h; rw [List.mem_singleton] at h; subst h; omega, rfl⟩
    · have hkE : k = rows.length := by have := HG.out; omega
      have HSM := Lib.hid (show small rows from ⟨hr30, by have := HA.out; rw [hkE, List.take_length] at this; exact this⟩)
      have HQ := Lib.hid (match_any am cap rows least HL.out wr HM.out HSM.out)
      have HOK := Lib.hid (matchL_ok rows least)
      go_wp2_with fail
      refine HQ.out.mono ?_
      rintro e w2 ⟨v, rfl, hr2, hb2⟩
      obtain ⟨a2, c2, rfl, hc2, hm2, hin2, hn2⟩ := hr2.sl
      have HI2 := Lib.hid hin2
      have HM2 := Lib.hid (HM.out.below hb2)
      have HB2 := Lib.hid hb2
      clear hr2 hin2 hb2 hn2 HQ
      generalize matchL rows least = M at *
      have hMl : M.length ≤ 9223372036854775807 := by unfold maxLen at hm2; omega
      go_wp2_with fail
      go_loopg [7] M.length (fun g v7 wz => ∃ i : Nat, g + i = M.length ∧ v7 = .int .i64 i ∧ Below w2.heap.size w2 wz)
      case atStart => exact ⟨0, by omega, rfl, Below.refl _ _⟩
      case round =>
        obtain ⟨i, hg, rfl, hb⟩ := hrel
        have HG2 := Lib.hid hg
        have HB := Lib.hid hb
        clear hg hb
        by_cases hi : i < M.length
        · obtain ⟨o, ho⟩ : ∃ o, M[i]? = some o := ⟨_, List.getElem?_eq_getElem hi⟩
          obtain ⟨i0, k0, rfl, r, hr, hk0, hnan, hord⟩ := HOK.out.1 o (List.mem_of_getElem? ho)
          have hi0 : i0 < rows.length := (List.getElem?_eq_some_iff.1 hr).1
          rcases HI2.out.2 with h | ⟨b2, o2, rfl, hlt2, hc2'⟩
          · rw [h] at hi; simp at hi
          have hat := (hc2' i _ ho).below HB.out
          have e1 : wr.cell? ⟨b2, o2 + i * 2, none⟩ = some (.int .i64 (i0 : Int)) := by
            have := aggAt_get (j := 0) hat.1 (by decide); rw [hat.2] at this; simpa [ijR] using this
          have e2 : wr.cell? ⟨b2, o2 + i * 2 + 1, none⟩ = some (.int .i64 (k0 : Int)) := by
            have := aggAt_get (j := 1) hat.1 (by decide); rw [hat.2] at this; simpa [ijR] using this
          obtain ⟨b, off, rfl⟩ := HM2.out.addr hi0
          obtain ⟨hb0, a, rc, e3, hrc, hrm, hin, han⟩ := (HM2.out.below HB.out).row i0 r hr
          rcases hin.2 with h | ⟨b3, o3, rfl, hlt3, hc3⟩
          · subst h; simp at hk0
          have hx : r[k0]? = some (r.getD k0 0) := by simp [List.getD_eq_getElem?_getD, hk0]
          have e4 := flt_cell (hc3 k0 _ hx)
          have HX := Lib.hid (hin.1 _ (List.mem_of_getElem? hx))
          have HN := Lib.hid hnan
          have hb2l : b2 < wr.heap.size := Nat.lt_of_lt_of_le hlt2 HB.out.size
          have z1 : (i : Int) < M.length := by omega
          have z2 : (i0 : Int) < rows.length := by omega
          have z3 : (k0 : Int) < r.length := by omega
          have HO := Lib.hid hord
          have HMI := Lib.hid ho
          clear hat hc2' hc3 hin han hx hnan ho
          generalize r.getD k0 0 = x at *
          obtain ⟨t, ht⟩ : ∃ t, t = fOrd x least := ⟨_, rfl⟩
          rw [← ht] at hord
          have HT := Lib.hid ht
          clear ht
          go_wp2_with fail
          refine wp_region_over (by kernel_rfl) (by kernel_rfl) ?_
          repeat (go_big_quiet_step (fail))
          refine wpQuiet_nil ?_
          rintro _ ⟨x0, rfl⟩
          go_wp2_with fail
          refine (isNaN_any x _).mono ?_
          rintro e w4 ⟨rfl, rfl⟩
          rw [HN.out]
          go_wp2_with fail
          refine (order_any x least HX.out HL.out _).mono ?_
          rintro e w4 ⟨rfl, rfl⟩
          rw [← HT.out]
          go_wp2_with fail
          have HBX := Lib.hid (HB.out.trans ((ov_below wr x0).mono HB.out.size))
          obtain ⟨wy, hwy⟩ : ∃ wy, wy = ov wr x0 := ⟨_, rfl⟩
          rw [← hwy] at HBX ⊢
          clear e1 e2 e3 e4 hwy
          go_loopg [10] i (fun g v10 wq => ∃ j : Nat, g + j = i ∧ v10 = .int .i64 j ∧ Below w2.heap.size w2 wq)
          case atStart => exact ⟨0, by omega, rfl, HBX.out⟩
          case round =>
            obtain ⟨j, hg3, rfl, hb3⟩ := hrel
            have HG3 := Lib.hid hg3
            have HB3 := Lib.hid hb3
            clear hg3 hb3
            by_cases hj : j < i
            · obtain ⟨o', ho'⟩ : ∃ o, M[j]? = some o := ⟨_, List.getElem?_eq_getElem (by omega)⟩
              rcases HI2.out.2 with h | ⟨b5, o5, he5, hlt5, hc5⟩
              · rw [h] at hi; simp at hi
              cases he5
              have hat := (hc5 j _ ho').below HB3.out
              have hp := List.pairwise_iff_getElem.1 HOK.out.2 j i (by omega) hi hj
              rw [(List.getElem?_eq_some_iff.1 ho').2, (List.getElem?_eq_some_iff.1 HMI.out).2] at hp
              obtain ⟨c, d⟩ := o'
              simp only at hp
              have f1 : wr.cell? ⟨b2, o2 + j * 2, none⟩ = some (.int .i64 c) := by
                have := aggAt_get (j := 0) hat.1 (by decide); rw [hat.2] at this; simpa [ijR] using this
              have f2 : wr.cell? ⟨b2, o2 + j * 2 + 1, none⟩ = some (.int .i64 d) := by
                have := aggAt_get (j := 1) hat.1 (by decide); rw [hat.2] at this; simpa [ijR] using this
              have p1 : (c == (i0 : Int)) = false := beq_eq_false_iff_ne.2 hp.1
              have p2 : (d == (k0 : Int)) = false := beq_eq_false_iff_ne.2 hp.2
              have z4 : (j : Int) < i := by omega
              have z5 : (j : Int) < M.length := by omega
              clear hat hc5 hp ho'
              go_wp2
              go_roundg (gk - 1)
              case measure => have := HG3.out; omega
              case rel => exact ⟨j + 1, by have := HG3.out; omega, by go_num, HB3.out⟩
            · go_wp2
              go_roundg (M.length - (i + 1))
              case measure => have := HG2.out; omega
              case rel => exact ⟨i + 1, by have := HG2.out; omega, by go_num, HB3.out⟩
        · go_wp2_with fail
          refine (awake_any _).mono ?_
          rintro e w9 ⟨rfl, hb9⟩
          have HB9 := Lib.hid (HB2.out.trans ((HB.out.trans (hb9.mono HB.out.size)).mono HB2.out.size))
          clear hb9
          go_wp2
          go_ret
          exact ⟨rfl, HB9.out⟩
end Go.Proofs.Ytkapidcgonjbaaa
