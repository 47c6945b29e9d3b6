/- The best; the reference's best and ranks: walks. -/
import Derived.Test.YtkapidcgonjbaaaQg
import Derived.Test.YtkapidcgonjbaaaAi
namespace Go.Proofs.Ytkapidcgonjbaaa
open Go.RowKit
open Go.Sort hiding Below
set_option linter.unusedVariables false

theorem flts_at {w : World} {p : Option Addr} {l : List Nat} (h : fltR.In w p l) {i : Nat} (hi : i < l.length) : ∃ b off, p = some ⟨b, off, none⟩ ∧ b < w.heap.size ∧ ∀ j, j < l.length → w.cell? ⟨b, off + j, none⟩ = some (.float .f64 (fAt l j)) ∧ fAt l j < 18446744073709551616 := by
  rcases h.2 with rfl | ⟨b, off, rfl, hlt, hc⟩
  · simp at hi
  · refine ⟨b, off, rfl, hlt, fun j hj => ?_⟩
    have hk : l[j]? = some (fAt l j) := by simp [fAt, List.getD_eq_getElem?_getD, hj]
    exact ⟨flt_cell (hc j _ hk), h.1 _ (List.mem_of_getElem? hk)⟩
theorem ret_two {a a' : Int} {f f' : Bool} (h1 : a = a') (h2 : f = f') : Ending.returned (.tuple #[.int .i64 a, .bool f]) = Ending.returned (.tuple #[.int .i64 a', .bool f']) := by rw [h1, h2]

set_option maxHeartbeats 2000000 in
set_option maxRecDepth 100000 in
theorem best_any (p : Option Addr) (c : Nat) (l : List Nat) (w : World) (hlen : l.length ≤ 1000) (hin : fltR.In w p l) :
    Calls Try.prog 25 #[.slice p l.length c] w fun e w' => ∃ (a : Nat) (f : Bool), e = .returned (.tuple #[.int .i64 (a : Int), .bool f]) ∧ BestP l l.length a f ∧ w = w' := by
  have HX := Lib.hid hin
  clear hin
  go_enter Try.func25, Try.ntmps25
  go_wp2_with fail
  go_loopg [4, 5, 10] l.length (fun g v4 v5 v10 wr => ∃ (k a : Nat) (f : Bool), g + k = l.length ∧ v10 = .int .i64 k ∧ v4 = .int .i64 a ∧ v5 = .bool f ∧ BestP l k a f ∧ w = wr)
  case atStart => exact ⟨0, 0, false, by omega, rfl, rfl, rfl, BestP.start l, rfl⟩
  case round =>
    obtain ⟨k, a, f, hg, rfl, rfl, rfl, hbp, rfl⟩ := hrel
    have HG := Lib.hid hg
    have HBP := Lib.hid hbp
    clear hg hbp
    by_cases hk : k < l.length
    · have HK := Lib.hid hk
      have i1 : (k : Int) < l.length := by omega
      obtain ⟨b, off, rfl, hlt, hc⟩ := flts_at HX.out hk
      obtain ⟨q1, hx1⟩ := hc k hk
      cases hn : isN (fAt l k) with
      | true =>
        have HN := Lib.hid (HBP.out.skip hn)
        have HNN := Lib.hid hn
        clear hn hc hx1
        generalize fAt l k = x at *
        go_wp2_with fail
        refine (isNaN_any x _).mono ?_
        rintro e w1 ⟨rfl, rfl⟩
        rw [HNN.out]
        go_wp2
        go_roundg (gk - 1)
        case measure => have := HG.out; have := HK.out; omega
        case rel => exact ⟨k + 1, a, f, by have := HG.out; have := HK.out; omega, by go_num, rfl, rfl, HN.out, rfl⟩
      | false =>
        cases f with
        | false =>
          have HN := Lib.hid (HBP.out.first hn)
          have HNN := Lib.hid hn
          clear hn hc hx1
          generalize fAt l k = x at *
          go_wp2_with fail
          refine (isNaN_any x _).mono ?_
          rintro e w1 ⟨rfl, rfl⟩
          rw [HNN.out]
          go_wp2
          go_roundg (gk - 1)
          case measure => have := HG.out; have := HK.out; omega
          case rel => exact ⟨k + 1, k, true, by have := HG.out; have := HK.out; omega, by go_num, rfl, rfl, HN.out, rfl⟩
        | true =>
          have hal : a < l.length := Nat.lt_trans HBP.out.at.1 hk
          have i2 : (a : Int) < l.length := by omega
          obtain ⟨q2, hx2⟩ := hc a hal
          have HN := Lib.hid (HBP.out.next hn)
          have HNN := Lib.hid hn
          have HF := Lib.hid (fOrd_pos (fAt l k) (fAt l a))
          have HX1 := Lib.hid hx1
          have HX2 := Lib.hid hx2
          clear hn hc hx1 hx2 hal
          generalize fAt l k = x at *
          generalize fAt l a = y at *
          by_cases hgt : rk y < rk x
          · have HD := Lib.hid (HN.out.1 hgt)
            have d1 : decide (0 < fOrd x y) = true := decide_eq_true (HF.out.2 hgt)
            clear HF HN hgt
            go_wp2_with fail
            refine (isNaN_any x _).mono ?_
            rintro e w1 ⟨rfl, rfl⟩
            rw [HNN.out]
            go_wp2_with fail
            refine (order_any x y HX1.out HX2.out _).mono ?_
            rintro e w1 ⟨rfl, rfl⟩
            go_wp2
            go_roundg (gk - 1)
            case measure => have := HG.out; have := HK.out; omega
            case rel => exact ⟨k + 1, k, true, by have := HG.out; have := HK.out; omega, by go_num, rfl, rfl, HD.out, rfl⟩
          · have HD := Lib.hid (HN.out.2 hgt)
            have d1 : decide (0 < fOrd x y) = false := decide_eq_false (fun h => hgt (HF.out.1 h))
            clear HF HN hgt
            go_wp2_with fail
            refine (isNaN_any x _).mono ?_
            rintro e w1 ⟨rfl, rfl⟩
            rw [HNN.out]
            go_wp2_with fail
            refine (order_any x y HX1.out HX2.out _).mono ?_
            rintro e w1 ⟨rfl, rfl⟩
            go_wp2
            go_roundg (gk - 1)
            case measure => have := HG.out; have := HK.out; omega
            case rel => exact ⟨k + 1, a, true, by have := HG.out; have := HK.out; omega, by go_num, rfl, rfl, HD.out, rfl⟩
    · have hke : k = l.length := by have := HG.out; omega
      have hb := HBP.out
      rw [hke] at hb
      have HB := Lib.hid hb
      clear hb hke
      go_wp2
      go_ret2
      exact ⟨a, f, rfl, HB.out, rfl⟩
end Go.Proofs.Ytkapidcgonjbaaa
