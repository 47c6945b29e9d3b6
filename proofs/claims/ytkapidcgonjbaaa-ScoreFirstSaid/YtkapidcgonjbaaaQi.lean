/- The reference's best and ranks: walks. -/
import Derived.Test.YtkapidcgonjbaaaQh
namespace Go.Proofs.Ytkapidcgonjbaaa
open Go.RowKit
open Go.Sort hiding Below
set_option linter.unusedVariables false

theorem still_below {f : Nat} {args : Array Value} {W : World} {v : Ending} (h : Calls Try.prog f args W fun e w' => e = v ∧ W = w') : Calls Try.prog f args W fun e w' => e = v ∧ Below W.heap.size W w' :=
  h.mono fun e w' ⟨h1, h2⟩ => ⟨h1, h2 ▸ Below.refl _ _⟩
/-- May the best stand at i, as far as k says? -/
def BestK (l : List Nat) (i k : Nat) : Prop := isN (fAt l k) = true ∨ rk (fAt l k) < rk (fAt l i) ∨ (rk (fAt l k) = rk (fAt l i) ∧ i ≤ k)
theorem bestAt_of {l : List Nat} {n i : Nat} (h1 : i < n) (h2 : isN (fAt l i) = false) (h3 : ∀ k, k < n → BestK l i k) : BestAt l n i := ⟨h1, h2, h3⟩

set_option maxHeartbeats 4000000 in
set_option maxRecDepth 100000 in
theorem rbest_any (p : Option Addr) (c : Nat) (l : List Nat) (w : World) (hlen : l.length ≤ 1000) (hin : fltR.In w p l) :
    Calls Try.prog 26 #[.slice p l.length c] w fun e w' => ∃ (a : Nat) (f : Bool), e = .returned (.tuple #[.int .i64 (a : Int), .bool f]) ∧ BestP l l.length a f ∧ Below w.heap.size w w' := by
  have HX := Lib.hid hin
  clear hin
  go_enter Try.func26, Try.ntmps26
  go_wp2_with fail
  go_loopg [4] l.length (fun g v4 wr => ∃ i : Nat, g + i = l.length ∧ v4 = .int .i64 i ∧ (∀ j, j < i → ¬ BestAt l l.length j) ∧ Below w.heap.size w wr)
  case atStart => exact ⟨0, by omega, rfl, fun j hj => by omega, Below.refl _ _⟩
  case round =>
    obtain ⟨i, hg, rfl, hall, hbw⟩ := hrel
    have HG := Lib.hid hg
    have HALL := Lib.hid hall
    have HB := Lib.hid hbw
    clear hg hall hbw
    by_cases hi : i < l.length
    · have HII := Lib.hid hi
      have i1 : (i : Int) < l.length := by omega
      obtain ⟨b, off, rfl, hlt, hc⟩ := flts_at (HX.out.below HB.out) hi
      obtain ⟨q1, hx1⟩ := hc i hi
      clear hc
      obtain ⟨nb, hnb⟩ : ∃ nb : Bool, nb = isN (fAt l i) := ⟨_, rfl⟩
      have HNB := Lib.hid hnb
      have HRN := Lib.hid (rnan_any (fAt l i))
      rw [← hnb] at HRN
      clear hnb hlt
      obtain ⟨y, hy⟩ : ∃ y, y = fAt l i := ⟨_, rfl⟩
      have HY := Lib.hid hy
      rw [← hy] at HRN q1 hx1
      have HX1 := Lib.hid hx1
      clear hy hx1
      go_wp2_with fail
      refine (HRN.out _).mono ?_
      rintro e w1 ⟨rfl, rfl⟩
      clear q1
      go_wp2_with fail
      go_loopg [5, 6] l.length (fun g v5 v6 wz => ∃ (k : Nat) (is : Bool), g + k = l.length ∧ v6 = .int .i64 k ∧ v5 = .bool is ∧ (is = true ↔ (isN (fAt l i) = false ∧ ∀ j, j < k → BestK l i j)) ∧ Below wr.heap.size wr wz)
      case atStart => exact ⟨0, !nb, by omega, rfl, rfl, by rw [HNB.out]; cases isN (fAt l i) <;> simp, Below.refl _ _⟩
      case round =>
        obtain ⟨k, is, hg2, rfl, rfl, his, hbz⟩ := hrel
        have HG2 := Lib.hid hg2
        have HIS := Lib.hid his
        have HBZ := Lib.hid hbz
        have HBY := Lib.hid (HB.out.trans (hbz.mono HB.out.size))
        clear hg2 his hbz
        cases is with
        | false =>
          have HF := Lib.hid (show ¬ BestAt l l.length i from fun h => by
            have h1 := HIS.out.2 ⟨h.2.1, fun j hj => h.2.2 j (by have := HG2.out; omega)⟩
            cases h1)
          by_cases hk : k < l.length
          · have i2 : (k : Int) < l.length := by omega
            go_wp2
            go_roundg (l.length - (i + 1))
            case measure => have := HG.out; have := HII.out; omega
            case rel => exact ⟨i + 1, by have := HII.out; omega, by go_num, fun j hj => by rcases Nat.lt_succ_iff_lt_or_eq.1 hj with h | rfl; exact HALL.out j h; exact HF.out, HBY.out⟩
          · have i2 : ¬ (k : Int) < l.length := by omega
            go_wp2
            go_roundg (l.length - (i + 1))
            case measure => have := HG.out; have := HII.out; omega
            case rel => exact ⟨i + 1, by have := HII.out; omega, by go_num, fun j hj => by rcases Nat.lt_succ_iff_lt_or_eq.1 hj with h | rfl; exact HALL.out j h; exact HF.out, HBY.out⟩
        | true =>
          by_cases hk : k < l.length
          · have HK := Lib.hid hk
            have i2 : (k : Int) < l.length := by omega
            obtain ⟨b', off', he, hlt, hc⟩ := flts_at (HX.out.below HBY.out) hk
            cases he
            obtain ⟨q1, _⟩ := hc i hi
            obtain ⟨q2, hx2⟩ := hc k hk
            rw [← HY.out] at q1
            obtain ⟨x, hx⟩ : ∃ x, x = fAt l k := ⟨_, rfl⟩
            have HXX := Lib.hid hx
            rw [← hx] at q2 hx2
            have HBK := Lib.hid (show BestK l i k ↔ (isN x = true ∨ rk x < rk y ∨ (rk x = rk y ∧ i ≤ k)) by rw [hx, HY.out]; exact Iff.rfl)
            have HRO := Lib.hid (fun W => still_below (rorder_any x y hx2 HX1.out W))
            have HRX := Lib.hid (fun W => still_below (rnan_any x W))
            have HFO := Lib.hid (show fOrd x y = cmpInt (rk x) (rk y) from rfl)
            have q9 : b < wr.heap.size := hlt
            clear hc hx hx2
            obtain ⟨cc, hcc⟩ : ∃ cc, cc = fOrd x y := ⟨_, rfl⟩
            have h1 : cc < 0 ↔ rk x < rk y := by rw [hcc]; exact fOrd_negi x y
            have h2 : cc = 0 ↔ rk x = rk y := by rw [hcc]; exact cmpInt_eq _ _
            rw [← hcc] at HRO
            clear hcc HFO
            have fin : (isN (fAt l i) = false ∧ ∀ j, j < k + 1 → BestK l i j) ↔ BestK l i k := by
              have h3 := HIS.out.1 rfl
              symm
              exact ⟨fun h => ⟨h3.1, fun j hj => by rcases Nat.lt_succ_iff_lt_or_eq.1 hj with h' | rfl; exact h3.2 j h'; exact h⟩, fun h => h.2 k (by omega)⟩
            have HFIN := Lib.hid fin
            clear fin
            cases hn : isN x with
            | true =>
              have HD := Lib.hid (HFIN.out.2 (HBK.out.2 (.inl hn)))
              rw [hn] at HRX
              clear hn h1 h2
              go_wp2_with fail
              refine wp_region_over (by kernel_rfl) (by kernel_rfl) ?_
              repeat (go_big_quiet_step ((go_at_call 34; exact Calls.over_of (HRX.out _))))
              refine wpQuiet_nil ?_
              rintro _ ⟨z0, rfl⟩
              have HBI := Lib.hid (HBZ.out.trans ((ov_below wr z0).mono HBZ.out.size))
              clear q1 q2
              go_wp2
              go_roundg (gk - 1)
              case measure => have := HG2.out; have := HK.out; omega
              case rel => exact ⟨k + 1, true, by have := HG2.out; have := HK.out; omega, by go_num, rfl, ⟨fun _ => HD.out, fun _ => rfl⟩, HBI.out⟩
            | false =>
              rw [hn] at HRX
              by_cases hlt2 : rk x < rk y
              · have d1 : decide (cc < 0) = true := decide_eq_true (h1.2 hlt2)
                have HD := Lib.hid (HFIN.out.2 (HBK.out.2 (.inr (.inl hlt2))))
                clear hn h1 h2 hlt2
                go_wp2_with fail
                refine wp_region_over (by kernel_rfl) (by kernel_rfl) ?_
                repeat (go_big_quiet_step (first | (go_at_call 34; exact Calls.over_of (HRX.out _)) | (go_at_call 11; exact Calls.over_of (HRO.out _))))
                refine wpQuiet_nil ?_
                rintro _ ⟨z0, rfl⟩
                have HBI := Lib.hid (HBZ.out.trans ((ov_below wr z0).mono HBZ.out.size))
                clear q1 q2
                go_wp2
                go_roundg (gk - 1)
                case measure => have := HG2.out; have := HK.out; omega
                case rel => exact ⟨k + 1, true, by have := HG2.out; have := HK.out; omega, by go_num, rfl, ⟨fun _ => HD.out, fun _ => rfl⟩, HBI.out⟩
              · have d1 : decide (cc < 0) = false := decide_eq_false (fun h => hlt2 (h1.1 h))
                by_cases heq : rk x = rk y
                · have d2 : (cc == 0) = true := beq_iff_eq.2 (h2.2 heq)
                  by_cases hik : i ≤ k
                  · have d3 : decide ((i : Int) ≤ k) = true := decide_eq_true (by omega)
                    have d4 : decide (i ≤ k) = true := decide_eq_true hik
                    have HD := Lib.hid (HFIN.out.2 (HBK.out.2 (.inr (.inr ⟨heq, hik⟩))))
                    clear hn h1 h2 hlt2 heq hik
                    go_wp2_with fail
                    refine wp_region_over (by kernel_rfl) (by kernel_rfl) ?_
                    repeat (go_big_quiet_step (first | (go_at_call 34; exact Calls.over_of (HRX.out _)) | (go_at_call 11; exact Calls.over_of (HRO.out _))))
                    refine wpQuiet_nil ?_
                    rintro _ ⟨z0, rfl⟩
                    have HBI := Lib.hid (HBZ.out.trans ((ov_below wr z0).mono HBZ.out.size))
                    clear q1 q2
                    go_wp2
                    go_roundg (gk - 1)
                    case measure => have := HG2.out; have := HK.out; omega
                    case rel => exact ⟨k + 1, true, by have := HG2.out; have := HK.out; omega, by go_num, rfl, ⟨fun _ => HD.out, fun _ => rfl⟩, HBI.out⟩
                  · have d3 : decide ((i : Int) ≤ k) = false := decide_eq_false (by omega)
                    have d4 : decide (i ≤ k) = false := decide_eq_false hik
                    have HD := Lib.hid (show ¬ (isN (fAt l i) = false ∧ ∀ j, j < k + 1 → BestK l i j) from fun h0 => by
                      have h := HFIN.out.1 h0
                      rcases HBK.out.1 h with h | h | h
                      · rw [hn] at h; cases h
                      · exact absurd h hlt2
                      · exact absurd h.2 hik)
                    clear hn h1 h2 hlt2 heq hik
                    go_wp2_with fail
                    refine wp_region_over (by kernel_rfl) (by kernel_rfl) ?_
                    repeat (go_big_quiet_step (first | (go_at_call 34; exact Calls.over_of (HRX.out _)) | (go_at_call 11; exact Calls.over_of (HRO.out _))))
                    refine wpQuiet_nil ?_
                    rintro _ ⟨z0, rfl⟩
                    have HBI := Lib.hid (HBZ.out.trans ((ov_below wr z0).mono HBZ.out.size))
                    clear q1 q2
                    go_wp2
                    go_roundg (gk - 1)
                    case measure => have := HG2.out; have := HK.out; omega
                    case rel => exact ⟨k + 1, false, by have := HG2.out; have := HK.out; omega, by go_num, rfl, ⟨(fun h => by cases h), fun h => absurd h HD.out⟩, HBI.out⟩
                · have d2 : (cc == 0) = false := beq_eq_false_iff_ne.2 (fun h => heq (h2.1 h))
                  have HD := Lib.hid (show ¬ (isN (fAt l i) = false ∧ ∀ j, j < k + 1 → BestK l i j) from fun h0 => by
                      have h := HFIN.out.1 h0
                      rcases HBK.out.1 h with h | h | h
                      · rw [hn] at h; cases h
                      · exact absurd h hlt2
                      · exact absurd h.1 heq)
                  clear hn h1 h2 hlt2 heq
                  go_wp2_with fail
                  refine wp_region_over (by kernel_rfl) (by kernel_rfl) ?_
                  repeat (go_big_quiet_step (first | (go_at_call 34; exact Calls.over_of (HRX.out _)) | (go_at_call 11; exact Calls.over_of (HRO.out _))))
                  refine wpQuiet_nil ?_
                  rintro _ ⟨z0, rfl⟩
                  have HBI := Lib.hid (HBZ.out.trans ((ov_below wr z0).mono HBZ.out.size))
                  clear q1 q2
                  go_wp2
                  go_roundg (gk - 1)
                  case measure => have := HG2.out; have := HK.out; omega
                  case rel => exact ⟨k + 1, false, by have := HG2.out; have := HK.out; omega, by go_num, rfl, ⟨(fun h => by cases h), fun h => absurd h HD.out⟩, HBI.out⟩
          · have i2 : ¬ (k : Int) < l.length := by omega
            have HD := Lib.hid (show BestAt l l.length i from by
              obtain ⟨h1, h2⟩ := HIS.out.1 rfl
              exact ⟨HII.out, h1, fun j hj => h2 j (by have := HG2.out; omega)⟩)
            go_wp2
            go_ret2
            first | exact ⟨i, true, rfl, .inl ⟨rfl, HD.out⟩, HBY.out⟩ | exact ⟨i, .inr ⟨rfl, .inl ⟨rfl, HD.out⟩, HBY.out⟩⟩
    · have hie : i = l.length := by have := HG.out; omega
      have HD := Lib.hid (show ∀ k, k < l.length → isN (fAt l k) = true from by
        rw [hie] at HALL
        intro k hk
        cases hn : isN (fAt l k) with
        | true => rfl
        | false =>
          exfalso
          have : ∀ n, n ≤ l.length → ∃ a f, BestP l n a f := by
            intro n
            induction n with
            | zero => exact fun _ => ⟨0, false, BestP.start l⟩
            | succ n ih =>
              intro h
              obtain ⟨a, f, hb⟩ := ih (by omega)
              cases hn2 : isN (fAt l n) with
              | true => exact ⟨a, f, hb.skip hn2⟩
              | false =>
                cases f with
                | false => exact ⟨n, true, hb.first hn2⟩
                | true =>
                  by_cases hgt : rk (fAt l a) < rk (fAt l n)
                  · exact ⟨n, true, (hb.next hn2).1 hgt⟩
                  · exact ⟨a, true, (hb.next hn2).2 hgt⟩
          obtain ⟨a, f, hb⟩ := this l.length (Nat.le_refl _)
          rcases hb with ⟨_, h⟩ | ⟨_, _, h⟩
          · exact HALL.out a h.1 h
          · rw [h k hk] at hn; cases hn)
      go_wp2
      go_ret2
      first | exact ⟨0, false, rfl, .inr ⟨rfl, rfl, HD.out⟩, HB.out⟩ | exact ⟨0, .inl ⟨rfl, .inr ⟨rfl, rfl, HD.out⟩, HB.out⟩⟩
end Go.Proofs.Ytkapidcgonjbaaa
