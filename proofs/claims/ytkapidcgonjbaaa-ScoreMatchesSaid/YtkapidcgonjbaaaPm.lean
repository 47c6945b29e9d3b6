/- The walk of ScoreMatches. -/
import Derived.Test.YtkapidcgonjbaaaPl
import Derived.Test.YtkapidcgonjbaaaPf
namespace Go.Proofs.Ytkapidcgonjbaaa
open Go.RowKit Go.WideShapes Go.ChangeShapes
set_option linter.unusedVariables false

set_option maxHeartbeats 4000000 in
set_option maxRecDepth 100000 in
theorem matches_any (am : Option Addr) (cap : Nat) (rows : List (List Nat)) (least : Nat) (hl : least < 18446744073709551616) (w : World) (hm : MatW w am rows) :
    Calls Try.prog 5 #[.slice am rows.length cap, .float .f64 least] w fun e w' => e = .returned (.bool true) ∧ Below w.heap.size w w' := by
  by_cases h1 : 12 < rows.length
  · go_enter Try.func5, Try.ntmps5
    go_wp2
    go_ret
    exact ⟨rfl, Below.refl _ _⟩
  have hr30 : rows.length ≤ 12 := by omega
  have HM := Lib.hid hm
  have HL := Lib.hid hl
  clear hm hl
  go_enter Try.func5, Try.ntmps5
  go_wp2_with fail
  go_loopg [5] rows.length (fun g v5 wr => ∃ k : Nat, g + k = rows.length ∧ v5 = .int .i64 k ∧ (∀ r ∈ rows.take k, r.length ≤ 12) ∧ wr = w)
  case atStart => exact ⟨0, by omega, rfl, by simp, rfl⟩
  case round =>
    obtain ⟨k, hg, rfl, hall, rfl⟩ := hrel
    have HG := Lib.hid hg
    have HA := Lib.hid hall
    clear hg hall
    by_cases hk : k < rows.length
    · obtain ⟨b, off, rfl⟩ := HM.out.addr hk
      have hrk : rows[k]? = some rows[k] := List.getElem?_eq_getElem hk
      obtain ⟨r, hr⟩ : ∃ r, r = rows[k] := ⟨_, rfl⟩
      rw [← hr] at hrk
      obtain ⟨hb0, a, rc, e0, hrc, hrm, hin, han⟩ := HM.out.row k r hrk
      have HT := Lib.hid (show rows.take (k + 1) = rows.take k ++ [r] by rw [List.take_add_one, hrk]; rfl)
      have hkz : (k : Int) < rows.length := by omega
      clear hr hrk hin han
      by_cases h30 : 12 < r.length
      · go_wp2
        go_ret
        exact ⟨rfl, Below.refl _ _⟩
      · have hri : ¬ ((12 : Int) < r.length) := by omega
        go_wp2
        go_roundg (gk - 1)
        case measure => have := HG.out; omega
        case rel => exact ⟨k + 1, by have := HG.out; omega, by go_num, by rw [HT.out]; intro q hq; rcases List.mem_append.1 hq with h | h; exact HA.out q h; rw [List.mem_singleton] at h; subst h; omega, rfl⟩
    · have hkE : k = rows.length := by have := HG.out; omega
      have HSM := Lib.hid (show small rows from ⟨by omega, by have := HA.out; rw [hkE, List.take_length] at this; intro r hr; have := this r hr; omega⟩)
      have HQ := Lib.hid (copyM_any am cap rows wr HM.out HSM.out)
      go_wp2_with fail
      refine HQ.out.mono ?_
      rintro e w1 ⟨a1, c1, rfl, hm1, hb1⟩
      have HM1 := Lib.hid hm1
      have HB1 := Lib.hid hb1
      clear hm1 hb1 HQ
      have HQ := Lib.hid (match_any a1 c1 rows least HL.out w1 HM1.out HSM.out)
      have HQ2 := Lib.hid (fun w2 (hb : Below wr.heap.size wr w2) => rmatch_any am cap rows least HL.out w2 (HM.out.below hb) HSM.out)
      have HLN := Lib.hid (show (matchL rows least).length ≤ 900 by
        rw [matchL_greedy]
        have h1 := (greedy_len (sortPs (allPs least rows rows.length)) []).2
        have h2 := allPs_length least rows HSM.out.2 rows.length
        have h3 : (sortPs (allPs least rows rows.length)).length = (allPs least rows rows.length).length := List.length_mergeSort _
        simp at h1; omega)
      generalize matchL rows least = M at *
      go_wp2_with fail
      refine HQ.out.mono ?_
      rintro e w2 ⟨v, rfl, hr2, hb2⟩
      obtain ⟨a2, c2, rfl, hc2, hm2, hin2, hn2⟩ := hr2.sl
      have HI2 := Lib.hid hin2
      have HB2 := Lib.hid (HB1.out.trans (hb2.mono HB1.out.size))
      clear hr2 hin2 hb2 hn2 HQ
      have HQ3 := Lib.hid (HQ2.out w2 HB2.out)
      clear HQ2
      go_wp2_with fail
      refine HQ3.out.mono ?_
      rintro e w3 ⟨v, rfl, hr3, hb3⟩
      obtain ⟨a3, c3, rfl, hc3, hm3, hin3, hn3⟩ := hr3.sl
      have HI3 := Lib.hid hin3
      have HI2' := Lib.hid (HI2.out.below hb3)
      have HB3 := Lib.hid (HB2.out.trans (hb3.mono HB2.out.size))
      clear hr3 hin3 hb3 hn3 HQ3
      have HP := Lib.hid (pairs_any a2 a3 c2 c3 M M w3 (by have := HLN.out; omega) (by have := HLN.out; omega) HI2'.out HI3.out)
      go_wp2_with fail
      refine HP.out.mono ?_
      rintro e w4 ⟨rfl, hb4⟩
      have HB4 := Lib.hid (HB3.out.trans (hb4.mono HB3.out.size))
      rw [show (M == M) = true from beq_self_eq_true _]
      clear hb4 HP
      go_wp2_with fail
      refine (awake_any _).mono ?_
      rintro e w9 ⟨rfl, hb9⟩
      have HB9 := Lib.hid (HB4.out.trans (hb9.mono HB4.out.size))
      clear hb9
      go_wp2
      go_ret
      exact ⟨rfl, HB9.out⟩
theorem scoreMatches_walk {H : Type} {enc : TypeId × Value → H} {W : World} {b0 : Nat} {v0 : Value} {d0 : DataW H} {p0 : List MemPlace}
    (k0 : Value.okWide Try.prog W .any b0 29 v0) (h0 : DataW.Trod enc Try.prog W 0 (fun _ => true) true 29 v0 d0 p0) (x : Nat) (hx : (Lit.float .f64 x).wf = true) :
    Calls Try.prog 5 #[v0, .float .f64 x] W fun e w' => e = .returned (.bool true) ∧ Below W.heap.size W w' := by
  obtain ⟨rows, a, cap, rfl, h1, h2, h3, h4⟩ := reads_mat h0 (okWide_slice Try.underlying29 k0)
  exact matches_any a cap rows x (flt_wf hx) W h3
end Go.Proofs.Ytkapidcgonjbaaa
