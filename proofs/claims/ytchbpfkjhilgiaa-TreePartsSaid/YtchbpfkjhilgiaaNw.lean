/- The law TreeCompares: walk. -/
import Derived.Test.YtchbpfkjhilgiaaNv
namespace Go.Proofs.Ytchbpfkjhilgiaa
open Go.RowKit Go.WideShapes Go.ChangeShapes Go.ChangeMaps Go.Deep
set_option linter.unusedVariables false

/-- Where an element stands last among the first ones; 0: nowhere. -/
def lastI (O : List Nat) (a : Nat) : Nat → Nat
  | 0 => 0
  | k + 1 => if O.getD k 0 = a then k else lastI O a k
theorem lastI_succ (O : List Nat) (a k : Nat) : lastI O a (k + 1) = if O.getD k 0 = a then k else lastI O a k := rfl
theorem lastI_at (O : List Nat) (a : Nat) : ∀ k, (∃ j, j < k ∧ O.getD j 0 = a) → lastI O a k < k ∧ O.getD (lastI O a k) 0 = a
  | 0, h => by obtain ⟨j, hj, _⟩ := h; omega
  | k + 1, ⟨j, hj, he⟩ => by
    unfold lastI
    by_cases h : O.getD k 0 = a
    · rw [if_pos h]; exact ⟨by omega, h⟩
    · rw [if_neg h]
      have : j < k := by
        rcases Nat.lt_succ_iff_lt_or_eq.1 hj with h' | rfl
        · exact h'
        · exact absurd he h
      have := lastI_at O a k ⟨j, this, he⟩
      exact ⟨by omega, this.2⟩
theorem lastI_le (O : List Nat) (a : Nat) : ∀ k, lastI O a k ≤ k
  | 0 => Nat.le_refl _
  | k + 1 => by unfold lastI; split; omega; have := lastI_le O a k; omega
/-- What the places in the order tell. -/
theorem places_tell {l : List Nd} (hR : RightL l) {a b : Nat} (ha : a < l.length) (hb : b < l.length) :
    (forest l).ec a b = if lastI (ordN l) a (ordN l).length < lastI (ordN l) b (ordN l).length then -1 else if lastI (ordN l) b (ordN l).length < lastI (ordN l) a (ordN l).length then 1 else 0 := by
  have ho := ordN_right hR
  have hm : ∀ i, i < l.length → ∃ j, j < (ordN l).length ∧ (ordN l).getD j 0 = i := by
    intro i hi
    have : i ∈ ordN l := by rw [ho]; exact Forest.ord_mem.2 hi
    obtain ⟨j, hj, he⟩ := List.getElem_of_mem this
    exact ⟨j, hj, by rw [List.getD_eq_getElem?_getD, List.getElem?_eq_getElem hj]; exact he⟩
  obtain ⟨x1, x2⟩ := lastI_at (ordN l) a _ (hm a ha)
  obtain ⟨y1, y2⟩ := lastI_at (ordN l) b _ (hm b hb)
  generalize lastI (ordN l) a (ordN l).length = x at *
  generalize lastI (ordN l) b (ordN l).length = y at *
  have hx : (forest l).ord[x]? = some a := by rw [← ho]; rw [List.getD_eq_getElem?_getD, List.getElem?_eq_getElem x1] at x2; rw [List.getElem?_eq_getElem x1]; exact congrArg some x2
  have hy : (forest l).ord[y]? = some b := by rw [← ho]; rw [List.getD_eq_getElem?_getD, List.getElem?_eq_getElem y1] at y2; rw [List.getElem?_eq_getElem y1]; exact congrArg some y2
  obtain ⟨p1, p2, p3⟩ := Forest.ord_places hR.ok hx hy
  have h3 := Forest.wcmp_one (F := forest l) (fun i j => kCmp_three _ _) ((forest l).way a) ((forest l).way b)
  change (forest l).ec a b = -1 ∨ (forest l).ec a b = 0 ∨ (forest l).ec a b = 1 at h3
  by_cases h1 : x < y
  · rw [if_pos h1]; have := p1 h1; omega
  · rw [if_neg h1]
    by_cases h2 : y < x
    · rw [if_pos h2]; have := p2 h2; omega
    · rw [if_neg h2]; exact p3 (by omega)

set_option maxHeartbeats 4000000 in
set_option maxRecDepth 100000 in
theorem lawCompares_any (p : Option Addr) (c : Nat) (l : List Nd) (a b : Int) (w : World) (hin : nodeR.In w p l) :
    Calls Try.prog 7 #[.slice p l.length c, .int .i64 a, .int .i64 b] w fun e w' => e = .returned (.bool true) ∧ Below w.heap.size w w' := by
  by_cases h1 : 60 < l.length
  · go_enter Try.func7, Try.ntmps7
    go_wp2
    go_ret
    exact ⟨rfl, Below.refl _ _⟩
  have hlen : l.length ≤ 1000 := by omega
  have HX := Lib.hid hin
  have HTD := Lib.hid (fun w' (hb : Below w.heap.size w w') => told_any p c l w' hlen (hin.below hb))
  have HCM := Lib.hid (fun p' c' w' hi => tcompare_any p' c' l a b w' hlen hi)
  have HRR := Lib.hid (fun w' (hb : Below w.heap.size w w') => rright_any p c l w' hlen (hin.below hb))
  obtain ⟨R, hRR⟩ : ∃ R, R = cmpT l a b := ⟨_, rfl⟩
  rw [← hRR] at HCM
  have HRE := Lib.hid hRR
  clear hin hRR
  go_enter Try.func7, Try.ntmps7
  go_wp2_with fail
  refine (HTD.out _ (Below.refl w.heap.size w)).mono ?_
  rintro e w2 ⟨v2, rfl, hr2, hb2⟩
  obtain ⟨p2, c2, rfl, _, _, hi2, _⟩ := hr2.sl
  have HI2 := Lib.hid hi2
  have HB2 := Lib.hid ((Below.refl w.heap.size w).trans (hb2.mono (Below.refl w.heap.size w).size))
  clear hr2 hb2 hi2
  have HC3 := Lib.hid (HCM.out p2 c2 w2 HI2.out)
  go_wp2_with fail
  refine HC3.out.mono ?_
  rintro e w3 ⟨rfl, hb3⟩
  have HB3 := Lib.hid (HB2.out.trans (hb3.mono HB2.out.size))
  clear hb3 HC3
  have HC4 := Lib.hid (HRR.out w3 HB3.out)
  go_wp2_with fail
  refine HC4.out.mono ?_
  rintro e w4 ⟨rfl, hb4⟩
  have HB4 := Lib.hid (HB3.out.trans (hb4.mono HB3.out.size))
  clear hb4 HC4
  by_cases hR : RightL l
  case neg =>
    have hd : decide (RightL l) = false := decide_eq_false hR
    have hz : R = (0, false) := by rw [HRE.out]; unfold cmpT; rw [if_neg (fun h => hR h.1)]
    rw [hd]
    clear HRE HTD HCM HRR hd hR
    subst hz
    go_wp2_with fail
    refine (awake_any _).mono ?_
    rintro e w9 ⟨rfl, hb9⟩
    have HB9 := Lib.hid (HB4.out.trans (hb9.mono HB4.out.size))
    clear hb9
    go_wp2
    go_ret
    exact ⟨rfl, HB9.out⟩
  case pos =>
  have hd : decide (RightL l) = true := decide_eq_true hR
  rw [hd]
  have HR := Lib.hid hR
  have hRR := HRE.out
  clear hd hR HRE HTD HCM HRR
  by_cases a1 : a < 0
  · have hz : R = (0, false) := by rw [hRR]; unfold cmpT; rw [if_neg (fun h => by omega)]
    subst hz
    clear hRR
    go_wp2_with fail
    refine (awake_any _).mono ?_
    rintro e w9 ⟨rfl, hb9⟩
    have HB9 := Lib.hid (HB4.out.trans (hb9.mono HB4.out.size))
    clear hb9
    go_wp2
    go_ret
    exact ⟨rfl, HB9.out⟩
  by_cases b1 : b < 0
  · have hz : R = (0, false) := by rw [hRR]; unfold cmpT; rw [if_neg (fun h => by omega)]
    subst hz
    clear hRR
    go_wp2_with fail
    refine (awake_any _).mono ?_
    rintro e w9 ⟨rfl, hb9⟩
    have HB9 := Lib.hid (HB4.out.trans (hb9.mono HB4.out.size))
    clear hb9
    go_wp2
    go_ret
    exact ⟨rfl, HB9.out⟩
  by_cases a2 : (l.length : Int) ≤ a
  · have hz : R = (0, false) := by rw [hRR]; unfold cmpT; rw [if_neg (fun h => by omega)]
    subst hz
    clear hRR
    go_wp2_with fail
    refine (awake_any _).mono ?_
    rintro e w9 ⟨rfl, hb9⟩
    have HB9 := Lib.hid (HB4.out.trans (hb9.mono HB4.out.size))
    clear hb9
    go_wp2
    go_ret
    exact ⟨rfl, HB9.out⟩
  by_cases b2 : (l.length : Int) ≤ b
  · have hz : R = (0, false) := by rw [hRR]; unfold cmpT; rw [if_neg (fun h => by omega)]
    subst hz
    clear hRR
    go_wp2_with fail
    refine (awake_any _).mono ?_
    rintro e w9 ⟨rfl, hb9⟩
    have HB9 := Lib.hid (HB4.out.trans (hb9.mono HB4.out.size))
    clear hb9
    go_wp2
    go_ret
    exact ⟨rfl, HB9.out⟩
  obtain ⟨an, rfl⟩ := Int.eq_ofNat_of_zero_le (show 0 ≤ a by omega)
  obtain ⟨bn, rfl⟩ := Int.eq_ofNat_of_zero_le (show 0 ≤ b by omega)
  have HCT := Lib.hid (show R = ((forest l).ec an bn, true) from by rw [hRR]; unfold cmpT; rw [if_pos ⟨HR.out, by omega, by omega, by omega, by omega⟩]; rfl)
  have HPT := Lib.hid (places_tell HR.out (show an < l.length by omega) (show bn < l.length by omega))
  have HRO := Lib.hid (rorder_any p c l w4 hlen (HX.out.below HB4.out) HR.out)
  have hol := ordN_le l
  obtain ⟨O, hO⟩ : ∃ O, O = ordN l := ⟨_, rfl⟩
  rw [← hO] at HPT HRO hol
  clear hRR hO
  go_wp2_with fail
  refine HRO.out.mono ?_
  rintro e w5 ⟨v5, rfl, hr5, hb5⟩
  obtain ⟨p5, c5, rfl, _, _, hi5, _⟩ := hr5.sl
  have HI5 := Lib.hid hi5
  have HB5 := Lib.hid (HB4.out.trans (hb5.mono HB4.out.size))
  rw [toI_len]
  clear hr5 hb5 hi5 HRO
  go_wp2_with fail
  go_loopg [10, 11, 12] O.length (fun g v10 v11 v12 wr => ∃ k : Nat, g + k = O.length ∧ v10 = .int .i64 (lastI O an k : Nat) ∧ v11 = .int .i64 (lastI O bn k : Nat) ∧ v12 = .int .i64 k ∧ w5 = wr)
  case atStart => exact ⟨0, by omega, rfl, rfl, rfl, rfl⟩
  case round =>
    obtain ⟨k, hg, rfl, rfl, rfl, rfl⟩ := hrel
    have HG := Lib.hid hg
    clear hg
    by_cases hk : k < O.length
    · have HKK := Lib.hid hk
      obtain ⟨x, hx⟩ : ∃ x, x = O.getD k 0 := ⟨_, rfl⟩
      have hxI : (toI O)[k]? = some (x : Int) := by
        unfold toI; rw [List.getElem?_map, hx]; simp [List.getD_eq_getElem?_getD, hk]
      rcases HI5.out.2 with h | ⟨b3, o3, rfl, hlt3, hc3⟩
      · rw [h] at hxI; simp at hxI
      have q1 := int_cell (hc3 k _ hxI)
      have i1 : (k : Int) < O.length := by omega
      clear hxI hc3
      by_cases hxa : x = an
      · by_cases hxb : x = bn
        · have g1 : ((x : Int) == (an : Int)) = true := by simp; omega
          have g2 : ((x : Int) == (bn : Int)) = true := by simp; omega
          have HNA := Lib.hid (show lastI O an (k + 1) = k by rw [lastI_succ, ← hx, if_pos hxa])
          have HNB := Lib.hid (show lastI O bn (k + 1) = k by rw [lastI_succ, ← hx, if_pos hxb])
          clear hx hxa hxb
          go_wp2
          go_roundg (gk - 1)
          case measure => have := HG.out; have := HKK.out; omega
          case rel => exact ⟨k + 1, nat_step HG.out HKK.out, by rw [HNA.out], by rw [HNB.out], by go_num, rfl⟩
        · have g1 : ((x : Int) == (an : Int)) = true := by simp; omega
          have g2 : ((x : Int) == (bn : Int)) = false := by simp; omega
          have HNA := Lib.hid (show lastI O an (k + 1) = k by rw [lastI_succ, ← hx, if_pos hxa])
          have HNB := Lib.hid (show lastI O bn (k + 1) = lastI O bn k by rw [lastI_succ, ← hx, if_neg hxb])
          clear hx hxa hxb
          go_wp2
          go_roundg (gk - 1)
          case measure => have := HG.out; have := HKK.out; omega
          case rel => exact ⟨k + 1, nat_step HG.out HKK.out, by rw [HNA.out], by rw [HNB.out], by go_num, rfl⟩
      · by_cases hxb : x = bn
        · have g1 : ((x : Int) == (an : Int)) = false := by simp; omega
          have g2 : ((x : Int) == (bn : Int)) = true := by simp; omega
          have HNA := Lib.hid (show lastI O an (k + 1) = lastI O an k by rw [lastI_succ, ← hx, if_neg hxa])
          have HNB := Lib.hid (show lastI O bn (k + 1) = k by rw [lastI_succ, ← hx, if_pos hxb])
          clear hx hxa hxb
          go_wp2
          go_roundg (gk - 1)
          case measure => have := HG.out; have := HKK.out; omega
          case rel => exact ⟨k + 1, nat_step HG.out HKK.out, by rw [HNA.out], by rw [HNB.out], by go_num, rfl⟩
        · have g1 : ((x : Int) == (an : Int)) = false := by simp; omega
          have g2 : ((x : Int) == (bn : Int)) = false := by simp; omega
          have HNA := Lib.hid (show lastI O an (k + 1) = lastI O an k by rw [lastI_succ, ← hx, if_neg hxa])
          have HNB := Lib.hid (show lastI O bn (k + 1) = lastI O bn k by rw [lastI_succ, ← hx, if_neg hxb])
          clear hx hxa hxb
          go_wp2
          go_roundg (gk - 1)
          case measure => have := HG.out; have := HKK.out; omega
          case rel => exact ⟨k + 1, nat_step HG.out HKK.out, by rw [HNA.out], by rw [HNB.out], by go_num, rfl⟩
    · have hke : k = O.length := by have := HG.out; omega
      subst hke
      have hpt := HPT.out
      have l1 := lastI_le O an O.length
      have l2 := lastI_le O bn O.length
      generalize lastI O an O.length = x at *
      generalize lastI O bn O.length = y at *
      rcases Nat.lt_trichotomy x y with hl | hl | hl
      · rw [if_pos hl] at hpt
        have hz : R = (-1, true) := by rw [HCT.out, hpt]
        have g1 : decide ((x : Int) < y) = true := decide_eq_true (by omega)
        have g2 : decide ((y : Int) < x) = false := decide_eq_false (by omega)
        clear HCT HPT hpt
        subst hz
        go_wp2_with fail
        refine (awake_any _).mono ?_
        rintro e w9 ⟨rfl, hb9⟩
        have HB9 := Lib.hid (HB5.out.trans (hb9.mono HB5.out.size))
        clear hb9
        go_wp2
        go_ret
        exact ⟨rfl, HB9.out⟩
      · rw [if_neg (by omega), if_neg (by omega)] at hpt
        have hz : R = (0, true) := by rw [HCT.out, hpt]
        have g1 : decide ((x : Int) < y) = false := decide_eq_false (by omega)
        have g2 : decide ((y : Int) < x) = false := decide_eq_false (by omega)
        clear HCT HPT hpt
        subst hz
        go_wp2_with fail
        refine (awake_any _).mono ?_
        rintro e w9 ⟨rfl, hb9⟩
        have HB9 := Lib.hid (HB5.out.trans (hb9.mono HB5.out.size))
        clear hb9
        go_wp2
        go_ret
        exact ⟨rfl, HB9.out⟩
      · rw [if_neg (by omega), if_pos hl] at hpt
        have hz : R = (1, true) := by rw [HCT.out, hpt]
        have g1 : decide ((x : Int) < y) = false := decide_eq_false (by omega)
        have g2 : decide ((y : Int) < x) = true := decide_eq_true (by omega)
        clear HCT HPT hpt
        subst hz
        go_wp2_with fail
        refine (awake_any _).mono ?_
        rintro e w9 ⟨rfl, hb9⟩
        have HB9 := Lib.hid (HB5.out.trans (hb9.mono HB5.out.size))
        clear hb9
        go_wp2
        go_ret
        exact ⟨rfl, HB9.out⟩
set_option maxRecDepth 100000 in
theorem treeCompares_walk {H : Type} {enc : TypeId × Value → H} {W : World} {b0 : Nat} {v0 : Value} {d0 : DataW H} {p0 : List MemPlace}
    (k0 : Value.okWide Try.prog W .any b0 22 v0) (h0 : DataW.Trod enc Try.prog W 0 (fun _ => true) true 22 v0 d0 p0) (a : Int) (ha : (Lit.int .i64 a).wf = true) (b : Int) (hb : (Lit.int .i64 b).wf = true) :
    Calls Try.prog 7 #[v0, .int .i64 a, .int .i64 b] W fun e w' => e = .returned (.bool true) ∧ Below W.heap.size W w' := by
  obtain ⟨xs, p, c, rfl, hc1, hm1, hi1, hn1⟩ := reads_nodes h0 (okWide_slice Try.underlying22 k0)
  exact lawCompares_any p c xs a b W hi1
end Go.Proofs.Ytchbpfkjhilgiaa
