/- The laws UtfReads, UtfWrites, UtfBack: walks. -/
import Derived.Test.YtkfpgbhafeikiaaV
import Derived.ProofKit
import Derived.ChangeSlices
import Derived.Laws.AppendOwnNone
namespace Go.Proofs.Ytkfpgbhafeikiaa
open Go.RowKit Go.WideShapes Go.ChangeShapes Go.ChangeMaps
set_option linter.unusedVariables false

theorem cells42 : Try.prog.cellsOf 21 = 1 := by kernel_rfl

/-- An argument of type []rune: its length, its numbers, where they lie. -/
theorem reads_runes {H : Type} {enc : TypeId × Value → H} {W : World} {v : Value} {d : DataW H} {p : List MemPlace}
    (h : DataW.Trod enc Try.prog W 0 (fun _ => true) true 42 v d p) (hok : ∃ a len cap, v = .slice a len cap) :
    ∃ (a : Option Addr) (cap : Nat) (xs : List Int), v = .slice a xs.length cap ∧ xs.length ≤ maxLen ∧ IntsIn .i32 W a xs ∧ (a = none → xs = [] ∧ cap = 0) := by
  obtain ⟨a0, len0, cap0, rfl⟩ := hok
  obtain ⟨fuel, hf⟩ := h
  rcases open_ints Try.underlying42 Try.underlying21 cells42 hf with ⟨hcs, _⟩ | ⟨a, len, cap, zs, hcs, _, hl, hm, hz, _, hcell, _⟩
  · simp [Value.cells] at hcs
    obtain ⟨rfl, rfl, rfl⟩ := hcs
    exact ⟨none, 0, [], rfl, by simp, .inl rfl, fun _ => ⟨rfl, rfl⟩⟩
  · simp [Value.cells] at hcs
    obtain ⟨rfl, rfl, rfl⟩ := hcs
    simp only [if_true] at hz
    have hlen : (zs.take len0).length = len0 := by simp; omega
    refine ⟨some a, cap0, zs.take len0, by rw [hlen], by rw [hlen]; omega, ?_, fun h => by cases h⟩
    by_cases h0 : len0 = 0
    · subst h0; exact .inl (by simp)
    · have c0 := hcell 0 (by omega)
      obtain ⟨b, off, sp⟩ := a
      have hsp : sp = none := by
        cases sp with
        | none => rfl
        | some x => simp [World.cell?, Addr.add] at c0; split at c0 <;> simp at c0
      subst hsp
      refine .inr ⟨b, off, rfl, ?_, fun i hi => ?_⟩
      · rcases Nat.lt_or_ge b W.heap.size with h | h
        · exact h
        · simp [World.cell?, Addr.add, h] at c0
      · have := hcell i (by rw [hlen] at hi; omega)
        have hlt : i < len0 := by rw [hlen] at hi; exact hi
        by_cases hi0 : i = 0
        · subst hi0; simpa [Addr.add, hlt] using this
        · simpa [Addr.add, hlt, hi0] using this


theorem row_slice {w : World} {base : Nat} {v : Value} {xs : List Int} (h : w.ownsRow base 21 1 v xs.length (xs.map (Value.int .i32))) :
    ∃ a cap, v = .slice a xs.length cap ∧ IntsIn .i32 w a xs := by
  rcases h.2 with ⟨rfl, h0⟩ | ⟨g, cap, cur, rfl, r⟩
  · have hx : xs = [] := List.length_eq_zero_iff.1 h0
    subst hx
    exact ⟨none, 0, rfl, .inl rfl⟩
  · obtain ⟨_, _, _, hlt, hc⟩ := row_ints h
    exact ⟨_, cap, rfl, .inr ⟨g, 0, rfl, hlt, fun i hi => by rw [Nat.zero_add]; exact hc i hi⟩⟩

theorem runesL_len (s : ByteArray) : (runesL s.data.toList).length ≤ s.size ∧ cntN s.data.toList = (runesL s.data.toList).length := by
  have h1 := congrArg List.length (parse_parsed s.data.toList).eq
  have := encs_len (parse s.data.toList).1
  simp at h1
  unfold runesL cntN
  split <;> simp <;> omega

set_option maxHeartbeats 1000000 in
set_option maxRecDepth 100000 in
theorem utfReads_walk (s : ByteArray) (hs : s.size ≤ maxLen) (w : World) :
    Calls Try.prog 8 #[.string s] w fun e w' => e = .returned (.bool true) ∧ Below w.heap.size w w' := by
  have hS := Lib.hid hs
  unfold maxLen at hs
  by_cases h1 : 20000 < s.size
  · go_enter Try.func8, Try.ntmps8
    go_wp2
    go_ret
    exact ⟨rfl, Below.refl _ _⟩
  · obtain ⟨hl, hcn⟩ := runesL_len s
    have HCN := Lib.hid hcn
    clear hcn
    go_enter Try.func8, Try.ntmps8
    go_wp2_with fail
    refine (runes_any s hS.out (by omega) _).mono ?_
    rintro e w1 ⟨v1, rfl, ho1, hb1⟩
    obtain ⟨a1, c1, rfl, hi1⟩ := row_slice ho1
    clear ho1
    go_wp2_with fail
    refine (rrunes_any s hS.out (by omega) _).mono ?_
    rintro e w2 ⟨v2, rfl, ho2, hb2⟩
    obtain ⟨a2, c2, rfl, hi2⟩ := row_slice ho2
    have hi12 := hi1.below hb2
    have hb12 := hb1.trans (hb2.mono hb1.size)
    have HI1 := Lib.hid hi12
    have HI2 := Lib.hid hi2
    clear ho2 hi1 hi12 hi2 hb1 hb2
    go_wp2_with fail
    refine (check_any s hS.out _).mono ?_
    rintro e w3 ⟨rfl, rfl⟩
    go_wp2_with fail
    refine (count_any s hS.out _).mono ?_
    rintro e w3 ⟨rfl, hb3⟩
    rw [HCN.out]
    have hi1 := HI1.out.below hb3
    have hi2 := HI2.out.below hb3
    have hb13 := hb12.trans (hb3.mono hb12.size)
    have HI1' := Lib.hid hi1
    have HI2' := Lib.hid hi2
    clear hi1 hi2 HI1 HI2 hb12 hb3
    generalize chkAt s.data.toList = x at *
    generalize chkE s.data.toList = y at *
    generalize runesL s.data.toList = rs at *
    have hsz := hb13.size
    go_wp2_with fail
    refine (same_any a1 a2 c1 c2 rs rs (by omega) (by omega) _ HI1'.out HI2'.out).mono ?_
    rintro e w4 ⟨rfl, hb4⟩
    have hb14 := hb13.trans (hb4.mono hsz)
    have hsz4 := hb14.size
    rw [show (rs == rs) = true by simp]
    go_wp2_with fail
    refine (awake_any _).mono ?_
    rintro e w5 ⟨rfl, hb5⟩
    go_wp2
    go_ret
    exact ⟨rfl, hb14.trans (hb5.mono hsz4)⟩

/-- The copy of a list of runes. -/
theorem IntsIn.rowCells {w : World} {a : Option Addr} {xs : List Int} (h : IntsIn .i32 w a xs) (h0 : xs ≠ []) :
    ∃ b off, a = some ⟨b, off, none⟩ ∧ b < w.heap.size ∧ ∀ j u, (xs.map (Value.int .i32))[j]? = some u → w.cell? ((⟨b, off, none⟩ : Addr).add j) = some u := by
  rcases h with h | ⟨b, off, rfl, hlt, hc⟩
  · exact absurd h h0
  · refine ⟨b, off, rfl, hlt, fun j u hj => ?_⟩
    have hjl : j < xs.length := by
      rcases Nat.lt_or_ge j xs.length with h | h
      · exact h
      · simp [h] at hj
    have e : ((⟨b, off, none⟩ : Addr).add j) = ⟨b, off + j, none⟩ := by
      unfold Addr.add
      split
      · rename_i h0; subst h0; rfl
      · rfl
    rw [e, hc j hjl]
    simpa [hjl] using hj

set_option maxHeartbeats 1000000 in
set_option maxRecDepth 100000 in
theorem utfWrites_any (a : Option Addr) (cap : Nat) (xs : List Int) (hm : xs.length ≤ maxLen) (w : World) (hi : IntsIn .i32 w a xs) (hn : a = none → xs = [] ∧ cap = 0) :
    Calls Try.prog 9 #[.slice a xs.length cap] w fun e w' => e = .returned (.bool true) ∧ Below w.heap.size w w' := by
  unfold maxLen at hm
  by_cases h1 : 5000 < xs.length
  · go_enter Try.func9, Try.ntmps9
    go_wp2
    go_ret
    exact ⟨rfl, Below.refl _ _⟩
  · obtain ⟨i0, hif, hz0, hz1, hz2⟩ := info_parts info21
    have hown0 : (w.alloc (.cells #[] 21)).ownsRow w.heap.size 21 1 (.slice (some ⟨w.heap.size, 0, none⟩) 0 0) 0 [] :=
      ⟨by simp, .inr ⟨w.heap.size, 0, #[], rfl, Nat.le_refl _, (MapKept.heap_alloc w _).1, Nat.le_refl _, by unfold maxLen; omega, by simp, by simp⟩⟩
    have hi1 := hi.below ((Below.refl _ w).alloc (Nat.le_refl _) (.cells #[] 21))
    have HI := Lib.hid hi
    clear hi
    cases a with
    | none =>
      obtain ⟨rfl, rfl⟩ := hn rfl
      go_enter Try.func9, Try.ntmps9
      go_wp2_with (at_builtin; refine wpList_append_own_none rfl _ _ 42 rfl w.heap.size 21 i0 1 Try.underlying42 hif _ _ _ rfl hown0 rfl ?_)
      refine (text_any _ _ [] _ (by simp) (.inl rfl)).mono ?_
      rintro e w1 ⟨rfl, hb1⟩
      go_wp2_with fail
      refine (rtext_any _ _ [] _ (by simp) (.inl rfl)).mono ?_
      rintro e w2 ⟨rfl, hb2⟩
      have hb12 := ((Below.refl _ w).alloc (Nat.le_refl _) (.cells #[] 21)).trans ((hb1.trans (hb2.mono hb1.size)).mono (by simp))
      have hsz := hb12.size
      clear hb1 hb2 hown0 hi1
      generalize (⟨(textL []).toArray⟩ : ByteArray) = x at *
      generalize textE [] = y at *
      go_wp2_with fail
      refine (awake_any _).mono ?_
      rintro e w5 ⟨rfl, hb5⟩
      go_wp2
      go_ret
      exact ⟨rfl, hb12.trans (hb5.mono hsz)⟩
    | some ad =>
      have HI1 := Lib.hid hi1
      clear hi1
      have hc1 : ∀ j u, (xs.map (Value.int .i32))[j]? = some u → (w.alloc (.cells #[] 21)).cell? (ad.add j) = some u := by
        by_cases h0 : xs = []
        · subst h0; intro j u hj; simp at hj
        · obtain ⟨b, off, hab, _, hc⟩ := HI1.out.rowCells h0
          cases hab
          exact hc
      have HC1 := Lib.hid hc1
      clear hc1
      go_enter Try.func9, Try.ntmps9
      go_wp2_with (at_builtin; refine wpList_append_own _ rfl _ _ 42 rfl w.heap.size 21 i0 (.int .i32 0) 1 4 Try.underlying42 hif hz0 hz1 hz2 rfl (by decide) _ _ _ rfl hown0 ad xs.length cap (xs.map (Value.int .i32)) rfl (by simp) HC1.out ?c2 ?c3 ?c4 ?c5 ?_)
      case c2 => simp [Value.oneCell']
      case c3 => unfold maxLen; omega
      case c4 => omega
      case c5 => simp
      intro v' w1 hown' hgrow _
      have hown2 : w1.ownsRow w.heap.size 21 1 v' xs.length (xs.map (Value.int .i32)) := by simpa using hown'
      obtain ⟨a2, c2, rfl, hi2⟩ := row_slice hown2
      have hb1 : Below w.heap.size w w1 := ((Below.refl _ w).alloc (Nat.le_refl _) _).grown hgrow (by simp) (fun k hk => by simp [Value.ownBlock] at hk; omega)
      have HI2 := Lib.hid hi2
      have HI3 := Lib.hid (HI.out.below hb1)
      have hsz1 := hb1.size
      clear hown' hown2 hown0 hi2 HI HI1 HC1 hgrow hif hz0 hz1 hz2
      go_wp2_with fail
      refine (text_any a2 c2 xs _ (by omega) HI2.out).mono ?_
      rintro e w2 ⟨rfl, hb2⟩
      have HI4 := Lib.hid (HI3.out.below hb2)
      have hb12 := hb1.trans (hb2.mono hsz1)
      have hsz2 := hb12.size
      clear HI2 HI3 hb1 hb2
      go_wp2_with fail
      refine (rtext_any _ _ xs _ (by omega) HI4.out).mono ?_
      rintro e w3 ⟨rfl, hb3⟩
      have hb13 := hb12.trans (hb3.mono hsz2)
      have hsz3 := hb13.size
      clear HI4 hb12 hb3
      generalize (⟨(textL xs).toArray⟩ : ByteArray) = x at *
      generalize textE xs = y at *
      go_wp2_with fail
      refine (awake_any _).mono ?_
      rintro e w5 ⟨rfl, hb5⟩
      go_wp2
      go_ret
      exact ⟨rfl, hb13.trans (hb5.mono hsz3)⟩

theorem utfWrites_walk {H : Type} {enc : TypeId × Value → H} {W : World} {base : Nat} {v : Value} {d : DataW H} {p : List MemPlace} (hok : Value.okWide Try.prog W .any base 42 v)
    (h : DataW.Trod enc Try.prog W 0 (fun _ => true) true 42 v d p) :
    Calls Try.prog 9 #[v] W fun e w' => e = .returned (.bool true) ∧ Below W.heap.size W w' := by
  obtain ⟨a, cap, xs, rfl, hm, hi, hn⟩ := reads_runes h (okWide_slice Try.underlying42 hok)
  exact utfWrites_any a cap xs hm W hi hn

theorem beq_bytes (a b : ByteArray) : (a.toList == b.toList) = decide (a = b) := by
  rw [Bool.eq_iff_iff]
  simp only [beq_iff_eq, decide_eq_true_eq, ByteArray.toList_eq]
  constructor
  · intro h; exact ByteArray.ext (Array.toList_inj.1 h)
  · rintro rfl; rfl

/-- What Text makes of Runes, and Runes of Text. -/
theorem back_text {s : ByteArray} (h : isText s.data.toList = true) : textE (runesL s.data.toList) = 0 ∧ (⟨(textL (runesL s.data.toList)).toArray⟩ : ByteArray) = s := by
  have g := good_all (parse_parsed s.data.toList).good
  have hr : runesL s.data.toList = (parse s.data.toList).1 := by unfold runesL; rw [h]; rfl
  rw [hr]
  unfold textE textL
  rw [g]
  exact ⟨rfl, by rw [if_pos rfl]; exact (bytes_ext (isText_iff.1 h)).symm⟩
theorem back_runes {l : List Int} (h : allMay l = true) {u : ByteArray} (hu : u = ⟨(textL l).toArray⟩) : isText u.data.toList = true ∧ runesL u.data.toList = l := by
  have g : Good l := by unfold allMay at h; rw [List.all_eq_true] at h; exact h
  have e : u.data.toList = encs l := by subst hu; unfold textL; rw [h]; rfl
  rw [e]
  have t := isText_encs g
  refine ⟨t, ?_⟩
  unfold runesL
  rw [t, if_pos rfl, (parsed_encs g).parse_eq]

set_option maxHeartbeats 2000000 in
set_option maxRecDepth 100000 in
theorem utfBack_any (s : ByteArray) (hs : s.size ≤ maxLen) (a : Option Addr) (cap : Nat) (xs : List Int) (hm : xs.length ≤ maxLen) (w : World) (hi : IntsIn .i32 w a xs) :
    Calls Try.prog 10 #[.string s, .slice a xs.length cap] w fun e w' => e = .returned (.bool true) ∧ Below w.heap.size w w' := by
  have hS := Lib.hid hs
  unfold maxLen at hm hs
  have HI := Lib.hid hi
  clear hi
  by_cases h1 : 5000 < s.size
  · go_enter Try.func10, Try.ntmps10
    go_wp2
    go_ret
    exact ⟨rfl, Below.refl _ _⟩
  by_cases h2 : 5000 < xs.length
  · go_enter Try.func10, Try.ntmps10
    go_wp2
    go_ret
    exact ⟨rfl, Below.refl _ _⟩
  have hl := (runesL_len s).1
  have hl4 := encs_len4 xs
  have hul : (⟨(textL xs).toArray⟩ : ByteArray).size ≤ 20000 := by
    simp only [ByteArray.size, List.size_toArray]
    unfold textL; split
    · omega
    · simp
  have HT := Lib.hid (@back_text s)
  have HE0 := Lib.hid (@chkE_no s.data.toList)
  have HE1 := Lib.hid (@chkE_yes s.data.toList)
  have HRN := Lib.hid (fun (h : isText s.data.toList = false) => (show runesL s.data.toList = [] by unfold runesL; rw [h]; rfl))
  have HB := Lib.hid (@back_runes xs)
  have HTE := Lib.hid (show (allMay xs = true → textE xs = 0) ∧ (allMay xs = false → textE xs = 5) by
    unfold textE; exact ⟨fun h => by rw [h]; rfl, fun h => by rw [h]; rfl⟩)
  clear hl4
  go_enter Try.func10, Try.ntmps10
  go_wp2_with fail
  refine (runes_any s hS.out (by omega) _).mono ?_
  rintro e w1 ⟨v1, rfl, ho1, hb1⟩
  obtain ⟨a1, c1, rfl, hi1⟩ := row_slice ho1
  have HI1 := Lib.hid hi1
  have HI2 := Lib.hid (HI.out.below hb1)
  have hsz1 := hb1.size
  clear ho1 hi1 HI
  go_wp2_with fail
  refine (text_any a1 c1 _ _ (by omega) HI1.out).mono ?_
  rintro e w2 ⟨rfl, hb2⟩
  have HI3 := Lib.hid (HI2.out.below hb2)
  have hb12 := hb1.trans (hb2.mono hsz1)
  have hsz2 := hb12.size
  clear HI1 HI2 hb1 hb2
  cases ht : isText s.data.toList with
  | true =>
    have HC0 := Lib.hid (chkE_yes ht)
    have HT' := Lib.hid (HT.out ht)
    rw [HC0.out, HT'.out.1, HT'.out.2]
    clear HC0 HT' HT HE0 HE1 HRN ht
    go_wp2_with fail
    refine (text_any a cap xs _ (by omega) HI3.out).mono ?_
    rintro e w3 ⟨rfl, hb3⟩
    have HI4' := Lib.hid (HI3.out.below hb3)
    have hb13 := hb12.trans (hb3.mono hsz2)
    have hsz3 := hb13.size
    clear HI3 hb12 hb3
    have HUL := Lib.hid (show (⟨(textL xs).toArray⟩ : ByteArray).size ≤ maxLen by unfold maxLen; omega)
    generalize hu : (⟨(textL xs).toArray⟩ : ByteArray) = u at *
    have HU := Lib.hid hu
    clear hu
    cases hx : allMay xs with
    | true =>
      have hbk := HB.out hx rfl
      have HTE1 := Lib.hid (HTE.out.1 hx)
      have HC := Lib.hid (chkE_yes hbk.1)
      have HR := Lib.hid hbk.2
      clear hx hbk
      rw [HTE1.out]
      go_wp2_with fail
      refine (runes_any u HUL.out (by omega) _).mono ?_
      rintro e w4 ⟨v4, rfl, ho4, hb4⟩
      rw [HR.out] at ho4
      rw [HC.out]
      obtain ⟨a4, c4, rfl, hi4⟩ := row_slice ho4
      have HI4 := Lib.hid hi4
      have HI5 := Lib.hid (HI4'.out.below hb4)
      have hb14 := hb13.trans (hb4.mono hsz3)
      have hsz4 := hb14.size
      clear ho4 hi4 hb4 HI4'
      go_wp2_with fail
      refine (same_any a4 a c4 cap xs xs (by omega) (by omega) _ HI4.out HI5.out).mono ?_
      rintro e w5 ⟨rfl, hb5⟩
      have hb15 := hb14.trans (hb5.mono hsz4)
      have hsz5 := hb15.size
      rw [show (xs == xs) = true by simp]
      go_wp2_with fail
      refine (awake_any _).mono ?_
      rintro e w6 ⟨rfl, hb6⟩
      go_wp2
      go_ret
      exact ⟨rfl, hb15.trans (hb6.mono hsz5)⟩
    | false =>
      have HTE1 := Lib.hid (HTE.out.2 hx)
      clear hx
      rw [HTE1.out]
      go_wp2_with fail
      refine (runes_any u HUL.out (by omega) _).mono ?_
      rintro e w4 ⟨v4, rfl, ho4, hb4⟩
      have hb14 := hb13.trans (hb4.mono hsz3)
      have hsz4 := hb14.size
      clear ho4 hb4
      go_wp2_with fail
      refine (awake_any _).mono ?_
      rintro e w6 ⟨rfl, hb6⟩
      go_wp2
      go_ret
      exact ⟨rfl, hb14.trans (hb6.mono hsz4)⟩
  | false =>
    have HC0 := Lib.hid (chkE_no ht)
    rw [HC0.out]
    clear HC0 HT HE0 HE1 HRN ht
    generalize (⟨(textL (runesL s.data.toList)).toArray⟩ : ByteArray) = t0 at *
    generalize textE (runesL s.data.toList) = f0 at *
    go_wp2_with fail
    refine (text_any a cap xs _ (by omega) HI3.out).mono ?_
    rintro e w3 ⟨rfl, hb3⟩
    have HI4' := Lib.hid (HI3.out.below hb3)
    have hb13 := hb12.trans (hb3.mono hsz2)
    have hsz3 := hb13.size
    clear HI3 hb12 hb3
    have HUL := Lib.hid (show (⟨(textL xs).toArray⟩ : ByteArray).size ≤ maxLen by unfold maxLen; omega)
    generalize hu : (⟨(textL xs).toArray⟩ : ByteArray) = u at *
    have HU := Lib.hid hu
    clear hu
    cases hx : allMay xs with
    | true =>
      have hbk := HB.out hx rfl
      have HTE1 := Lib.hid (HTE.out.1 hx)
      have HC := Lib.hid (chkE_yes hbk.1)
      have HR := Lib.hid hbk.2
      clear hx hbk
      rw [HTE1.out]
      go_wp2_with fail
      refine (runes_any u HUL.out (by omega) _).mono ?_
      rintro e w4 ⟨v4, rfl, ho4, hb4⟩
      rw [HR.out] at ho4
      rw [HC.out]
      obtain ⟨a4, c4, rfl, hi4⟩ := row_slice ho4
      have HI4 := Lib.hid hi4
      have HI5 := Lib.hid (HI4'.out.below hb4)
      have hb14 := hb13.trans (hb4.mono hsz3)
      have hsz4 := hb14.size
      clear ho4 hi4 hb4 HI4'
      go_wp2_with fail
      refine (same_any a4 a c4 cap xs xs (by omega) (by omega) _ HI4.out HI5.out).mono ?_
      rintro e w5 ⟨rfl, hb5⟩
      have hb15 := hb14.trans (hb5.mono hsz4)
      have hsz5 := hb15.size
      rw [show (xs == xs) = true by simp]
      go_wp2_with fail
      refine (awake_any _).mono ?_
      rintro e w6 ⟨rfl, hb6⟩
      go_wp2
      go_ret
      exact ⟨rfl, hb15.trans (hb6.mono hsz5)⟩
    | false =>
      have HTE1 := Lib.hid (HTE.out.2 hx)
      clear hx
      rw [HTE1.out]
      go_wp2_with fail
      refine (runes_any u HUL.out (by omega) _).mono ?_
      rintro e w4 ⟨v4, rfl, ho4, hb4⟩
      have hb14 := hb13.trans (hb4.mono hsz3)
      have hsz4 := hb14.size
      clear ho4 hb4
      go_wp2_with fail
      refine (awake_any _).mono ?_
      rintro e w6 ⟨rfl, hb6⟩
      go_wp2
      go_ret
      exact ⟨rfl, hb14.trans (hb6.mono hsz4)⟩

theorem utfBack_walk {H : Type} {enc : TypeId × Value → H} {W : World} {base : Nat} (s : ByteArray) (hs : s.size ≤ maxLen) {v : Value} {d : DataW H} {p : List MemPlace} (hok : Value.okWide Try.prog W .any base 42 v)
    (h : DataW.Trod enc Try.prog W 0 (fun _ => true) true 42 v d p) :
    Calls Try.prog 10 #[.string s, v] W fun e w' => e = .returned (.bool true) ∧ Below W.heap.size W w' := by
  obtain ⟨a, cap, xs, rfl, hm, hi, hn⟩ := reads_runes h (okWide_slice Try.underlying42 hok)
  exact utfBack_any s hs a cap xs hm W hi

end Go.Proofs.Ytkfpgbhafeikiaa
