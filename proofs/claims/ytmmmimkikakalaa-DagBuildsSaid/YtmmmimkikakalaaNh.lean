/- Logs, plain: which node comes next. -/
import Derived.Test.YtmmmimkikakalaaNf
namespace Go.Proofs.Ytmmmimkikakalaa
open Go.RowKit Go.Maps
set_option linter.unusedVariables false

/-- May be told next. -/
def candB (G : List GN) (P O : List (List UInt8)) (x : List UInt8) : Bool := !decide (x ∈ O) && readyL G P O x
/-- The first one of those that may be told: the newest, of these the least. -/
structure IsBest (G : List GN) (P O : List (List UInt8)) (x : List UInt8) : Prop where
  mem : x ∈ P
  cand : candB G P O x = true
  best : ∀ y ∈ P, candB G P O y = true → y = x ∨ stampOf G y < stampOf G x ∨ (stampOf G y = stampOf G x ∧ cmpB x y < 0)
theorem IsBest.unique {G : List GN} {P O : List (List UInt8)} {x y : List UInt8} (h : IsBest G P O x) (h' : IsBest G P O y) : x = y := by
  rcases h.best y h'.mem h'.cand with e | h1
  · exact e.symm
  · rcases h'.best x h.mem h.cand with e | h2
    · exact e
    · have := cmpB_anti x y
      omega
/-- The next one. -/
noncomputable def nextL (G : List GN) (P O : List (List UInt8)) : List UInt8 := Classical.epsilon (IsBest G P O)
theorem IsBest.next {G : List GN} {P O : List (List UInt8)} {x : List UInt8} (h : IsBest G P O x) : x = nextL G P O := h.unique (Classical.epsilon_spec (p := IsBest G P O) ⟨x, h⟩)
/-- The first n of a log. -/
noncomputable def logN (G : List GN) (P : List (List UInt8)) : Nat → List (List UInt8)
  | 0 => []
  | n + 1 => logN G P n ++ [nextL G P (logN G P n)]
theorem logN_len (G : List GN) (P : List (List UInt8)) : ∀ n, (logN G P n).length = n
  | 0 => rfl
  | n + 1 => by rw [logN, List.length_append, logN_len G P n]; rfl
/-- A node's log. -/
noncomputable def logL (G : List GN) (x : List UInt8) : List (List UInt8) := logN G (pastL G x) (pastL G x).length

theorem candB_iff {G : List GN} {P O : List (List UInt8)} {x : List UInt8} : candB G P O x = true ↔ ¬ x ∈ O ∧ ∀ y ∈ P, y ∈ O ∨ ¬ x ∈ parsOf G y := by
  unfold candB readyL
  rw [Bool.and_eq_true, List.all_eq_true]
  simp
/-- While there are some left, one may be told. -/
theorem cand_ex {G : List GN} (hG : Wf G) {P O : List (List UInt8)} (hl : ∃ x ∈ P, ¬ x ∈ O) : ∃ x ∈ P, candB G P O x = true := by
  have hmax : ∀ n : Nat, ∀ x ∈ P, ¬ x ∈ O → G.length - rank G x ≤ n → ∃ x ∈ P, candB G P O x = true := by
    intro n
    induction n with
    | zero =>
      intro x hx hxo hr
      refine ⟨x, hx, candB_iff.2 ⟨hxo, fun y hy => ?_⟩⟩
      by_cases hp : x ∈ parsOf G y
      · have h1 := par_up hG hp
        have : rank G y < G.length := by
          have := List.idxOf_lt_length_of_mem (isNode_mem.1 h1.1)
          simpa [rank] using this
        omega
      · exact .inr hp
    | succ n ih =>
      intro x hx hxo hr
      by_cases hc : candB G P O x = true
      · exact ⟨x, hx, hc⟩
      · rw [candB_iff] at hc
        have : ∃ y ∈ P, ¬ y ∈ O ∧ x ∈ parsOf G y := Classical.byContradiction fun hn => hc ⟨hxo, fun y hy => Classical.byContradiction fun h => hn ⟨y, hy, fun h' => h (.inl h'), Classical.byContradiction fun h' => h (.inr h')⟩⟩
        obtain ⟨y, hy, hyo, hp⟩ := this
        have h1 := par_up hG hp
        have : rank G y < G.length := by
          have := List.idxOf_lt_length_of_mem (isNode_mem.1 h1.1)
          simpa [rank] using this
        exact ih y hy hyo (by omega)
  obtain ⟨x, hx, hxo⟩ := hl
  exact hmax _ x hx hxo (Nat.le_refl _)
/-- What is told so far, n of all. -/
structure LogIs (G : List GN) (P : List (List UInt8)) (n : Nat) : Prop where
  nd : (logN G P n).Nodup
  sub : ∀ y ∈ logN G P n, y ∈ P
theorem some_left {P O : List (List UInt8)} (hn : P.Nodup) (hl : O.length < P.length) : ∃ x ∈ P, ¬ x ∈ O := Classical.byContradiction fun h => by
  have := nodup_len P O hn (fun x hx => Classical.byContradiction fun hx' => h ⟨x, hx, hx'⟩)
  omega
theorem LogIs.step {G : List GN} {P : List (List UInt8)} {n : Nat} (h : LogIs G P n) {x : List UInt8} (hb : IsBest G P (logN G P n) x) : logN G P (n + 1) = logN G P n ++ [x] ∧ LogIs G P (n + 1) := by
  have e : logN G P (n + 1) = logN G P n ++ [x] := by rw [logN, ← hb.next]
  refine ⟨e, ?_, ?_⟩
  · rw [e]; exact nodup_snoc h.nd (candB_iff.1 hb.cand).1
  · rw [e]
    intro y hy
    rcases List.mem_append.1 hy with hy | hy
    · exact h.sub y hy
    · rw [List.mem_singleton.1 hy]; exact hb.mem
theorem LogIs.zero (G : List GN) (P : List (List UInt8)) : LogIs G P 0 := ⟨by simp [logN], by simp [logN]⟩
/-- The best so far, of the first i. -/
def BestTo (G : List GN) (P O : List (List UInt8)) (i : Nat) : Option Nat → Prop
  | none => ∀ j, j < i → candB G P O (P.getD j []) = false
  | some m => m < i ∧ m < P.length ∧ candB G P O (P.getD m []) = true ∧ ∀ j, j < i → candB G P O (P.getD j []) = true → stampOf G (P.getD j []) ≤ stampOf G (P.getD m []) ∧ (j < m → stampOf G (P.getD j []) < stampOf G (P.getD m []))
theorem BestTo.skip {G : List GN} {P O : List (List UInt8)} {i : Nat} {m : Option Nat} (h : BestTo G P O i m) (hc : candB G P O (P.getD i []) = false) : BestTo G P O (i + 1) m := by
  cases m with
  | none =>
    intro j hj
    rcases Nat.lt_succ_iff_lt_or_eq.1 hj with h' | rfl
    · exact h j h'
    · exact hc
  | some m =>
    obtain ⟨h1, h2, h3, h4⟩ := h
    refine ⟨by omega, h2, h3, fun j hj hcj => ?_⟩
    rcases Nat.lt_succ_iff_lt_or_eq.1 hj with h' | rfl
    · exact h4 j h' hcj
    · rw [hc] at hcj; cases hcj
theorem BestTo.first {G : List GN} {P O : List (List UInt8)} {i : Nat} (h : BestTo G P O i none) (hi : i < P.length) (hc : candB G P O (P.getD i []) = true) : BestTo G P O (i + 1) (some i) := by
  refine ⟨by omega, hi, hc, fun j hj hcj => ?_⟩
  rcases Nat.lt_succ_iff_lt_or_eq.1 hj with h' | rfl
  · rw [h j h'] at hcj; cases hcj
  · exact ⟨Int.le_refl _, fun h => by omega⟩
theorem BestTo.more {G : List GN} {P O : List (List UInt8)} {i m : Nat} (h : BestTo G P O i (some m)) (hi : i < P.length) (hc : candB G P O (P.getD i []) = true) (hs : stampOf G (P.getD m []) < stampOf G (P.getD i [])) : BestTo G P O (i + 1) (some i) := by
  obtain ⟨h1, h2, h3, h4⟩ := h
  refine ⟨by omega, hi, hc, fun j hj hcj => ?_⟩
  rcases Nat.lt_succ_iff_lt_or_eq.1 hj with h' | rfl
  · have := h4 j h' hcj
    exact ⟨by omega, fun _ => by omega⟩
  · exact ⟨Int.le_refl _, fun h => by omega⟩
theorem BestTo.less {G : List GN} {P O : List (List UInt8)} {i m : Nat} (h : BestTo G P O i (some m)) (hs : ¬ stampOf G (P.getD m []) < stampOf G (P.getD i [])) : BestTo G P O (i + 1) (some m) := by
  obtain ⟨h1, h2, h3, h4⟩ := h
  refine ⟨by omega, h2, h3, fun j hj hcj => ?_⟩
  rcases Nat.lt_succ_iff_lt_or_eq.1 hj with h' | rfl
  · exact h4 j h' hcj
  · exact ⟨by omega, fun h => by omega⟩
theorem getD_at {α : Type} {l : List α} {i : Nat} (h : i < l.length) (d : α) : l.getD i d = l[i] := by rw [List.getD_eq_getElem?_getD, List.getElem?_eq_getElem h, Option.getD_some]
theorem BestTo.all {G : List GN} {P O : List (List UInt8)} {m : Option Nat} (hP : Strict P) (h : BestTo G P O P.length m) (hex : ∃ x ∈ P, candB G P O x = true) : ∃ k, m = some k ∧ k < P.length ∧ IsBest G P O (P.getD k []) := by
  cases m with
  | none =>
    obtain ⟨x, hx, hc⟩ := hex
    obtain ⟨j, hj, rfl⟩ := List.getElem_of_mem hx
    have := h j hj
    rw [getD_at hj, hc] at this; cases this
  | some k =>
    obtain ⟨h1, h2, h3, h4⟩ := h
    refine ⟨k, rfl, h2, by rw [getD_at h2]; exact List.getElem_mem h2, h3, fun y hy hc => ?_⟩
    obtain ⟨j, hj, rfl⟩ := List.getElem_of_mem hy
    have h5 := h4 j hj (by rw [getD_at hj]; exact hc)
    rw [getD_at hj, getD_at h2] at h5
    rw [getD_at h2]
    rcases Nat.lt_trichotomy j k with h6 | h6 | h6
    · exact .inr (.inl (h5.2 h6))
    · subst h6; exact .inl rfl
    · by_cases he : stampOf G P[j] = stampOf G P[k]
      · exact .inr (.inr ⟨he, List.pairwise_iff_getElem.1 hP k j h2 hj h6⟩)
      · exact .inr (.inl (by omega))
end Go.Proofs.Ytmmmimkikakalaa

namespace Go.Proofs.Ytmmmimkikakalaa
open Go.RowKit Go.Maps
set_option linter.unusedVariables false

/-- Where the best stands. -/
def atI : Option Nat → Int | none => -1 | some k => (k : Int)

set_option maxHeartbeats 2000000 in
set_option maxRecDepth 100000 in
theorem rlog_no (p : Option Addr) (c : Nat) (G : List GN) (x : List UInt8) (hx : x.length = 32) (w : World) (hlen : G.length ≤ 1000) (hG : RefG w p G) (hn : isNode G x = false) :
    Calls Try.prog 30 #[.slice p G.length c, .agg (idB x)] w fun e w' => e = .returned (.tuple #[.slice none 0 0, .int .i64 12]) ∧ Below w.heap.size w w' := by
  obtain ⟨W, hW⟩ : ∃ W, W = w.alloc (.cells (idB x) 24) := ⟨_, rfl⟩
  have hb0 := (Below.refl w.heap.size w).alloc (Nat.le_refl _) (.cells (idB x) 24)
  obtain ⟨blk, hblk⟩ : ∃ b, b = w.heap.size := ⟨_, rfl⟩
  have f1 := fits_new w (idB x) 24 32 (by rw [idB_size, hx])
  have f2 := aggAt_new w (idB x) 24 32 (by rw [idB_size, hx])
  rw [← hW, ← hblk] at f1 f2
  rw [← hW] at hb0
  have HB0 := Lib.hid hb0
  have HP := Lib.hid (rpast_no p c G x hx W hlen (hG.below hb0) hn)
  clear hb0 hG hn
  go_enter Try.func30, Try.ntmps30
  go_upto_region 1 with fail
  rw [← hW, ← hblk]
  clear hW hblk
  go_wp2_with fail
  refine HP.out.mono ?_
  rintro e w1 ⟨rfl, hb1⟩
  have HB1 := Lib.hid (HB0.out.trans (hb1.mono HB0.out.size))
  clear hb1 f1 f2
  go_wp2
  go_ret2
  exact ⟨rfl, HB1.out⟩

set_option maxHeartbeats 8000000 in
set_option maxRecDepth 100000 in
theorem rlog_any (p : Option Addr) (c : Nat) (G : List GN) (x : List UInt8) (w : World) (hlen : G.length ≤ 1000) (hwf : Wf G) (hG : RefG w p G) (hn : isNode G x = true) :
    Calls Try.prog 30 #[.slice p G.length c, .agg (idB x)] w fun e w' => ∃ v, e = .returned (.tuple #[v, .int .i64 0]) ∧ rowI w.heap.size (logL G x) v w' ∧ Below w.heap.size w w' := by
  have HLL := Lib.hid (show logN G (pastL G x) (pastL G x).length = logL G x from rfl)
  obtain ⟨LL, hLL⟩ : ∃ LL, LL = logL G x := ⟨_, rfl⟩
  rw [← hLL] at HLL ⊢
  clear hLL
  have hx := isNode_len hwf hn
  obtain ⟨W, hW⟩ : ∃ W, W = w.alloc (.cells (idB x) 24) := ⟨_, rfl⟩
  have hb0 := (Below.refl w.heap.size w).alloc (Nat.le_refl _) (.cells (idB x) 24)
  obtain ⟨blk, hblk⟩ : ∃ b, b = w.heap.size := ⟨_, rfl⟩
  have f1 := fits_new w (idB x) 24 32 (by rw [idB_size, hx])
  have f2 := aggAt_new w (idB x) 24 32 (by rw [idB_size, hx])
  rw [← hW, ← hblk] at f1 f2
  rw [← hW] at hb0
  have HB0 := Lib.hid hb0
  have HP := Lib.hid (rpast_any p c G x W hlen hwf (hG.below hb0) hn)
  have HRG := Lib.hid hG
  have HLEN := Lib.hid hlen
  have HWF := Lib.hid hwf
  have HP32 := Lib.hid (pastL_32 (x := x) hwf)
  have HPN := Lib.hid (pastL_node (G := G) (x := x))
  have HPS := Lib.hid (pastL_strict G x)
  have HPLN := Lib.hid (pastL_len G x)
  have hpl : (pastL G x).length ≤ 1000 := by have := pastL_len G x; omega
  generalize pastL G x = P at *
  clear hb0 hG hn hwf
  go_enter Try.func30, Try.ntmps30
  go_upto_region 1 with fail
  rw [← hW, ← hblk]
  clear hW hblk
  go_wp2_with fail
  refine HP.out.mono ?_
  rintro e w1 ⟨v1, rfl, hr1, hb1⟩
  have HB1 := Lib.hid (HB0.out.trans (hb1.mono HB0.out.size))
  obtain ⟨a6, c6, rfl, q1, q2, hin6, _⟩ := SlI_row HP32.out hr1
  have HIN := Lib.hid hin6
  clear hb1 f1 f2 hr1 hin6 HP
  go_wp2_with fail
  go_loopg [8, 9, 10] P.length (fun g v8 v9 v10 wr => ∃ (n : Nat), g + n = P.length ∧ rowI w1.heap.size (logN G P n) v8 wr ∧ LogIs G P n ∧ Below w1.heap.size w1 wr)
  case atStart => exact ⟨0, by omega, ⟨by simp [idsC, logN], .inl ⟨rfl, rfl⟩⟩, LogIs.zero G P, Below.refl _ _⟩
  case round =>
    obtain ⟨n, hg, hrow, hli, hb⟩ := hrel
    have HG := Lib.hid hg
    have HLI := Lib.hid hli
    have HL := Lib.hid (logN_len G P n)
    have H32 := Lib.hid (show ∀ z ∈ logN G P n, z.length = 32 from fun z hz => HP32.out z (hli.sub z hz))
    have HNX := Lib.hid (fun (z : List UInt8) (hz : IsBest G P (logN G P n) z) => hli.step hz)
    have HLLN := Lib.hid (show n = P.length → logN G P n = LL from fun h => by rw [h]; exact HLL.out)
    obtain ⟨O, hO⟩ : ∃ O, O = logN G P n := ⟨_, rfl⟩
    have HO := Lib.hid hO
    rw [← hO] at hrow HL H32 HNX HLLN
    have HR := Lib.hid hrow
    have HBR := Lib.hid hb
    have HB := Lib.hid (HB1.out.trans (hb.mono HB1.out.size))
    obtain ⟨a2, c2, rfl, p1, p2, p3, p4⟩ := SlI_row H32.out hrow
    have P3 := Lib.hid p3
    unfold maxLen at p2
    clear hg hrow hli hb hO p3 p4
    by_cases hnp : n < P.length
    · have HNP := Lib.hid hnp
      have i0 : (O.length : Int) < P.length := by have := HL.out; omega
      go_wp2_with fail
      clear i0
      go_loopg [9, 10] P.length (fun g v9 v10 wr2 => ∃ (i : Nat) (m : Option Nat), g + i = P.length ∧ v9 = .int .i64 (atI m) ∧ v10 = .int .i64 i ∧ BestTo G P O i m ∧ Below wr.heap.size wr wr2)
      case atStart => exact ⟨0, none, by omega, rfl, rfl, fun j hj => by omega, Below.refl _ _⟩
      case round =>
        obtain ⟨i, m, hg, rfl, rfl, hbt, hb2⟩ := hrel
        have HG' := Lib.hid hg
        have HBT := Lib.hid hbt
        have HBQ := Lib.hid hb2
        have HBP := Lib.hid (HBR.out.trans (hb2.mono HBR.out.size))
        have HBW := Lib.hid (HB.out.trans (hb2.mono HB.out.size))
        have P3Q := Lib.hid (P3.out.below hb2)
        clear hg hb2
        by_cases hi : i < P.length
        · have HI := Lib.hid hi
          rcases (HIN.out.below HBP.out).2 with h | ⟨bm, offm, rfl, hc⟩
          · rw [h] at hi; simp at hi
          have HAT := Lib.hid hc
          obtain ⟨e1, e2⟩ := hc i hi
          have HYM := Lib.hid (getD_mem hi)
          have HSK := Lib.hid (fun h => hbt.skip h)
          have HCD := Lib.hid (show candB G P O (P.getD i []) = (!decide (P.getD i [] ∈ O) && readyL G P O (P.getD i [])) from rfl)
          obtain ⟨y, hy⟩ : ∃ y, y = P.getD i [] := ⟨_, rfl⟩
          have HYE := Lib.hid hy
          rw [← hy] at e2 HYM HSK HCD
          have hy32 := HP32.out _ HYM.out
          have HY32 := Lib.hid hy32
          have i1 : (i : Int) < P.length := by omega
          have HIN1 := Lib.hid (in_any a2 c2 O y _ (by have := HL.out; omega) P3Q.out hy32)
          have q7 := e1.lt
          simp only at q7
          clear hc hy hbt
          cases hio : decide (y ∈ O) with
          | true =>
            rw [hio] at HIN1 HCD
            clear hio
            have HSK2 := Lib.hid (HSK.out (by rw [HCD.out]; rfl))
            go_wp2_with fail
            refine HIN1.out.mono ?_
            rintro e w2 ⟨rfl, hb3⟩
            have HB3 := Lib.hid (HBQ.out.trans (hb3.mono HBQ.out.size))
            clear hb3 e1 e2 HIN1
            go_wp2
            go_roundg (gk - 1)
            case measure => have := HG'.out; have := HI.out; omega
            case rel => exact ⟨i + 1, m, by have := HG'.out; have := HI.out; omega, rfl, by go_num, HSK2.out, HB3.out⟩
          | false =>
            rw [hio] at HIN1 HCD
            clear hio
            go_wp2_with fail
            refine HIN1.out.mono ?_
            rintro e w2 ⟨rfl, hb3⟩
            have HB3 := Lib.hid (HBQ.out.trans (hb3.mono HBQ.out.size))
            have HBP3 := Lib.hid (HBP.out.trans (hb3.mono HBP.out.size))
            have HB3Q := Lib.hid hb3
            have HBW3 := Lib.hid (HBW.out.trans (hb3.mono HBW.out.size))
            have HRD := Lib.hid (rready_any p c G (some ⟨bm, offm, none⟩) c6 P a2 c2 O y HY32.out w2 HLEN.out HWF.out (HRG.out.below HBW3.out) (HIN.out.below HBP3.out) (by omega) HPN.out (P3Q.out.below hb3) (by have := HL.out; omega))
            have f1 := fits_below hb3 e1
            have f2 := (agg_below hb3 e1).trans e2
            clear hb3 e1 e2 HIN1
            cases hrd : readyL G P O y with
            | false =>
              rw [hrd] at HRD HCD
              clear hrd
              have HSK2 := Lib.hid (HSK.out (by rw [HCD.out]; rfl))
              go_wp2_with fail
              refine HRD.out.mono ?_
              rintro e w3 ⟨rfl, hb4⟩
              have HB4 := Lib.hid (HB3.out.trans (hb4.mono HB3.out.size))
              clear hb4 f1 f2 HRD
              go_wp2
              go_roundg (gk - 1)
              case measure => have := HG'.out; have := HI.out; omega
              case rel => exact ⟨i + 1, m, by have := HG'.out; have := HI.out; omega, rfl, by go_num, HSK2.out, HB4.out⟩
            | true =>
              rw [hrd] at HRD HCD
              clear hrd
              have HCY := Lib.hid (show candB G P O (P.getD i []) = true by rw [← HYE.out, HCD.out]; rfl)
              cases m with
              | none =>
                have HNXT := Lib.hid (HBT.out.first HI.out HCY.out)
                rw [show atI none = -1 from rfl]
                go_wp2_with fail
                refine HRD.out.mono ?_
                rintro e w3 ⟨rfl, hb4⟩
                have HB4 := Lib.hid (HB3.out.trans (hb4.mono HB3.out.size))
                have g1 := fits_below hb4 f1
                have g2 := (agg_below hb4 f1).trans f2
                clear hb4 f1 f2 HRD
                go_wp2_with fail
                refine wp_region_over (by kernel_rfl) (by kernel_rfl) ?_
                repeat (go_big_quiet_step (fail))
                refine wpQuiet_nil ?_
                rintro _ ⟨z0, rfl⟩
                have HB5 := Lib.hid (HB4.out.trans ((ov_below w3 z0).mono HB4.out.size))
                clear g1 g2
                go_wp2
                go_roundg (gk - 1)
                case measure => have := HG'.out; have := HI.out; omega
                case rel => exact ⟨i + 1, some i, by have := HG'.out; have := HI.out; omega, rfl, by go_num, HNXT.out, HB5.out⟩
              | some m =>
                rw [show atI (some m) = (m : Int) from rfl]
                have HM := Lib.hid HBT.out.2.1
                have hm := HM.out
                obtain ⟨e3, e4⟩ := IdAt.below (HAT.out m hm) HB3Q.out
                have HZM := Lib.hid (getD_mem hm)
                have HL1 := Lib.hid (fun h => HBT.out.less h)
                have HL2 := Lib.hid (fun h => HBT.out.more HI.out HCY.out h)
                obtain ⟨z, hz⟩ : ∃ z, z = P.getD m [] := ⟨_, rfl⟩
                rw [← hz] at e4 HZM HL1 HL2
                rw [← HYE.out] at HL1 HL2
                have hz32 := HP32.out _ HZM.out
                obtain ⟨k1, b, off, a1, c1, hk1, hlk1, rfl, hblt, hat1, _⟩ := HRG.out.node (HPN.out y HYM.out)
                obtain ⟨k2, b', off', a1', c1', hk2, hlk2, he', _, hat2, _⟩ := HRG.out.node (HPN.out z HZM.out)
                cases he'
                have HAT1 := Lib.hid hat1
                have HAT2 := Lib.hid hat2
                generalize stampOf G y = s1 at *
                generalize stampOf G z = s2 at *
                have i3 : (m : Int) < P.length := by omega
                have i4 : ¬ (m : Int) < 0 := by omega
                have i4' : decide ((m : Int) < 0) = false := decide_eq_false i4
                have i5 : (k1 : Int) < G.length := by omega
                have i6 : (k2 : Int) < G.length := by omega
                clear hat1 hat2 hz
                go_wp2_with fail
                refine HRD.out.mono ?_
                rintro e w3 ⟨rfl, hb4⟩
                have HB4 := Lib.hid (HB3.out.trans (hb4.mono HB3.out.size))
                have HBW4 := Lib.hid (HBW3.out.trans (hb4.mono HBW3.out.size))
                have g1 := fits_below hb4 f1
                have g2 := (agg_below hb4 f1).trans f2
                have g3 := fits_below hb4 e3
                have g4 := (agg_below hb4 e3).trans e4
                have q8 := g1.lt
                simp only at q8
                have C1 := Lib.hid (fun X => rplace_any (some ⟨b, off, none⟩) c G y HY32.out (ov w3 X) HLEN.out (HRG.out.below (HBW4.out.trans ((ov_below w3 X).mono HBW4.out.size))))
                have C2 := Lib.hid (fun X => rplace_any (some ⟨b, off, none⟩) c G z hz32 (ov w3 X) HLEN.out (HRG.out.below (HBW4.out.trans ((ov_below w3 X).mono HBW4.out.size))))
                rw [hk1] at C1
                rw [hk2] at C2
                have g5 := (HAT1.out.below HBW4.out).s
                have g6 := (HAT2.out.below HBW4.out).s
                have q9 : b < w3.heap.size := (HAT1.out.below HBW4.out).f.lt
                simp only at g5 g6
                clear hb4 f1 f2 e3 e4 HRD hk1 hk2
                cases hd : decide (s2 < s1) with
                | true =>
                  have HNXT := Lib.hid (HL2.out (of_decide_eq_true hd))
                  go_wp2_with fail
                  refine wp_region_over (by kernel_rfl) (by kernel_rfl) ?_
                  repeat (go_big_quiet_step ((go_at_call 37; first | (with_reducible exact Calls.over_of (C1.out _)) | (with_reducible exact Calls.over_of (C2.out _)))))
                  refine wpQuiet_nil ?_
                  rintro _ ⟨z0, rfl⟩
                  have HB5 := Lib.hid (HB4.out.trans ((ov_below w3 z0).mono HB4.out.size))
                  clear g1 g2 g3 g4 g5 g6 C1 C2
                  go_wp2
                  go_roundg (gk - 1)
                  case measure => have := HG'.out; have := HI.out; omega
                  case rel => exact ⟨i + 1, some i, by have := HG'.out; have := HI.out; omega, rfl, by go_num, HNXT.out, HB5.out⟩
                | false =>
                  have HNXT := Lib.hid (HL1.out (by have := of_decide_eq_false hd; omega))
                  go_wp2_with fail
                  refine wp_region_over (by kernel_rfl) (by kernel_rfl) ?_
                  repeat (go_big_quiet_step ((go_at_call 37; first | (with_reducible exact Calls.over_of (C1.out _)) | (with_reducible exact Calls.over_of (C2.out _)))))
                  refine wpQuiet_nil ?_
                  rintro _ ⟨z0, rfl⟩
                  have HB5 := Lib.hid (HB4.out.trans ((ov_below w3 z0).mono HB4.out.size))
                  clear g1 g2 g3 g4 g5 g6 C1 C2
                  go_wp2
                  go_roundg (gk - 1)
                  case measure => have := HG'.out; have := HI.out; omega
                  case rel => exact ⟨i + 1, some m, by have := HG'.out; have := HI.out; omega, rfl, by go_num, HNXT.out, HB5.out⟩
        · have hil : i = P.length := by have := HG'.out; omega
          subst hil
          have hex := cand_ex HWF.out (some_left (strict_nodup HPS.out) (show O.length < P.length by have := HL.out; have := HNP.out; omega))
          obtain ⟨m', rfl, hm, hbest⟩ := BestTo.all HPS.out hbt hex
          rw [show atI (some m') = (m' : Int) from rfl]
          rcases (HIN.out.below HBP.out).2 with h | ⟨bm, offm, rfl, hc⟩
          · rw [h] at hm; simp at hm
          obtain ⟨e1, e2⟩ := hc m' hm
          have HYM := Lib.hid (getD_mem hm)
          have HST := Lib.hid (HNX.out _ hbest)
          obtain ⟨y, hy⟩ : ∃ y, y = P.getD m' [] := ⟨_, rfl⟩
          rw [← hy] at e2 HYM HST
          have hy32 := HP32.out _ HYM.out
          have i1 : (m' : Int) < P.length := by omega
          have HRQ := Lib.hid (rowI_st _ _ _ _ _ HR.out HBQ.out)
          obtain ⟨O1, hO1⟩ : ∃ O1, O1 = O ++ [y] := ⟨_, rfl⟩
          have HO1 := Lib.hid hO1
          have HC := Lib.hid (show O.length + [y].length ≤ 4000000 by have := HL.out; have := HNP.out; simp only [List.length_cons, List.length_nil]; omega)
          have hbn := (Below.refl wr.heap.size wr).alloc (Nat.le_refl _) (.cells (idB y) 24)
          have HNEW := Lib.hid (one_new (w := wr) hy32)
          have HRN := Lib.hid (rowI_st _ _ _ _ _ HRQ.out hbn)
          have HBN := Lib.hid (HBP.out.trans (hbn.mono HBP.out.size))
          have hm8 := hm
          clear hbn hO1 hc hy hbt hbest hex
          go_wp2_with (at_builtin; refine wpList_append_to rfl _ _ rfl w1.heap.size _ O [y] O1 HO1.out rfl HRN.out _ 1 rfl HNEW.out (fun e => by cases e) HC.out HBN.out.size ?_)
          rintro v1 w4 ho1 hb1
          have HR1 := Lib.hid (show rowI w1.heap.size O1 v1 w4 from ho1)
          have HB1' := Lib.hid (HBN.out.trans hb1)
          clear ho1 hb1 e1 e2
          go_wp2
          go_roundg (P.length - (n + 1))
          case measure => have := HG.out; have := HNP.out; omega
          case rel => exact ⟨n + 1, by have := HNP.out; omega, by rw [HST.out.1, ← HO1.out]; exact HR1.out, HST.out.2, HB1'.out⟩
    · have HE := Lib.hid (show O = LL from HLLN.out (by have := HG.out; omega))
      have i0 : ¬ (O.length : Int) < P.length := by have := HL.out; omega
      go_wp2
      go_ret2
      exact ⟨_, rfl, by rw [← HE.out]; exact ownsRow_base HR.out HB1.out.size, HB.out⟩
end Go.Proofs.Ytmmmimkikakalaa
