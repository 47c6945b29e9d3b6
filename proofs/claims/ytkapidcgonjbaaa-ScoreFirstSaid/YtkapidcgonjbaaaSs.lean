/- Same; the walk of ScoreMeans. -/
import Derived.Test.YtkapidcgonjbaaaSn
namespace Go.Proofs.Ytkapidcgonjbaaa
open Go.RowKit
set_option linter.unusedVariables false

set_option maxHeartbeats 2000000 in
set_option maxRecDepth 100000 in
theorem same_any (a a' : Option Addr) (cap cap' : Nat) (xs ys : List Nat) (w : World) (hm : xs.length ≤ 1000000) (hlen : xs.length = ys.length) (hin : fltR.In w a xs) (hin' : fltR.In w a' ys) (hall : ∀ i, i < xs.length → fOrd (xs.getD i 0) (ys.getD i 0) = 0) :
    Calls Try.prog 32 #[.slice a xs.length cap, .slice a' ys.length cap'] w fun e w' => e = .returned (.bool true) ∧ Below w.heap.size w w' := by
  have HX := Lib.hid hin
  have HY := Lib.hid hin'
  have HA := Lib.hid hall
  clear hin hin' hall
  have HLEN := Lib.hid hlen
  have hz : ((xs.length : Int) = (ys.length : Int)) := by omega
  clear hlen
  go_enter Try.func32, Try.ntmps32
  go_wp2_with fail
  go_loopg [5] xs.length (fun g i wr => ∃ k : Nat, g + k = xs.length ∧ i = .int .i64 k ∧ Below w.heap.size w wr)
  case atStart => exact ⟨0, by omega, rfl, Below.refl _ _⟩
  case round =>
    obtain ⟨k, hg, rfl, hbw⟩ := hrel
    have HG := Lib.hid hg
    have HB := Lib.hid hbw
    clear hg hbw
    by_cases hk : k < xs.length
    · have hk' : k < ys.length := by have := HLEN.out; omega
      rcases HX.out.2 with h | ⟨b, off, rfl, hlt, hc⟩
      · subst h; simp at hk
      rcases HY.out.2 with h | ⟨b', off', rfl, hlt', hc'⟩
      · subst h; simp at hk'
      have hxk : xs[k]? = some (xs.getD k 0) := by simp [List.getD_eq_getElem?_getD, hk]
      have hyk : ys[k]? = some (ys.getD k 0) := by simp [List.getD_eq_getElem?_getD, hk']
      have e1 := flt_cell ((hc k _ hxk).below HB.out)
      have e2 := flt_cell ((hc' k _ hyk).below HB.out)
      have e3 : b < wr.heap.size := Nat.lt_of_lt_of_le hlt HB.out.size
      have e4 : b' < wr.heap.size := Nat.lt_of_lt_of_le hlt' HB.out.size
      have HF := Lib.hid (HA.out k hk)
      have X1 := Lib.hid (HX.out.1 _ (List.mem_of_getElem? hxk))
      have Y1 := Lib.hid (HY.out.1 _ (List.mem_of_getElem? hyk))
      clear hc hc' hxk hyk
      generalize xs.getD k 0 = x at *
      generalize ys.getD k 0 = y at *
      have i1 : (k : Int) < xs.length := by omega
      have i2 : (k : Int) < ys.length := by omega
      have CC := Lib.hid (fun W => rorder_any x y X1.out Y1.out W)
      rw [HF.out] at CC
      go_wp2_with fail
      refine wp_region_over (by kernel_rfl) (by kernel_rfl) ?_
      repeat (go_big_quiet_step ((go_at_call 11; exact Calls.over_same (CC.out _))))
      refine wpQuiet_nil ?_
      rintro _ ⟨x0, rfl⟩
      clear e1 e2 e3 e4
      go_wp2
      go_roundg (gk - 1)
      case measure => have := HG.out; omega
      case rel => exact ⟨k + 1, by have := HG.out; omega, by go_num, HB.out.trans ((ov_below wr x0).mono HB.out.size)⟩
    · go_wp2
      go_ret
      exact ⟨rfl, HB.out⟩

/-- An operation whose guard says yes, as one without a guard. -/
theorem wpList_unguard {P : Program} {ops : Array Oper} {Q : Exit → Act → World → Prop} {a : Act} {w : World} {rest : List Oper} {dst : Option Tmp} {op : Op} {ty : TypeId} {pos : String} {after : Array Edge} {g : Option (Nat × Bool)}
    (hw : Region.wanted ⟨dst, op, ty, pos, after, g⟩ (yielded ops a.tmps) = true) (h : wpList P ops Q (⟨dst, op, ty, pos, after, none⟩ :: rest) a w) : wpList P ops Q (⟨dst, op, ty, pos, after, g⟩ :: rest) a w := by
  unfold wpList at h ⊢
  rw [if_pos hw]
  rw [if_pos (by rfl)] at h
  exact h

set_option maxHeartbeats 4000000 in
set_option maxRecDepth 100000 in
theorem means_any (a : Option Addr) (cap : Nat) (l : List Nat) (w : World) (hcap : l.length ≤ cap) (hcm : cap ≤ maxLen) (hin : fltR.In w a l) (hn : a = none → l = [] ∧ cap = 0) :
    Calls Try.prog 10 #[.slice a l.length cap] w fun e w' => e = .returned (.bool true) ∧ Below w.heap.size w w' := by
  by_cases h1 : 300 < l.length
  · go_enter Try.func10, Try.ntmps10
    go_wp2
    go_ret
    exact ⟨rfl, Below.refl _ _⟩
  have hm : l.length ≤ 300 := by omega
  have HI := Lib.hid hin
  have HN := Lib.hid hn
  have HS := Lib.hid (rsum_any a cap l w (by omega) hin)
  clear hin hn
  go_enter Try.func10, Try.ntmps10
  go_wp2_with fail
  refine HS.out.mono ?_
  rintro e w1 ⟨s, n, rfl, hs, hw1⟩
  have H := Lib.hid hs
  have HB1 := Lib.hid (show Below w.heap.size w w1 by rw [hw1]; exact below_drewN (Below.refl _ _) n)
  have HI1 := Lib.hid (HI.out.below HB1.out)
  clear hs HS hw1
  go_wp2_with fail
  go_loopg [3, 5] l.length (fun g v3 v5 wr => ∃ (k : Nat) (P : List Nat), g + k = l.length ∧ v5 = .int .i64 k ∧ P.length = k ∧ Parts l s k P ∧ fltR.row 23 w1.heap.size P v3 wr ∧ Below w1.heap.size w1 wr)
  case atStart => exact ⟨0, [], by omega, rfl, rfl, fun i hi => by omega, Rec.row.nil, Below.refl _ _⟩
  case round =>
    obtain ⟨k, P, hg, rfl, hP, hpt, hr, hb⟩ := hrel
    have HG := Lib.hid hg
    have HP := Lib.hid hP
    have HPT := Lib.hid hpt
    have HR := Lib.hid hr
    have HB := Lib.hid hb
    clear hg hP hpt hr hb
    by_cases hk : k < l.length
    · rcases HI1.out.2 with h | ⟨b, off, rfl, hlt, hc⟩
      · subst h; simp at hk
      have hxk : l[k]? = some (l.getD k 0) := by simp [List.getD_eq_getElem?_getD, hk]
      have e1 := flt_cell ((hc k _ hxk).below HB.out)
      obtain ⟨x, hx⟩ : ∃ x, x = l.getD k 0 := ⟨_, rfl⟩
      rw [← hx] at e1
      have HX := Lib.hid hx
      have i1 : (k : Int) < l.length := by omega
      have hbl : b < wr.heap.size := Nat.lt_of_lt_of_le hlt HB.out.size
      have HQ := Lib.hid (quo_isQ x s wr)
      obtain ⟨y, hy⟩ : ∃ y, y = quoV x s wr := ⟨_, rfl⟩
      rw [← hy] at HQ
      obtain ⟨wz, hwz⟩ : ∃ wz, wz = wr.drewN (quoN x s) := ⟨_, rfl⟩
      have hbz : Below wr.heap.size wr wz := by rw [hwz]; exact below_drewN (Below.refl _ _) _
      have hbn := hbz.trans (((Below.refl wz.heap.size wz).alloc (Nat.le_refl _) (.cells #[.float .f64 y] 23)).mono hbz.size)
      have HRN := Lib.hid (HR.out.below hbn)
      have HBN := Lib.hid (HB.out.trans (hbn.mono HB.out.size))
      have HNEW := Lib.hid (show fltR.In (wz.alloc (.cells #[.float .f64 y] 23)) (some ⟨wz.heap.size, 0, none⟩) [y] from Rec.In.one wz 23 y HQ.out.1)
      obtain ⟨P1, hP1⟩ : ∃ P1, P1 = P ++ [y] := ⟨_, rfl⟩
      have HP1 := Lib.hid hP1
      have HC := Lib.hid (show P.length + [y].length ≤ 100000000 by have := HP.out; simp only [List.length_cons, List.length_nil]; omega)
      have HY := Lib.hid hy
      have HZ := Lib.hid hwz
      have hsz : wz.heap.size = wr.heap.size := by rw [hwz]; rfl
      rw [hsz] at HNEW
      clear hc hxk hx hbz hbn hP1 hy hwz
      go_wp2_with (at_builtin; rw [← HY.out, ← HZ.out]; refine Rec.wpList_app flt30 rfl _ _ rfl w1.heap.size _ P [y] P1 HP1.out rfl HRN.out _ 1 rfl HNEW.out (fun e => by cases e) HC.out HBN.out.size ?_)
      rintro v' w2 ho2 _ hb2
      have HO2 := Lib.hid ho2
      have HB3 := Lib.hid (HBN.out.trans hb2)
      clear ho2 hb2
      go_wp2
      go_roundg (gk - 1)
      case measure => have := HG.out; omega
      case rel =>
        refine ⟨k + 1, P1, by have := HG.out; omega, by go_num, by rw [HP1.out, List.length_append, HP.out]; rfl, ?_, HO2.out, HB3.out⟩
        intro i hi
        have hPl := HP.out
        by_cases hik : i = k
        · rw [hik, ← HX.out, HP1.out, show (P ++ [y]).getD k 0 = y by simp [List.getD_eq_getElem?_getD, hPl]]
          exact HQ.out
        · rw [HP1.out, show (P ++ [y]).getD i 0 = P.getD i 0 by simp [List.getD_eq_getElem?_getD, List.getElem?_append_left (show i < P.length by omega)]]
          exact HPT.out i (by omega)
    · have HE := Lib.hid (show k = l.length by have := HG.out; omega)
      have hPl : P.length = l.length := by rw [HP.out, HE.out]
      obtain ⟨a3, c3, rfl, hc3, hm3, hin3, hn3⟩ := HR.out.sl
      rw [hPl]
      have HPL := Lib.hid hPl
      have HPT' := Lib.hid (show Parts l s l.length P by have := HPT.out; rw [HE.out] at this; exact this)
      have HBw := Lib.hid (HB1.out.trans (HB.out.mono HB1.out.size))
      have hbe := (Below.refl wr.heap.size wr).alloc (Nat.le_refl _) (.cells #[] 23)
      have HBE := Lib.hid hbe
      have HRE := Lib.hid (Rec.row.empty (R := fltR) (e := 23) (w := wr))
      have HIR := Lib.hid (HI1.out.below HB.out)
      have HIE := Lib.hid (HIR.out.below hbe)
      have HP3 := Lib.hid hin3
      clear hbe hin3 hn3 hPl HPT HB HB1 HI1 HI HR HG
      go_wp2_with (at_builtin; refine Rec.wpList_app flt30 rfl _ _ rfl wr.heap.size _ [] l l (by simp) rfl HRE.out a cap rfl HIE.out HN.out (by simp; omega) HBE.out.size ?_)
      rintro v' w2 ho2 _ hb2
      have HB2 := Lib.hid (HBE.out.trans hb2)
      obtain ⟨a4, c4, rfl, _, _, hin4, _⟩ := ho2.sl
      have HM := Lib.hid (mean_any a4 c4 l w2 (by omega) hin4)
      clear ho2 hb2 hin4 HRE HIE HBE
      go_wp2_with fail
      refine HM.out.mono ?_
      rintro e w3 ⟨s3, m3, n3, rfl, hs3, hq3, hw3⟩
      have HQ3 := Lib.hid hq3
      have HB3 := Lib.hid (show Below wr.heap.size wr w3 by rw [hw3]; exact below_drewN HB2.out n3)
      have HQ := Lib.hid (quo_isQ s (floatOfInt .f64 l.length) w3)
      obtain ⟨q, hq⟩ : ∃ q, q = quoV s (floatOfInt .f64 l.length) w3 := ⟨_, rfl⟩
      rw [← hq] at HQ
      obtain ⟨wz, hwz⟩ : ∃ wz, wz = w3.drewN (quoN s (floatOfInt .f64 l.length)) := ⟨_, rfl⟩
      have HBZ := Lib.hid (show Below wr.heap.size wr wz by rw [hwz]; exact below_drewN HB3.out _)
      have HO := Lib.hid (eqN_ord hq3.1 HQ.out.1 (isQ_eqN' (SumFrom.eqN (.inl rfl) hs3 H.out) hq3 HQ.out))
      have H1 := Lib.hid hq
      have H2 := Lib.hid hwz
      clear hs3 hq3 hw3 hq hwz HM HB2 HB3
      go_wp2_with fail
      rw [← H1.out, ← H2.out]
      refine (rorder_any m3 q HQ3.out.1 HQ.out.1 _).mono ?_
      rintro e w5 ⟨rfl, rfl⟩
      rw [HO.out]
      have hbe := (Below.refl wz.heap.size wz).alloc (Nat.le_refl _) (.cells #[] 23)
      have HBE := Lib.hid hbe
      have HRE := Lib.hid (Rec.row.empty (R := fltR) (e := 23) (w := wz))
      have HIE := Lib.hid ((HIR.out.below HBZ.out).below hbe)
      clear hbe H1 H2 HO HQ HQ3
      go_wp2_with (at_builtin; refine wpList_unguard (by rfl) ?_; refine Rec.wpList_app flt30 rfl _ _ rfl wz.heap.size _ [] l l (by simp) rfl HRE.out a cap rfl HIE.out HN.out (by simp; omega) HBE.out.size ?_)
      rintro v' w6 ho6 _ hb6
      have HB6 := Lib.hid (HBZ.out.trans ((HBE.out.trans hb6).mono HBZ.out.size))
      obtain ⟨a6, c6, rfl, _, _, hin6, _⟩ := ho6.sl
      have HSH := Lib.hid (shares_any a6 c6 l w6 (by omega) hin6)
      clear ho6 hb6 hin6 HRE HIE HBE HBZ
      go_wp2_with fail
      refine HSH.out.mono ?_
      rintro e w7 ⟨s7, v7, P7, rfl, hs7, hl7, hp7, hr7, hb7⟩
      have HB7 := Lib.hid (HB6.out.trans (hb7.mono HB6.out.size))
      obtain ⟨a7, c7, rfl, _, _, hin7, _⟩ := hr7.sl
      have hsame := same_any a7 a3 c7 c3 P7 P w7 (by omega) (by rw [hl7, HPL.out]) hin7 (HP3.out.below HB7.out) (fun i hi => by
        have q1 := hp7 i (by omega)
        have q2 := HPT'.out i (by omega)
        exact eqN_ord q1.1 q2.1 (isQ_eqN (SumFrom.eqN (.inl rfl) hs7 H.out) q1 q2))
      rw [hl7, HPL.out] at hsame
      rw [hl7]
      have HSA := Lib.hid hsame
      clear hsame hs7 hp7 hr7 hb7 hin7 hl7 HSH HB6
      go_wp2_with fail
      refine HSA.out.mono ?_
      rintro e w8 ⟨rfl, hb8⟩
      have HB8 := Lib.hid (HBw.out.trans ((HB7.out.mono HBw.out.size).trans (hb8.mono (Nat.le_trans HBw.out.size HB7.out.size))))
      clear hb8 HSA HB7
      go_wp2_with fail
      refine (awake_any _).mono ?_
      rintro e w9 ⟨rfl, hb9⟩
      have HB9 := Lib.hid (HB8.out.trans (hb9.mono HB8.out.size))
      clear hb9
      go_wp2
      go_ret
      exact ⟨rfl, HB9.out⟩
end Go.Proofs.Ytkapidcgonjbaaa
