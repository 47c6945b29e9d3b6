/- The law TreeOrders: walk; what arguments hold. -/
import Derived.Test.YtchbpfkjhilgiaaNq
import Derived.Lib.SmallJoins
namespace Go.Proofs.Ytchbpfkjhilgiaa
open Go.RowKit Go.WideShapes Go.ChangeShapes Go.ChangeMaps Go.Deep
set_option linter.unusedVariables false

set_option maxRecDepth 100000 in
theorem trod_i64N {H : Type} {enc : TypeId × Value → H} {W : World} {fuel : Nat} {l : List Value} {x : DataW H × List MemPlace} (hx : DataW.trod enc Try.prog W 0 (fun _ => true) true fuel 3 l = some x) : ∃ n, l = [.int .i64 n] ∧ (Lit.int .i64 n).wf = true := by
  cases fuel with
  | zero => simp [DataW.trod] at hx
  | succ m =>
    unfold DataW.trod at hx
    rw [Try.underlying3] at hx
    split at hx <;> simp_all
set_option maxRecDepth 100000 in
theorem trod_i32N {H : Type} {enc : TypeId × Value → H} {W : World} {fuel : Nat} {l : List Value} {x : DataW H × List MemPlace} (hx : DataW.trod enc Try.prog W 0 (fun _ => true) true fuel 21 l = some x) : ∃ n, l = [.int .i32 n] ∧ (Lit.int .i32 n).wf = true := by
  cases fuel with
  | zero => simp [DataW.trod] at hx
  | succ m =>
    unfold DataW.trod at hx
    rw [Try.underlying21] at hx
    split at hx <;> simp_all
set_option maxRecDepth 100000 in
theorem trod_boolN {H : Type} {enc : TypeId × Value → H} {W : World} {fuel : Nat} {l : List Value} {x : DataW H × List MemPlace} (hx : DataW.trod enc Try.prog W 0 (fun _ => true) true fuel 4 l = some x) : ∃ b : Bool, l = [.bool b] := by
  cases fuel with
  | zero => simp [DataW.trod] at hx
  | succ m =>
    unfold DataW.trod at hx
    rw [Try.underlying4] at hx
    split at hx <;> simp_all
set_option maxRecDepth 100000 in
theorem trod_node {H : Type} {enc : TypeId × Value → H} {W : World} {fuel : Nat} {cs : List Value} {x : DataW H × List MemPlace}
    (h : DataW.trod enc Try.prog W 0 (fun _ => true) true fuel 40 cs = some x) : ∃ e : Nd, e.1.2.1.length = 32 ∧ cs = (ndB e).toList ∧ (Lit.int .i64 e.2.1).wf = true := by
  obtain ⟨y0, y1, y2, y3, n, _, hl, h0, h1, h2, h3⟩ := Go.Joins.trod_struct4 Try.underlying40 h
  obtain ⟨t, c, i, hc, e0, _, _⟩ := trod_key h0
  obtain ⟨p, e1, w1⟩ := trod_i64N h1
  obtain ⟨r, e2, w2⟩ := trod_i32N h2
  obtain ⟨d, e3⟩ := trod_boolN h3
  refine ⟨((t, c, i), p, r, d), hc, ?_, w1⟩
  have c38 : Try.prog.cellsOf 38 = 34 := by kernel_rfl
  have c3 : Try.prog.cellsOf 3 = 1 := by kernel_rfl
  have c21 : Try.prog.cellsOf 21 = 1 := by kernel_rfl
  have c4 : Try.prog.cellsOf 4 = 1 := by kernel_rfl
  have c40 : Try.prog.cellsOf 40 = 37 := by kernel_rfl
  rw [c40] at hl
  simp only [c38, c3, c21, c4] at e0 e1 e2 e3
  have a0 : (cs.drop 34).length = 3 := by simp; omega
  have b1 : (cs.drop 34).take 1 = [.int .i64 p] := e1
  have b2 : ((cs.drop 34).drop 1).take 1 = [.int .i32 r] := by rw [List.drop_drop]; exact e2
  have b3 : ((cs.drop 34).drop 2).take 1 = [.bool d] := by rw [List.drop_drop]; exact e3
  have hfin : cs.drop 34 = [.int .i64 p, .int .i32 r, .bool d] := by
    match hd : cs.drop 34, a0 with
    | [a, b, c'], _ =>
      rw [hd] at b1 b2 b3
      simp at b1 b2 b3
      rw [b1, b2, b3]
  have hall : cs = cs.take 34 ++ cs.drop 34 := (List.take_append_drop 34 cs).symm
  rw [ndB_list]
  simp only [List.drop_zero] at e0 ⊢
  rw [← e0, ← hfin]
  exact hall
set_option maxRecDepth 100000 in
theorem reads_nodes {H : Type} {enc : TypeId × Value → H} {W : World} {v : Value} {d : DataW H} {p : List MemPlace} (h : DataW.Trod enc Try.prog W 0 (fun _ => true) true 22 v d p) (hok : ∃ a len cap, v = .slice a len cap) :
    ∃ xs, nodeR.Sl W v xs := Rec.reads (R := nodeR) Try.underlying22 (by kernel_rfl) (fun fuel cs y hy => by
      obtain ⟨x, hc, hx, _⟩ := trod_node hy
      exact ⟨x, hc, hx⟩) h hok

set_option maxHeartbeats 4000000 in
set_option maxRecDepth 100000 in
theorem lawOrders_any (p : Option Addr) (c : Nat) (l : List Nd) (w : World) (hin : nodeR.In w p l) :
    Calls Try.prog 3 #[.slice p l.length c] w fun e w' => e = .returned (.bool true) ∧ Below w.heap.size w w' := by
  by_cases h1 : 60 < l.length
  · go_enter Try.func3, Try.ntmps3
    go_wp2
    go_ret
    exact ⟨rfl, Below.refl _ _⟩
  have hlen : l.length ≤ 1000 := by omega
  have HX := Lib.hid hin
  have HTD := Lib.hid (fun w' (hb : Below w.heap.size w w') => told_any p c l w' hlen (hin.below hb))
  have HRR := Lib.hid (rright_any p c l w hlen hin)
  have HTR := Lib.hid (fun p' c' w' hi => tright_any p' c' l w' hlen hi)
  have HTO := Lib.hid (fun p' c' w' hi => torder_any p' c' l w' hlen hi)
  have HTT := Lib.hid (fun p' c' w' hi => ttext_any p' c' l w' hlen hi)
  have HOL := Lib.hid (ordN_le l)
  clear hin hlen
  go_enter Try.func3, Try.ntmps3
  go_wp2_with fail
  refine HRR.out.mono ?_
  rintro e w1 ⟨rfl, hb1⟩
  have HB1 := Lib.hid hb1
  clear hb1 HRR
  by_cases hR : RightL l
  case neg =>
    have hd : decide (RightL l) = false := decide_eq_false hR
    have HO0 := Lib.hid (show ordN l = [] by unfold ordN; rw [if_neg hR])
    have HL0 := Lib.hid (show encs (liveN l) = [] by unfold liveN; rw [HO0.out]; rfl)
    rw [hd] at HTR ⊢
    clear hd hR
    go_wp2_with fail
    refine (HTD.out _ HB1.out).mono ?_
    rintro e w2 ⟨v2, rfl, hr2, hb2⟩
    obtain ⟨p2, c2, rfl, _, _, hi2, _⟩ := hr2.sl
    have HI2 := Lib.hid hi2
    have HB2 := Lib.hid (HB1.out.trans (hb2.mono HB1.out.size))
    clear hr2 hb2 hi2
    have HC3 := Lib.hid (HTR.out p2 c2 w2 HI2.out)
    go_wp2_with fail
    refine HC3.out.mono ?_
    rintro e w3 ⟨rfl, hb3⟩
    have HB3 := Lib.hid (HB2.out.trans (hb3.mono HB2.out.size))
    clear hb3 HC3
    go_wp2_with fail
    refine (HTD.out _ HB3.out).mono ?_
    rintro e w4 ⟨v4, rfl, hr4, hb4⟩
    obtain ⟨p4, c4, rfl, _, _, hi4, _⟩ := hr4.sl
    have HI4 := Lib.hid hi4
    have HB4 := Lib.hid (HB3.out.trans (hb4.mono HB3.out.size))
    clear hr4 hb4 hi4
    have HC5 := Lib.hid (HTO.out p4 c4 w4 HI4.out)
    go_wp2_with fail
    refine HC5.out.mono ?_
    rintro e w5 ⟨v5, rfl, hr5, hb5⟩
    have HB5 := Lib.hid (HB4.out.trans (hb5.mono HB4.out.size))
    clear hb5 HC5
    rw [HO0.out] at hr5
    obtain ⟨p5, c5, rfl, _, _, _, _⟩ := hr5.sl
    clear hr5
    have hz : (toI []).length = 0 := rfl
    rw [hz]
    clear hz
    go_wp2_with fail
    refine (HTD.out _ HB5.out).mono ?_
    rintro e w6 ⟨v6, rfl, hr6, hb6⟩
    obtain ⟨p6, c6, rfl, _, _, hi6, _⟩ := hr6.sl
    have HI6 := Lib.hid hi6
    have HB6 := Lib.hid (HB5.out.trans (hb6.mono HB5.out.size))
    clear hr6 hb6 hi6
    have HC7 := Lib.hid (HTT.out p6 c6 w6 HI6.out)
    go_wp2_with fail
    refine HC7.out.mono ?_
    rintro e w7 ⟨rfl, hb7⟩
    have HB7 := Lib.hid (HB6.out.trans (hb7.mono HB6.out.size))
    clear hb7 HC7
    rw [HL0.out]
    have HC8 := Lib.hid (awake_any w7)
    go_wp2_with fail
    refine HC8.out.mono ?_
    rintro e w8 ⟨rfl, hb8⟩
    have HB8 := Lib.hid (HB7.out.trans (hb8.mono HB7.out.size))
    clear hb8 HC8
    go_wp2
    go_ret
    exact ⟨rfl, HB8.out⟩
  case pos =>
    have hd : decide (RightL l) = true := decide_eq_true hR
    have HRO := Lib.hid (fun w' (hb : Below w.heap.size w w') => rorder_any p c l w' (by omega) (HX.out.below hb) hR)
    have HRT := Lib.hid (fun w' (hb : Below w.heap.size w w') => rtext_any p c l w' (by omega) (HX.out.below hb) hR)
    rw [hd] at HTR ⊢
    clear hd hR
    go_wp2_with fail
    refine (HTD.out _ HB1.out).mono ?_
    rintro e w2 ⟨v2, rfl, hr2, hb2⟩
    obtain ⟨p2, c2, rfl, _, _, hi2, _⟩ := hr2.sl
    have HI2 := Lib.hid hi2
    have HB2 := Lib.hid (HB1.out.trans (hb2.mono HB1.out.size))
    clear hr2 hb2 hi2
    have HC3 := Lib.hid (HTR.out p2 c2 w2 HI2.out)
    go_wp2_with fail
    refine HC3.out.mono ?_
    rintro e w3 ⟨rfl, hb3⟩
    have HB3 := Lib.hid (HB2.out.trans (hb3.mono HB2.out.size))
    clear hb3 HC3
    go_wp2_with fail
    refine (HTD.out _ HB3.out).mono ?_
    rintro e w4 ⟨v4, rfl, hr4, hb4⟩
    obtain ⟨p4, c4, rfl, _, _, hi4, _⟩ := hr4.sl
    have HI4 := Lib.hid hi4
    have HB4 := Lib.hid (HB3.out.trans (hb4.mono HB3.out.size))
    clear hr4 hb4 hi4
    have HC5 := Lib.hid (HTO.out p4 c4 w4 HI4.out)
    go_wp2_with fail
    refine HC5.out.mono ?_
    rintro e w5 ⟨v5, rfl, hr5, hb5⟩
    have HB5 := Lib.hid (HB4.out.trans (hb5.mono HB4.out.size))
    clear hb5 HC5
    obtain ⟨p5, c5, rfl, _, _, hi5, _⟩ := hr5.sl
    have HI5 := Lib.hid hi5
    clear hr5 hi5
    have HC6 := Lib.hid (HRO.out w5 HB5.out)
    go_wp2_with fail
    refine HC6.out.mono ?_
    rintro e w6 ⟨v6, rfl, hr6, hb6⟩
    have HB6 := Lib.hid (HB5.out.trans (hb6.mono HB5.out.size))
    have hb6' := hb6
    clear hb6 HC6
    obtain ⟨p6, c6, rfl, _, _, hi6, _⟩ := hr6.sl
    have HI6 := Lib.hid hi6
    have HI5' := Lib.hid (HI5.out.below hb6')
    clear hr6 hi6 hb6'
    have HC7 := Lib.hid (ints_any p5 p6 c5 c6 (toI (ordN l)) (toI (ordN l)) w6 (by rw [toI_len]; have := HOL.out; omega) (by rw [toI_len]; have := HOL.out; omega) HI5'.out HI6.out)
    go_wp2_with fail
    refine HC7.out.mono ?_
    rintro e w7 ⟨rfl, hb7⟩
    have HB7 := Lib.hid (HB6.out.trans (hb7.mono HB6.out.size))
    clear hb7 HC7
    rw [show (toI (ordN l) == toI (ordN l)) = true from by simp]
    go_wp2_with fail
    refine (HTD.out _ HB7.out).mono ?_
    rintro e w8 ⟨v8, rfl, hr8, hb8⟩
    obtain ⟨p8, c8, rfl, _, _, hi8, _⟩ := hr8.sl
    have HI8 := Lib.hid hi8
    have HB8 := Lib.hid (HB7.out.trans (hb8.mono HB7.out.size))
    clear hr8 hb8 hi8
    have HC9 := Lib.hid (HTT.out p8 c8 w8 HI8.out)
    go_wp2_with fail
    refine HC9.out.mono ?_
    rintro e w9 ⟨rfl, hb9⟩
    have HB9 := Lib.hid (HB8.out.trans (hb9.mono HB8.out.size))
    clear hb9 HC9
    have HC10 := Lib.hid (HRT.out w9 HB9.out)
    go_wp2_with fail
    refine HC10.out.mono ?_
    rintro e w10 ⟨rfl, hb10⟩
    have HB10 := Lib.hid (HB9.out.trans (hb10.mono HB9.out.size))
    clear hb10 HC10
    have HC11 := Lib.hid (awake_any w10)
    go_wp2_with fail
    refine HC11.out.mono ?_
    rintro e w11 ⟨rfl, hb11⟩
    have HB11 := Lib.hid (HB10.out.trans (hb11.mono HB10.out.size))
    clear hb11 HC11
    go_wp2
    go_ret
    exact ⟨rfl, HB11.out⟩
set_option maxRecDepth 100000 in
theorem treeOrders_walk {H : Type} {enc : TypeId × Value → H} {W : World} {b0 : Nat} {v0 : Value} {d0 : DataW H} {p0 : List MemPlace}
    (k0 : Value.okWide Try.prog W .any b0 22 v0) (h0 : DataW.Trod enc Try.prog W 0 (fun _ => true) true 22 v0 d0 p0) :
    Calls Try.prog 3 #[v0] W fun e w' => e = .returned (.bool true) ∧ Below W.heap.size W w' := by
  obtain ⟨xs, p, c, rfl, hc1, hm1, hi1, hn1⟩ := reads_nodes h0 (okWide_slice Try.underlying22 k0)
  exact lawOrders_any p c xs W hi1
end Go.Proofs.Ytchbpfkjhilgiaa
