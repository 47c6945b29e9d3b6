/- The law TreeTurned: walk. -/
import Derived.Test.YtchbpfkjhilgiaaNr
import Derived.Test.YtchbpfkjhilgiaaPd
namespace Go.Proofs.Ytchbpfkjhilgiaa
open Go.RowKit Go.WideShapes Go.ChangeShapes Go.ChangeMaps Go.Deep
set_option linter.unusedVariables false

theorem ndB_set (k : Key) (hk : k.2.1.length = 32) (p p' r : Int) (d : Bool) : (ndB (k, p, r, d)).setIfInBounds 34 (.int .i64 p') = ndB (k, p', r, d) := by
  have hs : (keyB k.1 k.2.1 k.2.2).toList.length = 34 := by rw [Array.length_toList, keyB_size, hk]
  apply Array.ext'
  rw [Array.toList_setIfInBounds, ndB_list, ndB_list, List.set_append, hs]
  rfl
theorem turn_set (w : World) (k : Key) (hk : k.2.1.length = 32) (p p' r : Int) (d : Bool) :
    (w.alloc (.cells (ndB (k, p, r, d)) 41)).setCell ⟨w.heap.size, 34, none⟩ (.int .i64 p') = w.alloc (.cells (ndB (k, p', r, d)) 41) := by
  rw [setCell_eq_setRow _ w.heap.size 34 (ndB (k, p, r, d)) 41 (0, 0) _ (MapKept.heap_alloc w _).1, ndB_set k hk, setRow_here w _ _ 41 _ rfl]

set_option maxHeartbeats 4000000 in
set_option maxRecDepth 100000 in
theorem lawTurned_any (p : Option Addr) (c : Nat) (l : List Nd) (w : World) (hin : nodeR.In w p l) :
    Calls Try.prog 6 #[.slice p l.length c] w fun e w' => e = .returned (.bool true) ∧ Below w.heap.size w w' := by
  by_cases h1 : 60 < l.length
  · go_enter Try.func6, Try.ntmps6
    go_wp2
    go_ret
    exact ⟨rfl, Below.refl _ _⟩
  have hlen : l.length ≤ 1000 := by omega
  have HX := Lib.hid hin
  have HTD := Lib.hid (fun w' (hb : Below w.heap.size w w') => told_any p c l w' hlen (hin.below hb))
  have HTR := Lib.hid (fun p' c' w' hi => tright_any p' c' l w' hlen hi)
  have HTT := Lib.hid (fun p' c' w' hi => ttext_any p' c' l w' hlen hi)
  have HTR' := Lib.hid (fun p' c' w' hi => tright_any p' c' (turnN l) w' (by rw [turnN_len]; exact hlen) hi)
  have HTT' := Lib.hid (fun p' c' w' hi => ttext_any p' c' (turnN l) w' (by rw [turnN_len]; exact hlen) hi)
  rw [turnN_len] at HTR' HTT'
  rw [turn_live] at HTT'
  have HRI := Lib.hid (show decide (RightL (turnN l)) = decide (RightL l) from by
    by_cases h : RightL l
    · rw [decide_eq_true h, decide_eq_true ((turn_iff l).2 h)]
    · rw [decide_eq_false h, decide_eq_false (fun hh => h ((turn_iff l).1 hh))])
  rw [HRI.out] at HTR'
  clear hin
  go_enter Try.func6, Try.ntmps6
  go_wp2_with fail
  go_loopg [4, 5] l.length (fun g v4 v5 wr => ∃ k : Nat, g + k = l.length ∧ v5 = .int .i64 k ∧ nodeR.row 41 w.heap.size (turnT l k) v4 wr ∧ Below w.heap.size w wr)
  case atStart => exact ⟨0, by omega, rfl, by simpa [turnT] using Rec.row.nil, Below.refl _ _⟩
  case round =>
    obtain ⟨k, hg, rfl, hrow, hbw⟩ := hrel
    have HG := Lib.hid hg
    have HROW := Lib.hid hrow
    have HB := Lib.hid hbw
    clear hg hrow hbw
    by_cases hk : k < l.length
    · have HKK := Lib.hid hk
      have HTS := Lib.hid (turnT_succ l k)
      have HLN := Lib.hid (show (turnT l k).length + 1 ≤ 100000000 by simp [turnT]; omega)
      have f1 : IntKind.i64.wrap ((l.length : Int) - 1) = l.length - 1 := IntWalk.i64_in _ (by omega)
      have f2 : IntKind.i64.wrap ((l.length : Int) - 1 - k) = ((l.length - 1 - k : Nat) : Int) := by rw [IntWalk.i64_in _ (by omega)]; omega
      obtain ⟨j, hj⟩ : ∃ j, j = l.length - 1 - k := ⟨_, rfl⟩
      rw [← hj] at f2 HTS
      have hjl : j < l.length := by omega
      have i1 : (j : Int) < l.length := by omega
      clear hj
      go_wp2_with fail
      refine (HTD.out _ HB.out).mono ?_
      rintro e wt ⟨vt, rfl, hrt, hbt⟩
      obtain ⟨pt, ct, rfl, _, _, hit, _⟩ := hrt.sl
      obtain ⟨b, off, rfl, hlt, h32, hat⟩ := node_at hit hjl
      have hbt' := hbt
      have HBt := Lib.hid (HB.out.trans (hbt.mono HB.out.size))
      have HROWt := Lib.hid (HROW.out.below hbt)
      generalize l.getD j nd0 = x at *
      obtain ⟨⟨kt, kc, ki⟩, xp, xr, xd⟩ := x
      have H32 := Lib.hid (show kc.length = 32 from h32)
      have h32' : kc.length = 32 := h32
      have e1 := hat.f
      have e2 := hat.a
      have hnew := NdAt.new wt ((kt, kc, ki), xp, xr, xd) 41 h32
      have hpn := hnew.p
      simp only [Nat.zero_add] at hpn
      have HTP := Lib.hid (show turnX l.length ((kt, kc, ki), xp, xr, xd) = ((kt, kc, ki), turnP l.length xp, xr, xd) from rfl)
      rw [HTP.out] at HTS
      clear hat hrt hit hbt hbt' h32 hnew
      by_cases hp : 0 ≤ xp ∧ xp < l.length
      · have g1 : decide (0 ≤ xp) = true := decide_eq_true hp.1
        have g2 : decide (xp < (l.length : Int)) = true := decide_eq_true hp.2
        have f3 : IntKind.i64.wrap ((l.length : Int) - 1 - xp) = l.length - 1 - xp := IntWalk.i64_in _ (by omega)
        have hTP : turnP l.length xp = (l.length : Int) - 1 - xp := by unfold turnP; rw [if_pos hp]
        rw [hTP] at HTS
        clear hTP
        go_upto_region 11 with fail
        rw [ndB_set (kt, kc, ki) H32.out]
        have hat := NdAt.new wt ((kt, kc, ki), (l.length : Int) - 1 - xp, xr, xd) 41 H32.out
        have hba := (Below.refl wt.heap.size wt).alloc (Nat.le_refl _) (.cells (ndB ((kt, kc, ki), (l.length : Int) - 1 - xp, xr, xd)) 41)
        obtain ⟨wn, hwn⟩ : ∃ wn, wn = wt.alloc (.cells (ndB ((kt, kc, ki), (l.length : Int) - 1 - xp, xr, xd)) 41) := ⟨_, rfl⟩
        rw [← hwn] at hat hba ⊢
        have n1 := hat.f
        have n2 := hat.a
        have HBn := Lib.hid (HBt.out.trans (hba.mono HBt.out.size))
        have HRn := Lib.hid (HROWt.out.below hba)
        have hbl := (Below.refl wn.heap.size wn).alloc (Nat.le_refl _) (.cells (ndB ((kt, kc, ki), (l.length : Int) - 1 - xp, xr, xd)) 41)
        have HRW := Lib.hid (HRn.out.below hbl)
        have HINl := Lib.hid (nodeIn_one wn ((kt, kc, ki), (l.length : Int) - 1 - xp, xr, xd) H32.out)
        have HBl := Lib.hid (HBn.out.trans (hbl.mono HBn.out.size))
        clear hwn hat hba hbl e1 e2 hpn
        go_wp2_with (at_builtin; refine Rec.wpList_app node25 rfl _ _ rfl w.heap.size _ (turnT l k) [((kt, kc, ki), (l.length : Int) - 1 - xp, xr, xd)] (turnT l (k + 1)) HTS.out rfl HRW.out (some ⟨wn.heap.size, 0, none⟩) 1 rfl HINl.out (fun h => by cases h) HLN.out HBl.out.size ?_)
        rintro v7 w7 hr7 _ hb7
        have HR7 := Lib.hid hr7
        have HB7 := Lib.hid (HBl.out.trans hb7)
        clear hr7 hb7 n1 n2
        go_wp2
        go_roundg (gk - 1)
        case measure => have := HG.out; have := HKK.out; omega
        case rel => exact ⟨k + 1, nat_step HG.out HKK.out, by go_num, HR7.out, HB7.out⟩
      · have hTP : turnP l.length xp = xp := by unfold turnP; rw [if_neg hp]
        rw [hTP] at HTS
        clear hTP
        by_cases hp0 : 0 ≤ xp
        · have g1 : decide (0 ≤ xp) = true := decide_eq_true hp0
          have g2 : decide (xp < (l.length : Int)) = false := decide_eq_false (by omega)
          go_upto_region 11 with fail
          have hat := NdAt.new wt ((kt, kc, ki), xp, xr, xd) 41 H32.out
          have hba := (Below.refl wt.heap.size wt).alloc (Nat.le_refl _) (.cells (ndB ((kt, kc, ki), xp, xr, xd)) 41)
          obtain ⟨wn, hwn⟩ : ∃ wn, wn = wt.alloc (.cells (ndB ((kt, kc, ki), xp, xr, xd)) 41) := ⟨_, rfl⟩
          rw [← hwn] at hat hba ⊢
          have n1 := hat.f
          have n2 := hat.a
          have HBn := Lib.hid (HBt.out.trans (hba.mono HBt.out.size))
          have HRn := Lib.hid (HROWt.out.below hba)
          have hbl := (Below.refl wn.heap.size wn).alloc (Nat.le_refl _) (.cells (ndB ((kt, kc, ki), xp, xr, xd)) 41)
          have HRW := Lib.hid (HRn.out.below hbl)
          have HINl := Lib.hid (nodeIn_one wn ((kt, kc, ki), xp, xr, xd) H32.out)
          have HBl := Lib.hid (HBn.out.trans (hbl.mono HBn.out.size))
          clear hwn hat hba hbl e1 e2 hpn
          go_wp2_with (at_builtin; refine Rec.wpList_app node25 rfl _ _ rfl w.heap.size _ (turnT l k) [((kt, kc, ki), xp, xr, xd)] (turnT l (k + 1)) HTS.out rfl HRW.out (some ⟨wn.heap.size, 0, none⟩) 1 rfl HINl.out (fun h => by cases h) HLN.out HBl.out.size ?_)
          rintro v7 w7 hr7 _ hb7
          have HR7 := Lib.hid hr7
          have HB7 := Lib.hid (HBl.out.trans hb7)
          clear hr7 hb7 n1 n2
          go_wp2
          go_roundg (gk - 1)
          case measure => have := HG.out; have := HKK.out; omega
          case rel => exact ⟨k + 1, nat_step HG.out HKK.out, by go_num, HR7.out, HB7.out⟩
        · have g1 : decide (0 ≤ xp) = false := decide_eq_false hp0
          go_upto_region 11 with fail
          have hat := NdAt.new wt ((kt, kc, ki), xp, xr, xd) 41 H32.out
          have hba := (Below.refl wt.heap.size wt).alloc (Nat.le_refl _) (.cells (ndB ((kt, kc, ki), xp, xr, xd)) 41)
          obtain ⟨wn, hwn⟩ : ∃ wn, wn = wt.alloc (.cells (ndB ((kt, kc, ki), xp, xr, xd)) 41) := ⟨_, rfl⟩
          rw [← hwn] at hat hba ⊢
          have n1 := hat.f
          have n2 := hat.a
          have HBn := Lib.hid (HBt.out.trans (hba.mono HBt.out.size))
          have HRn := Lib.hid (HROWt.out.below hba)
          have hbl := (Below.refl wn.heap.size wn).alloc (Nat.le_refl _) (.cells (ndB ((kt, kc, ki), xp, xr, xd)) 41)
          have HRW := Lib.hid (HRn.out.below hbl)
          have HINl := Lib.hid (nodeIn_one wn ((kt, kc, ki), xp, xr, xd) H32.out)
          have HBl := Lib.hid (HBn.out.trans (hbl.mono HBn.out.size))
          clear hwn hat hba hbl e1 e2 hpn
          go_wp2_with (at_builtin; refine Rec.wpList_app node25 rfl _ _ rfl w.heap.size _ (turnT l k) [((kt, kc, ki), xp, xr, xd)] (turnT l (k + 1)) HTS.out rfl HRW.out (some ⟨wn.heap.size, 0, none⟩) 1 rfl HINl.out (fun h => by cases h) HLN.out HBl.out.size ?_)
          rintro v7 w7 hr7 _ hb7
          have HR7 := Lib.hid hr7
          have HB7 := Lib.hid (HBl.out.trans hb7)
          clear hr7 hb7 n1 n2
          go_wp2
          go_roundg (gk - 1)
          case measure => have := HG.out; have := HKK.out; omega
          case rel => exact ⟨k + 1, nat_step HG.out HKK.out, by go_num, HR7.out, HB7.out⟩
    · have hke : k = l.length := by have := HG.out; omega
      subst hke
      obtain ⟨p1, c1, rfl, _, _, hi1, _⟩ := HROW.out.sl
      have HI1 := Lib.hid (show nodeR.In wr p1 (turnN l) from hi1)
      have HB1 := Lib.hid HB.out
      have hzl : (turnT l l.length).length = l.length := by simp [turnT]
      rw [hzl] at HROW ⊢
      clear hi1 hzl HB
      have HC2 := Lib.hid (HTT'.out p1 c1 wr HI1.out)
      go_wp2_with fail
      refine HC2.out.mono ?_
      rintro e w2 ⟨rfl, hb2'⟩
      have HI1' := Lib.hid (HI1.out.below hb2')
      have HB2 := Lib.hid (HB1.out.trans (hb2'.mono HB1.out.size))
      clear HC2
      clear hb2'
      go_wp2_with fail
      refine (HTD.out _ HB2.out).mono ?_
      rintro e w3 ⟨v3, rfl, hr3, hb3⟩
      obtain ⟨p3, c3, rfl, _, _, hi3, _⟩ := hr3.sl
      have HI3 := Lib.hid hi3
      have HB3 := Lib.hid (HB2.out.trans (hb3.mono HB2.out.size))
      have HI1 := Lib.hid (HI1'.out.below hb3)
      clear hr3 hb3 HI1' hi3
      have HC4 := Lib.hid (HTT.out p3 c3 w3 HI3.out)
      go_wp2_with fail
      refine HC4.out.mono ?_
      rintro e w4 ⟨rfl, hb4'⟩
      have HI1' := Lib.hid (HI1.out.below hb4')
      have HB4 := Lib.hid (HB3.out.trans (hb4'.mono HB3.out.size))
      clear HC4
      clear hb4' HI1
      obtain ⟨bb, hbb⟩ : ∃ b, b = decide (RightL l) := ⟨_, rfl⟩
      rw [← hbb] at HTR HTR'
      have gbb : (bb == bb) = true := by simp
      clear hbb
      have HC5 := Lib.hid (HTR'.out p1 c1 w4 HI1'.out)
      go_wp2_with fail
      refine HC5.out.mono ?_
      rintro e w5 ⟨rfl, hb5⟩
      have HB5 := Lib.hid (HB4.out.trans (hb5.mono HB4.out.size))
      clear hb5 HC5
      go_wp2_with fail
      refine (HTD.out _ HB5.out).mono ?_
      rintro e w6 ⟨v6, rfl, hr6, hb6⟩
      obtain ⟨p6, c6, rfl, _, _, hi6, _⟩ := hr6.sl
      have HI6 := Lib.hid hi6
      have HB6 := Lib.hid (HB5.out.trans (hb6.mono HB5.out.size))
      clear hr6 hb6 hi6
      have HC7 := Lib.hid (HTR.out p6 c6 w6 HI6.out)
      go_wp2_with fail
      refine HC7.out.mono ?_
      rintro e w7 ⟨rfl, hb7⟩
      have HB7 := Lib.hid (HB6.out.trans (hb7.mono HB6.out.size))
      clear hb7 HC7
      have HC8 := Lib.hid (awake_any w7)
      go_wp2_with fail
      refine HC8.out.mono ?_
      rintro e w8 ⟨rfl, hb8⟩
      have HB8 := Lib.hid (HB7.out.trans (hb8.mono HB7.out.size))
      clear hb8 HC8
      go_wp2
      go_ret
      exact ⟨rfl, HB8.out⟩
set_option maxRecDepth 100000 in
theorem treeTurned_walk {H : Type} {enc : TypeId × Value → H} {W : World} {b0 : Nat} {v0 : Value} {d0 : DataW H} {p0 : List MemPlace}
    (k0 : Value.okWide Try.prog W .any b0 22 v0) (h0 : DataW.Trod enc Try.prog W 0 (fun _ => true) true 22 v0 d0 p0) :
    Calls Try.prog 6 #[v0] W fun e w' => e = .returned (.bool true) ∧ Below W.heap.size W w' := by
  obtain ⟨xs, p, c, rfl, hc1, hm1, hi1, hn1⟩ := reads_nodes h0 (okWide_slice Try.underlying22 k0)
  exact lawTurned_any p c xs W hi1
end Go.Proofs.Ytchbpfkjhilgiaa
