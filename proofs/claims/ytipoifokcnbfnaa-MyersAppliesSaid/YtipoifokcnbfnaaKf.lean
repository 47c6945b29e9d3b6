/- The walk of list. -/
import Derived.Test.YtipoifokcnbfnaaKm
namespace Go.Proofs.Ytipoifokcnbfnaa
open Go.RowKit
set_option linter.unusedVariables false

@[go_sem ↓] theorem eql56n (n c : Nat) (w : World) : (binOp .eql 56 (.slice none n c) (.slice none 0 0)).run Try.prog w = .ok (.bool true) w := Lib.run_eql_slice_nil w _ _ none n c 0 0 Try.underlying56
@[go_sem ↓] theorem eql56s (a : Addr) (n c : Nat) (w : World) : (binOp .eql 56 (.slice (some a) n c) (.slice none 0 0)).run Try.prog w = .ok (.bool false) w := Lib.run_eql_slice_nil w _ _ (some a) n c 0 0 Try.underlying56
/-- What list leaves. -/
def ListPost (W0 : WW) (s m : Nat) (a b : List Int) (pa pb : Option Addr) (ca cb : Nat) (n N : Nat) (D : DataW Unit) (d : Nat) (e : Ending) (w' : World) : Prop :=
  ∃ v blk fr, e = .returned v ∧ (numR .i32).row 21 W0.o.heap.size (PL a b d) v w' ∧ St W0 w' s m a b pa pb ca cb blk fr ∧ w'.ownsMap Try.prog 3 slR m n D ∧ Saved w' W0.o.heap.size a b D N ∧ Blk w' W0.o.heap.size a b blk fr

set_option maxHeartbeats 8000000 in
set_option maxRecDepth 100000 in
theorem list_any (W0 : WW) (w : World) (s m : Nat) (a b : List Int) (pa pb : Option Addr) (ca cb : Nat) (ha : a.length ≤ 4096) (hb : b.length ≤ 4096) (blk : Value) (fr : Int) (n N : Nat) (D : DataW Unit) (d : Nat)
    (h : St W0 w s m a b pa pb ca cb blk fr) (hmap : w.ownsMap Try.prog 3 slR m n D) (hsv : Saved w W0.o.heap.size a b D N) (hbk : Blk w W0.o.heap.size a b blk fr) (hd : d < N) (hN : N ≤ 9000) :
    Calls Try.prog 25 #[.pointer (some ⟨s, 0, none⟩), .int .i64 d] w (ListPost W0 s m a b pa pb ca cb n N D d) := by
  have H := Lib.hid h
  have HM := Lib.hid hmap
  have HS := Lib.hid hsv
  obtain ⟨hs0, hrow0, hcase0⟩ := hbk
  have HR0 := Lib.hid hrow0
  have HC0 := Lib.hid hcase0
  obtain ⟨q, hq⟩ : ∃ q, q = d / 64 := ⟨_, rfl⟩
  obtain ⟨r, hr⟩ : ∃ r, r = d % 64 := ⟨_, rfl⟩
  obtain ⟨F, hF⟩ : ∃ F, F = 64 * q := ⟨_, rfl⟩
  have HQ := Lib.hid (show d = 64 * q + r ∧ r < 64 ∧ F = 64 * q by omega)
  have f0 : IntKind.i64.wrap ((d : Int) - (d : Int) % 64) = (F : Int) := by rw [IntWalk.i64_in _ (by omega)]; omega
  have fF : IntKind.i64.wrap ((d : Int) - (F : Int)) = (r : Int) := by rw [IntWalk.i64_in _ (by omega)]; omega
  have e3 : w.cell? ⟨s, 3, none⟩ = some blk := by rw [Lib.cell_of_heap h.at']; rfl
  have e4 : w.cell? ⟨s, 4, none⟩ = some (.int .i64 fr) := by rw [Lib.cell_of_heap h.at']; rfl
  obtain ⟨B, hB⟩ : ∃ B : Bool, B = decide (¬ (hs0 ≠ [] ∧ fr = (F : Int))) := ⟨_, rfl⟩
  have HB := Lib.hid hB
  obtain ⟨bp, bn, bc, hbl⟩ : ∃ bp bn bc, blk = .slice bp bn bc := by
    obtain ⟨p1, c1, h1, _⟩ := hrow0.sl
    exact ⟨_, _, _, h1⟩
  have HBL := Lib.hid hbl
  rw [hbl] at e3
  have hdz : (d : Int) ≤ 9000 := by omega
  have hFz : F ≤ 9000 := by omega
  clear h hmap hsv hrow0 hcase0 hq hr hF hB hbl
  go_enter Try.func25, Try.ntmps25
  go_upto_region 2 with fail
  go_cut [22] (fun v22 wx => v22 = .bool B ∧ w = wx)
  case first =>
    cases bp with
    | none =>
      have HN := Lib.hid (show B = true by
        rw [HB.out]
        refine decide_eq_true (fun hh => ?_)
        obtain ⟨g, cap, he, _⟩ := HR0.out.some hh.1
        rw [HBL.out] at he; cases he)
      go_wp2_with fail
      go_meet
      exact ⟨by rw [HN.out], rfl⟩
    | some p =>
      have HN := Lib.hid (show hs0 ≠ [] from fun h0 => by
        rcases HC0.out with h1 | h1
        · have := h1.2; rw [HBL.out] at this; cases this
        · exact h1.1 h0)
      have g1 : (fr != (F : Int)) = B := by
        rw [HB.out]
        by_cases hf : fr = (F : Int)
        · simp [hf, HN.out]
        · simp [hf]
      go_wp2_with fail
      go_meet
      exact ⟨rfl, rfl⟩
  case rest =>
  obtain ⟨rfl, rfl⟩ := hcut
  clear e3 e4
  go_upto_if 22 with fail
  go_cut [5] (fun v5 wx => v5 = .int .i64 (F : Int) ∧ ∃ (blk' : Value) (hs : List (Option Addr × Nat × Nat)), hs ≠ [] ∧ hs.length ≤ 64 ∧ St W0 wx s m a b pa pb ca cb blk' (F : Int) ∧ wx.ownsMap Try.prog 3 slR m n D ∧ Saved wx W0.o.heap.size a b D N ∧ hdrR.row 22 W0.o.heap.size hs blk' wx ∧ Rows wx W0.o.heap.size a b q hs)
  case first =>
    cases B with
    | false =>
      have hh := Classical.not_not.1 (of_decide_eq_false HB.out.symm)
      have HX := Lib.hid (show ∃ (blk' : Value) (hs : List (Option Addr × Nat × Nat)), hs ≠ [] ∧ hs.length ≤ 64 ∧ St W0 w s m a b pa pb ca cb blk' (F : Int) ∧ w.ownsMap Try.prog 3 slR m n D ∧ Saved w W0.o.heap.size a b D N ∧ hdrR.row 22 W0.o.heap.size hs blk' w ∧ Rows w W0.o.heap.size a b q hs by
        rcases HC0.out with h1 | ⟨h1, q', h2, h3, h4⟩
        · exact absurd h1.1 hh.1
        · have hqq : q' = q := by have := HQ.out; omega
          subst hqq
          refine ⟨blk, hs0, h1, h3, ?_, HM.out, HS.out, HR0.out, h4⟩
          rw [← hh.2]; exact H.out)
      clear hh
      go_wp2_with fail
      go_meet
      exact ⟨rfl, HX.out⟩
    | true =>
      have e2 : w.cell? ⟨s, 2, none⟩ = some (.map (some m)) := by rw [Lib.cell_of_heap H.out.at']; rfl
      have hfz : ∀ o, w.frozen? ⟨s, o, none⟩ = false := fun o => Lib.frozen_of_heap H.out.at' o
      have z3 := hfz 3
      have z4 := hfz 4
      have hsl : s < w.heap.size := H.out.lt
      have c3 : w.cell? ⟨s, 3, none⟩ = some blk := by rw [Lib.cell_of_heap H.out.at']; rfl
      have c4 : w.cell? ⟨s, 4, none⟩ = some (.int .i64 fr) := by rw [Lib.cell_of_heap H.out.at']; rfl
      obtain ⟨g, c, hlk, hrow⟩ := saved_look HS.out HM.out (q := q) (by have := HQ.out; omega) (by have := HQ.out; omega)
      rw [← HQ.out.2.2] at hlk hrow
      have HROW := Lib.hid hrow
      clear hfz hrow
      go_wp2_with fail
      have hsz : ((w.setCell ⟨s, 4, none⟩ (.int .i64 (F : Int))).setCell ⟨s, 3, none⟩ (.slice (some ⟨w.heap.size, 0, none⟩) 1 1)).heap.size = w.heap.size := by simp
      have hst := (H.out.setF (F : Int)).setB (.slice (some ⟨w.heap.size, 0, none⟩) 1 1)
      have hmp := own_set (o := 3) (v := .slice (some ⟨w.heap.size, 0, none⟩) 1 1) (own_set (o := 4) (v := .int .i64 (F : Int)) HM.out H.out.ne) H.out.ne
      have hkt := (H.out.keptT 4 (.int .i64 (F : Int)) 21 (by decide)).trans ((H.out.setF (F : Int)).keptT 3 (.slice (some ⟨w.heap.size, 0, none⟩) 1 1) 21 (by decide))
      have hrw := row_new1 (R := hdrR) ((w.setCell ⟨s, 4, none⟩ (.int .i64 (F : Int))).setCell ⟨s, 3, none⟩ (.slice (some ⟨w.heap.size, 0, none⟩) 1 1)) 22 (some ⟨g, 0, none⟩, F + 1, c) trivial
      rw [hsz] at hrw
      obtain ⟨X, hX⟩ : ∃ X, X = ((w.setCell ⟨s, 4, none⟩ (.int .i64 (F : Int))).setCell ⟨s, 3, none⟩ (.slice (some ⟨w.heap.size, 0, none⟩) 1 1)) := ⟨_, rfl⟩
      rw [← hX] at hst hmp hkt hrw hsz ⊢
      have hbe := (Below.refl X.heap.size X).alloc (Nat.le_refl _) (.cells #[.slice (some ⟨g, 0, none⟩) (F + 1) c] 22)
      have hkk := hkt.trans (KeptT.of_below hbe)
      go_meet
      refine ⟨rfl, _, [(some ⟨g, 0, none⟩, F + 1, c)], by simp, by simp, hst.below hbe, own_below hmp hbe, HS.out.kept hkk, Rec.row.base hrw H.out.bel.size, fun i x hx => ?_⟩
      have hi : i = 0 := by have := (List.getElem?_eq_some_iff.1 hx).1; simpa using this
      subst hi
      simp at hx
      have hF := HQ.out.2.2
      refine ⟨g, c, by rw [← hx, hF], ?_⟩
      rw [Nat.add_zero, ← hF]
      exact row_keptT HROW.out hkk
  case rest =>
  obtain ⟨rfl, blk', hs, hs0', hsl, hst, hmp, hsv, hrow, hrows⟩ := hcut
  have HT1 := Lib.hid hst
  have HM1 := Lib.hid hmp
  have HS1 := Lib.hid hsv
  have HR1 := Lib.hid hrow
  have HRS1 := Lib.hid hrows
  have HNE1 := Lib.hid hs0'
  clear hst hmp hsv hrow hrows hs0' H HM HS HR0 HC0 HB HBL
  go_wp2_with fail
  go_loopg [45] (65 - hs.length) (fun g v45 wr => ∃ (blk' : Value) (hs : List (Option Addr × Nat × Nat)), g + hs.length = 65 ∧ hs ≠ [] ∧ hs.length ≤ 64 ∧ St W0 wr s m a b pa pb ca cb blk' (F : Int) ∧ wr.ownsMap Try.prog 3 slR m n D ∧ Saved wr W0.o.heap.size a b D N ∧ hdrR.row 22 W0.o.heap.size hs blk' wr ∧ Rows wr W0.o.heap.size a b q hs)
  case atStart => exact ⟨blk', hs, by omega, HNE1.out, hsl, HT1.out, HM1.out, HS1.out, HR1.out, HRS1.out⟩
  case round =>
    clear HT1 HM1 HS1 HR1 HRS1 HNE1
    obtain ⟨blk2, hs2, hg, hne2, hl2, hst, hmp, hsv, hrow, hrows⟩ := hrel
    have HG := Lib.hid hg
    have HT := Lib.hid hst
    have HM := Lib.hid hmp
    have HS := Lib.hid hsv
    have HR := Lib.hid hrow
    have HRS := Lib.hid hrows
    have HNE := Lib.hid hne2
    obtain ⟨bg, bc2, rfl, hbc1, hbc2, hbg, hbgl⟩ := hrow.some hne2
    have e3 : wr.cell? ⟨s, 3, none⟩ = some (.slice (some ⟨bg, 0, none⟩) hs2.length bc2) := by rw [Lib.cell_of_heap hst.at']; rfl
    have hslt : s < wr.heap.size := hst.lt
    clear hg hst hmp hsv hrow hrows hne2
    by_cases hle : hs2.length ≤ r
    · have g1 : decide ((hs2.length : Int) ≤ r) = true := decide_eq_true (by omega)
      obtain ⟨i, hi⟩ : ∃ i, hs2.length = i + 1 := ⟨hs2.length - 1, by have := HNE.out; have := List.length_pos_iff.2 this; omega⟩
      have hq := HQ.out
      have hil : i < hs2.length := by omega
      obtain ⟨x, hx⟩ : ∃ x, hs2[i]? = some x := ⟨_, List.getElem?_eq_getElem hil⟩
      obtain ⟨g, c, hxe, hrow⟩ := HRS.out i x hx
      have hat := HR.out.at hx
      have e4 : wr.cell? ⟨bg, i, none⟩ = some (.slice (some ⟨g, 0, none⟩) (64 * q + i + 1) c) := by
        have := hdr_cell (o := 0) (by simpa using hat)
        rw [hxe] at this; simpa using this
      obtain ⟨E, hE⟩ : ∃ E, E = 64 * q + i + 1 := ⟨_, rfl⟩
      have f1 : IntKind.i64.wrap ((F : Int) + hs2.length) = (E : Int) := by rw [IntWalk.i64_in _ (by omega)]; omega
      have f2 : IntKind.i64.wrap ((hs2.length : Int) - 1) = (i : Int) := by rw [IntWalk.i64_in _ (by omega)]; omega
      have hiz : (i : Int) < hs2.length := by omega
      rw [← hE] at e4 hrow
      have HE := Lib.hid hE
      have HI := Lib.hid hi
      have HROW := Lib.hid hrow
      have HX := Lib.hid (show ∃ x, hs2[i]? = some x ∧ Value.slice x.1 x.2.1 x.2.2 = .slice (some ⟨g, 0, none⟩) E c from ⟨x, hx, by rw [hxe, hE]⟩)
      clear hx hxe hrow hat hE hi hq
      have HP0 := Lib.hid (show P0L wr.heap.size W0 s m a b pa pb ca cb n N D q F hs2 (.slice (some ⟨bg, 0, none⟩) hs2.length bc2) wr from ⟨Nat.le_refl _, HT.out, HM.out, HS.out, HRS.out⟩)
      have HE4 := Lib.hid e4
      have HLT := Lib.hid (show s < wr.heap.size ∧ bg < wr.heap.size from ⟨hslt, hbgl⟩)
      have HL2 := Lib.hid hl2
      have HWK := Lib.hid HT.out.bel.size
      have HX2 := Lib.hid (show ∃ x, hs2[i]? = some x ∧ Value.slice x.1 x.2.1 x.2.2 = .slice (some ⟨g, 0, none⟩) E c from HX.out)
      have NX := Lib.hid (fun wq (hP0 : P0L wr.heap.size W0 s m a b pa pb ca cb n N D q F hs2 (.slice (some ⟨bg, 0, none⟩) hs2.length bc2) wq) => next_step hP0 ha hb HX2.out HE.out (by have := HQ.out; have := HI.out; omega))
      go_upto_region 5 with fail
      refine wp_region_specs2 [[], [], [1], [2], [3], [], [], [], [7], [8], [9], [10], [6, 11], [], [13], [14], [15], [], [17], [18], [19], [20], [21], [16, 22], [23], [5, 12, 24], [25], [4, 26], [0], [28], [0, 1, 2, 3, 4, 5, 6, 7, 8, 9, 10, 11, 12, 13, 14, 15, 16, 17, 18, 19, 20, 21, 22, 23, 24, 25, 26, 27, 29]] [some 46, some 47, some 48, some 49, some 50, some 51, some 52, some 53, some 54, some 55, some 56, some 57, some 58, some 59, some 60, some 61, some 62, some 63, some 64, some 65, some 66, some 67, some 68, some 69, some 70, some 71, some 72, some 73, some 74, some 75, none] [0, 1, 2, 3, 4, 5, 6, 7, 8, 9, 10, 11, 12, 13, 14, 15, 16, 17, 18, 19, 20, 21, 22, 23, 24, 25, 26, 27, 28, 29, 30] (fun _ => True) (PrL wr.heap.size W0 s m a b pa pb ca cb n N D q F hs2 (.slice (some ⟨bg, 0, none⟩) hs2.length bc2) ⟨bg, i, none⟩ (.slice (some ⟨g, 0, none⟩) E c)) (RL wr.heap.size W0 s m a b pa pb ca cb n N D q F hs2 (.slice (some ⟨bg, 0, none⟩) hs2.length bc2) bg ⟨bg, i, none⟩ (.slice (some ⟨g, 0, none⟩) E c)) (fun ix_ => [eqv (.pointer (some ⟨s, 0, none⟩)), eqv (.pointer (some ⟨s, 0, none⟩)), eqv (.pointer (some ⟨s, 0, none⟩)), eqv (.pointer (some ⟨s, 3, none⟩)), eqv (.slice (some ⟨bg, 0, none⟩) hs2.length bc2), eqv (.pointer (some ⟨s, 0, none⟩)), eqv (.int .i64 (F : Int)), eqv (.pointer (some ⟨s, 0, none⟩)), eqv (.pointer (some ⟨s, 0, none⟩)), eqv (.pointer (some ⟨s, 3, none⟩)), eqv (.slice (some ⟨bg, 0, none⟩) hs2.length bc2), eqv (.int .i64 (hs2.length : Int)), eqv (.int .i64 (E : Int)), eqv (.pointer (some ⟨s, 0, none⟩)), eqv (.pointer (some ⟨s, 0, none⟩)), eqv (.pointer (some ⟨s, 3, none⟩)), eqv (.slice (some ⟨bg, 0, none⟩) hs2.length bc2), eqv (.pointer (some ⟨s, 0, none⟩)), eqv (.pointer (some ⟨s, 0, none⟩)), eqv (.pointer (some ⟨s, 3, none⟩)), eqv (.slice (some ⟨bg, 0, none⟩) hs2.length bc2), eqv (.int .i64 (hs2.length : Int)), eqv (.int .i64 (i : Int)), eqv (.pointer (some ⟨bg, i, none⟩)), eqv (.slice (some ⟨g, 0, none⟩) E c), S25 wr.heap.size a b E, S26 wr.heap.size a b E, S27 wr.heap.size W0.o.heap.size s a b E hs2, eqv (.pointer (some ⟨s, 0, none⟩)), eqv (.pointer (some ⟨s, 3, none⟩)), S30 W0 s m a b pa pb ca cb n N D q F E hs2].getD ix_ anyv) (by kernel_rfl) (by kernel_rfl) trivial ?_ (fun _ _ _ _ _ => trivial) ?_ ?_ ?_ ?_
      · intro j; exact ⟨fun _ => HP0.out.below (Below.refl wr.heap.size wr).drew, fun _ => HR.out.below (Below.refl wr.heap.size wr).drew, fun _ => HE4.out⟩
      · intro i' j w1 w2 hij hd hp hr; exact PrL_st (fun hj => by subst hj; exact gt30 i' hd hij) hij hp hr
      · intro i' j v w1 w2 hij hd h hr
        match i', hij, hd, h with
        | 0, _, _, h => exact h
        | 1, _, _, h => exact h
        | 2, _, _, h => exact h
        | 3, _, _, h => exact h
        | 4, _, _, h => exact h
        | 5, _, _, h => exact h
        | 6, _, _, h => exact h
        | 7, _, _, h => exact h
        | 8, _, _, h => exact h
        | 9, _, _, h => exact h
        | 10, _, _, h => exact h
        | 11, _, _, h => exact h
        | 12, _, _, h => exact h
        | 13, _, _, h => exact h
        | 14, _, _, h => exact h
        | 15, _, _, h => exact h
        | 16, _, _, h => exact h
        | 17, _, _, h => exact h
        | 18, _, _, h => exact h
        | 19, _, _, h => exact h
        | 20, _, _, h => exact h
        | 21, _, _, h => exact h
        | 22, _, _, h => exact h
        | 23, _, _, h => exact h
        | 24, _, _, h => exact h
        | 25, _, _, h => exact S25_st HLT.out h hr
        | 26, _, _, h => exact S26_st HLT.out h hr
        | 27, hij, _, h => exact S27_st HLT.out (fun e => hij e.symm) h hr
        | 28, _, _, h => exact h
        | 29, _, _, h => exact h
        | 30, hij, hd, h => exact S30_st (y := v) hd (fun e => hij e.symm) h hr
        | i' + 31, _, _, h => exact trivial
      · refine ⟨?_, ?_, ?_, ?_, ?_, ?_, ?_, ?_, ?_, ?_, ?_, ?_, ?_, ?_, ?_, ?_, ?_, ?_, ?_, ?_, ?_, ?_, ?_, ?_, ?_, ?_, ?_, ?_, ?_, ?_, ?_, trivial⟩
        · intro vs wq hG hP hd
          simp only [putL]
          clear hd hP 
          go_wp2
          exact ⟨rfl, rfl, RL_b (by decide) (Below.refl _ _), rfl⟩
        · intro vs wq hG hP hd
          simp only [putL]
          clear hd hP 
          go_wp2
          exact ⟨rfl, rfl, RL_b (by decide) (Below.refl _ _), rfl⟩
        · intro vs wq hG hP hd
          have h1 := hd.get 1 rfl
          change vs 1 = _ at h1
          simp only [putL, h1]
          clear hd hP h1
          go_wp2
          exact ⟨rfl, rfl, RL_b (by decide) (Below.refl _ _), rfl⟩
        · intro vs wq hG hP hd
          have h2 := hd.get 2 rfl
          change vs 2 = _ at h2
          simp only [putL, h2]
          clear hd hP h2
          go_wp2
          exact ⟨rfl, rfl, RL_b (by decide) (Below.refl _ _), rfl⟩
        · intro vs wq hG hP hd
          have h3 := hd.get 3 rfl
          change vs 3 = _ at h3
          have e3q : wq.cell? ⟨s, 3, none⟩ = some (.slice (some ⟨bg, 0, none⟩) hs2.length bc2) := by rw [Lib.cell_of_heap (hP.1 (by decide)).st.at']; rfl
          have hsq := (hP.1 (by decide)).st.lt
          simp only [putL, h3]
          clear hd hP h3
          go_wp2
          exact ⟨rfl, rfl, RL_b (by decide) (Below.refl _ _), rfl⟩
        · intro vs wq hG hP hd
          simp only [putL]
          clear hd hP 
          go_wp2
          exact ⟨rfl, rfl, RL_b (by decide) (Below.refl _ _), rfl⟩
        · intro vs wq hG hP hd
          simp only [putL]
          clear hd hP 
          go_wp2
          exact ⟨rfl, rfl, RL_b (by decide) (Below.refl _ _), rfl⟩
        · intro vs wq hG hP hd
          simp only [putL]
          clear hd hP 
          go_wp2
          exact ⟨rfl, rfl, RL_b (by decide) (Below.refl _ _), rfl⟩
        · intro vs wq hG hP hd
          have h7 := hd.get 7 rfl
          change vs 7 = _ at h7
          simp only [putL, h7]
          clear hd hP h7
          go_wp2
          exact ⟨rfl, rfl, RL_b (by decide) (Below.refl _ _), rfl⟩
        · intro vs wq hG hP hd
          have h8 := hd.get 8 rfl
          change vs 8 = _ at h8
          simp only [putL, h8]
          clear hd hP h8
          go_wp2
          exact ⟨rfl, rfl, RL_b (by decide) (Below.refl _ _), rfl⟩
        · intro vs wq hG hP hd
          have h9 := hd.get 9 rfl
          change vs 9 = _ at h9
          have e3q : wq.cell? ⟨s, 3, none⟩ = some (.slice (some ⟨bg, 0, none⟩) hs2.length bc2) := by rw [Lib.cell_of_heap (hP.1 (by decide)).st.at']; rfl
          have hsq := (hP.1 (by decide)).st.lt
          simp only [putL, h9]
          clear hd hP h9
          go_wp2
          exact ⟨rfl, rfl, RL_b (by decide) (Below.refl _ _), rfl⟩
        · intro vs wq hG hP hd
          have h10 := hd.get 10 rfl
          change vs 10 = _ at h10
          simp only [putL, h10]
          clear hd hP h10
          go_wp2
          exact ⟨rfl, rfl, RL_b (by decide) (Below.refl _ _), rfl⟩
        · intro vs wq hG hP hd
          have h6 := hd.get 6 rfl
          change vs 6 = _ at h6
          have h11 := hd.get 11 rfl
          change vs 11 = _ at h11
          simp only [putL, h6, h11]
          clear hd hP h6 h11
          go_wp2
          exact ⟨rfl, rfl, RL_b (by decide) (Below.refl _ _), rfl⟩
        · intro vs wq hG hP hd
          simp only [putL]
          clear hd hP 
          go_wp2
          exact ⟨rfl, rfl, RL_b (by decide) (Below.refl _ _), rfl⟩
        · intro vs wq hG hP hd
          have h13 := hd.get 13 rfl
          change vs 13 = _ at h13
          simp only [putL, h13]
          clear hd hP h13
          go_wp2
          exact ⟨rfl, rfl, RL_b (by decide) (Below.refl _ _), rfl⟩
        · intro vs wq hG hP hd
          have h14 := hd.get 14 rfl
          change vs 14 = _ at h14
          simp only [putL, h14]
          clear hd hP h14
          go_wp2
          exact ⟨rfl, rfl, RL_b (by decide) (Below.refl _ _), rfl⟩
        · intro vs wq hG hP hd
          have h15 := hd.get 15 rfl
          change vs 15 = _ at h15
          have e3q : wq.cell? ⟨s, 3, none⟩ = some (.slice (some ⟨bg, 0, none⟩) hs2.length bc2) := by rw [Lib.cell_of_heap (hP.1 (by decide)).st.at']; rfl
          have hsq := (hP.1 (by decide)).st.lt
          simp only [putL, h15]
          clear hd hP h15
          go_wp2
          exact ⟨rfl, rfl, RL_b (by decide) (Below.refl _ _), rfl⟩
        · intro vs wq hG hP hd
          simp only [putL]
          clear hd hP 
          go_wp2
          exact ⟨rfl, rfl, RL_b (by decide) (Below.refl _ _), rfl⟩
        · intro vs wq hG hP hd
          have h17 := hd.get 17 rfl
          change vs 17 = _ at h17
          simp only [putL, h17]
          clear hd hP h17
          go_wp2
          exact ⟨rfl, rfl, RL_b (by decide) (Below.refl _ _), rfl⟩
        · intro vs wq hG hP hd
          have h18 := hd.get 18 rfl
          change vs 18 = _ at h18
          simp only [putL, h18]
          clear hd hP h18
          go_wp2
          exact ⟨rfl, rfl, RL_b (by decide) (Below.refl _ _), rfl⟩
        · intro vs wq hG hP hd
          have h19 := hd.get 19 rfl
          change vs 19 = _ at h19
          have e3q : wq.cell? ⟨s, 3, none⟩ = some (.slice (some ⟨bg, 0, none⟩) hs2.length bc2) := by rw [Lib.cell_of_heap (hP.1 (by decide)).st.at']; rfl
          have hsq := (hP.1 (by decide)).st.lt
          simp only [putL, h19]
          clear hd hP h19
          go_wp2
          exact ⟨rfl, rfl, RL_b (by decide) (Below.refl _ _), rfl⟩
        · intro vs wq hG hP hd
          have h20 := hd.get 20 rfl
          change vs 20 = _ at h20
          simp only [putL, h20]
          clear hd hP h20
          go_wp2
          exact ⟨rfl, rfl, RL_b (by decide) (Below.refl _ _), rfl⟩
        · intro vs wq hG hP hd
          have h21 := hd.get 21 rfl
          change vs 21 = _ at h21
          simp only [putL, h21]
          clear hd hP h21
          go_wp2
          exact ⟨rfl, rfl, RL_b (by decide) (Below.refl _ _), rfl⟩
        · intro vs wq hG hP hd
          have h16 := hd.get 16 rfl
          change vs 16 = _ at h16
          have h22 := hd.get 22 rfl
          change vs 22 = _ at h22
          simp only [putL, h16, h22]
          clear hd hP h16 h22
          go_wp2
          exact ⟨rfl, rfl, RL_b (by decide) (Below.refl _ _), rfl⟩
        · intro vs wq hG hP hd
          have h23 := hd.get 23 rfl
          change vs 23 = _ at h23
          have e4q := hP.2.2 rfl
          simp only [putL, h23]
          clear hd hP h23
          go_wp2
          exact ⟨rfl, rfl, RL_b (by decide) (Below.refl _ _), rfl⟩
        · intro vs wq hG hP hd
          have h5 := hd.get 5 rfl
          change vs 5 = _ at h5
          have h12 := hd.get 12 rfl
          change vs 12 = _ at h12
          have h24 := hd.get 24 rfl
          change vs 24 = _ at h24
          have hP0 := hP.1 (by decide)
          have HNX := Lib.hid (NX.out wq hP0)
          simp only [putL, h5, h12, h24]
          clear hd hP hP0 h5 h12 h24
          go_wp2_with fail
          refine HNX.out.mono ?_
          rintro e w2 ⟨v, rfl, hr2, hb2⟩
          go_wp2
          exact ⟨rfl, rfl, RL_b (by decide) hb2, hr2⟩
        · intro vs wq hG hP hd
          have h25 := hd.get 25 rfl
          change S25 wr.heap.size a b E (vs 25) wq at h25
          obtain ⟨gv, cv, hv, hrv⟩ := S25_open h25
          have hG25 := (hP.1 (by decide)).sz
          simp only [putL, hv]
          clear hd hP 
          go_wp2
          exact ⟨rfl, rfl, RL_b (by decide) ((Below.refl _ _).alloc (Nat.le_refl _) _), S26_mk hG25 hrv⟩
        · intro vs wq hG hP hd
          have h4 := hd.get 4 rfl
          change vs 4 = _ at h4
          have h26 := hd.get 26 rfl
          change S26 wr.heap.size a b E (vs 26) wq at h26
          obtain ⟨gx, gv, cv, hv, hgx, hxx, hrv⟩ := h26
          have hP0 := hP.1 (by decide)
          have HP1 := Lib.hid (hP.2.1 rfl)
          have HP2 := Lib.hid hP0
          simp only [putL, h4, hv]
          have HNEW := Lib.hid (hdr_one (x := (some (⟨gv, 0, none⟩ : Addr), E + 1, cv)) hxx)
          have HXX := Lib.hid hxx
          have HRV := Lib.hid hrv
          have HSZ := Lib.hid hP0.st.bel.size
          have HCL := Lib.hid (show hs2.length + [(some (⟨gv, 0, none⟩ : Addr), E + 1, cv)].length ≤ 100000000 by have := HL2.out; simp only [List.length_cons, List.length_nil]; omega)
          clear hd hP hP0 hxx hrv hv h4
          obtain ⟨H1, hH1⟩ : ∃ H1, H1 = hs2 ++ [(some (⟨gv, 0, none⟩ : Addr), E + 1, cv)] := ⟨_, rfl⟩
          have HH1 := Lib.hid hH1
          clear hH1
          go_wp2_with (at_builtin; refine wpList_appK hdr56 rfl _ _ rfl W0.o.heap.size _ hs2 [(some (⟨gv, 0, none⟩ : Addr), E + 1, cv)] H1 HH1.out rfl HP1.out _ 1 rfl HNEW.out HCL.out HSZ.out ?_)
          intro v' w2 ho2 hg2 hb2 hk2
          go_wp2
          exact ⟨rfl, rfl, RL_app HP2.out HP1.out (hdr_kept HX2.out hk2) hg2 rfl, gv, cv, by rw [← HH1.out]; exact ho2, S27_ne (e' := 0) HP2.out HP1.out hg2 ho2, row_grownK HLT.out.2 HRV.out hg2⟩
        · intro vs wq hG hP hd
          have h0 := hd.get 0 rfl
          change vs 0 = _ at h0
          simp only [putL, h0]
          clear hd hP h0
          go_wp2
          exact ⟨rfl, rfl, RL_b (by decide) (Below.refl _ _), rfl⟩
        · intro vs wq hG hP hd
          have h28 := hd.get 28 rfl
          change vs 28 = _ at h28
          simp only [putL, h28]
          clear hd hP h28
          go_wp2
          exact ⟨rfl, rfl, RL_b (by decide) (Below.refl _ _), rfl⟩
        · intro vs wq hG hP hd
          have h27 := hd.get 27 rfl
          change S27 wr.heap.size W0.o.heap.size s a b E hs2 (vs 27) wq at h27
          have h29 := hd.get 29 rfl
          change vs 29 = _ at h29
          obtain ⟨gv, cv, ho, hne, hrv⟩ := h27
          have hP0 := hP.1 (by decide)
          have z3 : wq.frozen? ⟨s, 3, none⟩ = false := Lib.frozen_of_heap hP0.st.at' 3
          have e3q : wq.cell? ⟨s, 3, none⟩ = some (.slice (some ⟨bg, 0, none⟩) hs2.length bc2) := by rw [Lib.cell_of_heap hP0.st.at']; rfl
          have HP0' := Lib.hid hP0
          have HO := Lib.hid ho
          have HNEs := Lib.hid hne
          have HRV := Lib.hid hrv
          obtain ⟨va, vn, vc, hv⟩ := row_slice ho
          rw [hv] at HO HNEs
          simp only [putL, h29, hv]
          clear hd hP hP0 ho hne hrv hv h29
          go_wp2
          exact ⟨rfl, rfl, RL_set, S30_mk (y := undef) HP0'.out HWK.out HLT.out.1 HO.out HNEs.out HRV.out⟩
      · intro vs w9 hG hd
        have h30 := hd.get 30 rfl
        change S30 W0 s m a b pa pb ca cb n N D q F E hs2 (vs 30) w9 at h30
        have h0 := hd.get 0 rfl
        change vs 0 = _ at h0
        have h1 := hd.get 1 rfl
        change vs 1 = _ at h1
        have h2 := hd.get 2 rfl
        change vs 2 = _ at h2
        have h3 := hd.get 3 rfl
        change vs 3 = _ at h3
        have h4 := hd.get 4 rfl
        change vs 4 = _ at h4
        have h5 := hd.get 5 rfl
        change vs 5 = _ at h5
        have h6 := hd.get 6 rfl
        change vs 6 = _ at h6
        have h7 := hd.get 7 rfl
        change vs 7 = _ at h7
        have h8 := hd.get 8 rfl
        change vs 8 = _ at h8
        have h9 := hd.get 9 rfl
        change vs 9 = _ at h9
        have h10 := hd.get 10 rfl
        change vs 10 = _ at h10
        have h11 := hd.get 11 rfl
        change vs 11 = _ at h11
        have h12 := hd.get 12 rfl
        change vs 12 = _ at h12
        have h13 := hd.get 13 rfl
        change vs 13 = _ at h13
        have h14 := hd.get 14 rfl
        change vs 14 = _ at h14
        have h15 := hd.get 15 rfl
        change vs 15 = _ at h15
        have h16 := hd.get 16 rfl
        change vs 16 = _ at h16
        have h17 := hd.get 17 rfl
        change vs 17 = _ at h17
        have h18 := hd.get 18 rfl
        change vs 18 = _ at h18
        have h19 := hd.get 19 rfl
        change vs 19 = _ at h19
        have h20 := hd.get 20 rfl
        change vs 20 = _ at h20
        have h21 := hd.get 21 rfl
        change vs 21 = _ at h21
        have h22 := hd.get 22 rfl
        change vs 22 = _ at h22
        have h23 := hd.get 23 rfl
        change vs 23 = _ at h23
        have h24 := hd.get 24 rfl
        change vs 24 = _ at h24
        have h28 := hd.get 28 rfl
        change vs 28 = _ at h28
        have h29 := hd.get 29 rfl
        change vs 29 = _ at h29
        simp only [putL, List.getD_cons_zero, List.getD_cons_succ, Act.put, List.setIfInBounds_toArray, List.set_cons_zero, List.set_cons_succ, h0, h1, h2, h3, h4, h5, h6, h7, h8, h9, h10, h11, h12, h13, h14, h15, h16, h17, h18, h19, h20, h21, h22, h23, h24, h28, h29]
        clear hd h0 h1 h2 h3 h4 h5 h6 h7 h8 h9 h10 h11 h12 h13 h14 h15 h16 h17 h18 h19 h20 h21 h22 h23 h24 h28 h29
        obtain ⟨vb, gv, cv, hst, hmp, hsv, hrs, hrow, hrv⟩ := h30
        go_wp2
        go_roundg (gk - 1)
        case measure => have := HG.out; omega
        case rel => exact ⟨vb, hs2 ++ [(some ⟨gv, 0, none⟩, E + 1, cv)], by have := HG.out; simp; omega, by simp, by simp; have := HQ.out; omega, hst, hmp, hsv, hrow, by have h1 := HE.out; have h2 := HI.out; exact rows_snoc' (by omega) hrs hrv⟩
    · have g1 : decide ((hs2.length : Int) ≤ r) = false := decide_eq_false (by omega)
      have hrl : r < hs2.length := by omega
      obtain ⟨x, hx⟩ : ∃ x, hs2[r]? = some x := ⟨_, List.getElem?_eq_getElem hrl⟩
      obtain ⟨g, c, hxe, hrow⟩ := HRS.out r x hx
      have hat := HR.out.at hx
      have e4 : wr.cell? ⟨bg, r, none⟩ = some (.slice (some ⟨g, 0, none⟩) (64 * q + r + 1) c) := by
        have := hdr_cell (o := 0) (by simpa using hat)
        rw [hxe] at this; simpa using this
      have hrz : (r : Int) < hs2.length := by omega
      have HROW := Lib.hid (show (numR .i32).row 21 W0.o.heap.size (PL a b d) (.slice (some ⟨g, 0, none⟩) (64 * q + r + 1) c) wr by rw [HQ.out.1]; exact hrow)
      have HBK := Lib.hid (show Blk wr W0.o.heap.size a b (.slice (some ⟨bg, 0, none⟩) hs2.length bc2) (F : Int) from ⟨hs2, HR.out, .inr ⟨HNE.out, q, by rw [HQ.out.2.2], hl2, HRS.out⟩⟩)
      clear hx hxe hrow hat
      go_wp2
      go_ret
      unfold ListPost
      exact ⟨_, _, _, rfl, HROW.out, HT.out, HM.out, HS.out, HBK.out⟩
end Go.Proofs.Ytipoifokcnbfnaa
