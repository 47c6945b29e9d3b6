/- The laws OrderCompares and OrderTotal: walks from what their arguments hold. -/
import Derived.Test.YteielgdgmmeciaaHl
namespace Go.Proofs.Yteielgdgmmeciaa
open Go.RowKit Go.WideShapes Go.ChangeShapes Go.ChangeMaps
set_option linter.unusedVariables false

theorem key3_new (w : World) (t1 : Int) (c1 : List UInt8) (i1 t2 : Int) (c2 : List UInt8) (i2 t3 : Int) (c3 : List UInt8) (i3 : Int) (h1 : c1.length = 32) (h2 : c2.length = 32) (h3 : c3.length = 32) (W : World)
    (hW : W = ((w.alloc (.cells (keyB t1 c1 i1) 25)).alloc (.cells (keyB t2 c2 i2) 25)).alloc (.cells (keyB t3 c3 i3) 25)) :
    (fits W ⟨w.heap.size, 0, none⟩ 34 ∧ aggAt W ⟨w.heap.size, 0, none⟩ 34 = keyB t1 c1 i1) ∧ (fits W ⟨w.heap.size + 1, 0, none⟩ 34 ∧ aggAt W ⟨w.heap.size + 1, 0, none⟩ 34 = keyB t2 c2 i2) ∧
    (fits W ⟨w.heap.size + 1 + 1, 0, none⟩ 34 ∧ aggAt W ⟨w.heap.size + 1 + 1, 0, none⟩ 34 = keyB t3 c3 i3) ∧ Below w.heap.size w W := by
  have b1 := (Below.refl w.heap.size w).alloc (Nat.le_refl _) (.cells (keyB t1 c1 i1) 25)
  have b2 := (Below.refl (w.alloc (.cells (keyB t1 c1 i1) 25)).heap.size (w.alloc (.cells (keyB t1 c1 i1) 25))).alloc (Nat.le_refl _) (.cells (keyB t2 c2 i2) 25)
  have b3 := (Below.refl ((w.alloc (.cells (keyB t1 c1 i1) 25)).alloc (.cells (keyB t2 c2 i2) 25)).heap.size ((w.alloc (.cells (keyB t1 c1 i1) 25)).alloc (.cells (keyB t2 c2 i2) 25))).alloc (Nat.le_refl _) (.cells (keyB t3 c3 i3) 25)
  have k1 := key_below b3 (key_below b2 (key_new w t1 c1 i1 h1))
  have k2 := key_below b3 (key_new (w.alloc (.cells (keyB t1 c1 i1) 25)) t2 c2 i2 h2)
  have k3 := key_new ((w.alloc (.cells (keyB t1 c1 i1) 25)).alloc (.cells (keyB t2 c2 i2) 25)) t3 c3 i3 h3
  simp only [World.size_alloc] at k2 k3
  have hb := b1.trans ((b2.trans (b3.mono b2.size)).mono b1.size)
  rw [← hW] at k1 k2 k3 hb
  exact ⟨k1.1, k2.1, k3.1, hb⟩

set_option maxHeartbeats 4000000 in
set_option maxRecDepth 100000 in
theorem total_any (t1 : Int) (c1 : List UInt8) (i1 t2 : Int) (c2 : List UInt8) (i2 t3 : Int) (c3 : List UInt8) (i3 : Int) (h1 : c1.length = 32) (h2 : c2.length = 32) (h3 : c3.length = 32) (w : World) :
    Calls Try.prog 6 #[.agg (keyB t1 c1 i1), .agg (keyB t2 c2 i2), .agg (keyB t3 c3 i3)] w fun e w' => e = .returned (.bool true) ∧ Below w.heap.size w w' := by
  have C12 := fun W => keys_any t1 c1 i1 t2 c2 i2 h1 h2 W
  have C23 := fun W => keys_any t2 c2 i2 t3 c3 i3 h2 h3 W
  have C13 := fun W => keys_any t1 c1 i1 t3 c3 i3 h1 h3 W
  have C21 := fun W => keys_any t2 c2 i2 t1 c1 i1 h2 h1 W
  have ht := keys_trans t1 c1 i1 t2 c2 i2 t3 c3 i3
  have hx := keys_three t1 c1 i1 t2 c2 i2
  have hy := keys_three t2 c2 i2 t3 c3 i3
  have hz := keys_three t1 c1 i1 t3 c3 i3
  have HQ := Lib.hid (keys_zero t1 c1 i1 t2 c2 i2)
  rw [keys_anti t1 c1 i1 t2 c2 i2] at C21
  generalize keysCmp t1 c1 i1 t2 c2 i2 = x at *
  generalize keysCmp t2 c2 i2 t3 c3 i3 = y at *
  generalize keysCmp t1 c1 i1 t3 c3 i3 = z at *
  have D12 := Lib.hid C12
  have D23 := Lib.hid C23
  have D13 := Lib.hid C13
  have D21 := Lib.hid C21
  have HC := Lib.hid (show (x = 1) ∨ (x = -1 ∧ y = 1) ∨ (x = 0 ∧ y = 1) ∨ (x = -1 ∧ y = -1 ∧ z = -1) ∨ (x = -1 ∧ y = 0 ∧ z = -1) ∨ (x = 0 ∧ y = -1 ∧ z = -1) ∨ (x = 0 ∧ y = 0 ∧ z = 0) by clear D12 D23 D13 D21 HQ; rcases hx with rfl | rfl | rfl <;> rcases hy with rfl | rfl | rfl <;> rcases hz with rfl | rfl | rfl <;> first | (simp at ht; done) | (simp; done) | (exfalso; have := ht (by decide) (by decide); revert this; decide))
  clear C12 C23 C13 C21 ht hx hy hz
  obtain ⟨W, hW⟩ : ∃ W, W = ((w.alloc (.cells (keyB t1 c1 i1) 25)).alloc (.cells (keyB t2 c2 i2) 25)).alloc (.cells (keyB t3 c3 i3) 25) := ⟨_, rfl⟩
  obtain ⟨⟨d1, d2⟩, ⟨d3, d4⟩, ⟨d5, d6⟩, hb⟩ := key3_new w t1 c1 i1 t2 c2 i2 t3 c3 i3 h1 h2 h3 W hW
  have HB := Lib.hid hb
  clear hb
  go_enter Try.func6, Try.ntmps6
  go_upto_region 1 with fail
  rw [← hW]
  clear hW
  refine wp_region_over (by kernel_rfl) (by kernel_rfl) ?_
  repeat (go_big_quiet_step (first
    | (with_reducible exact Calls.over_of (D12.out _))
    | (with_reducible exact Calls.over_of (D23.out _))
    | (with_reducible exact Calls.over_of (D13.out _))))
  refine wpQuiet_nil ?_
  rintro _ ⟨x0, rfl⟩
  have HB1 := Lib.hid (HB.out.trans ((ov_below W x0).mono HB.out.size))
  have g1 := fits_ov W x0 _ _ d1
  have g2 := (agg_ov W x0 _ _ d1).trans d2
  have g3 := fits_ov W x0 _ _ d3
  have g4 := (agg_ov W x0 _ _ d3).trans d4
  clear d1 d2 d3 d4 d5 d6
  generalize ov W x0 = W at *
  rcases HC.out with rfl | ⟨rfl, rfl⟩ | ⟨rfl, rfl⟩ | ⟨rfl, rfl, rfl⟩ | ⟨rfl, rfl, rfl⟩ | ⟨rfl, rfl, rfl⟩ | ⟨rfl, rfl, rfl⟩
  all_goals
    go_wp2_with fail
    refine (D21.out _).mono ?_
    rintro e w1 ⟨rfl, hb1⟩
    obtain ⟨x1, rfl⟩ := ov_of hb1
    clear HC
    have HB2 := Lib.hid (HB1.out.trans ((ov_below W x1).mono HB1.out.size))
    have g5 := fits_ov W x1 _ _ g1
    have g6 := (agg_ov W x1 _ _ g1).trans g2
    have g7 := fits_ov W x1 _ _ g3
    have g8 := (agg_ov W x1 _ _ g3).trans g4
    clear g1 g2 g3 g4 hb1
    have hq := HQ.out
    simp only [Int.reduceNeg, Int.reduceEq, decide_true, decide_false] at hq
    generalize ov W x1 = W at *
    go_wp2_with fail
    refine (awake_any _).mono ?_
    rintro e w2 ⟨rfl, hb2⟩
    have HB3 := Lib.hid (HB2.out.trans (hb2.mono HB2.out.size))
    clear hb2
    go_wp2
    go_ret
    exact ⟨rfl, HB3.out⟩

theorem ok_agg {W : World} {b0 : Nat} {t : TypeId} {v : Value} {fs : Array Field} (hu : Try.prog.underlying t = some (.struct fs)) (h : Value.okWide Try.prog W .any b0 t v) : ∃ cs, v = .agg cs := by
  unfold Value.okWide at h
  rw [hu] at h
  obtain ⟨cs, h, _⟩ := h
  exact ⟨cs, h⟩
theorem ok_arr {W : World} {b0 : Nat} {t : TypeId} {v : Value} {n : Nat} {e : TypeId} (hu : Try.prog.underlying t = some (.array n e)) (h : Value.okWide Try.prog W .any b0 t v) : ∃ cs, v = .agg cs := by
  unfold Value.okWide at h
  rw [hu] at h
  obtain ⟨cs, h, _⟩ := h
  exact ⟨cs, h⟩

theorem orderCompares_walk {H : Type} {enc : TypeId × Value → H} {W : World} {b0 : Nat} {v0 v1 : Value} {d0 d1 : DataW H} {p0 p1 : List MemPlace}
    (k0 : Value.okWide Try.prog W .any b0 25 v0) (h0 : DataW.Trod enc Try.prog W 0 (fun _ => true) true 25 v0 d0 p0) (k1 : Value.okWide Try.prog W .any b0 25 v1) (h1 : DataW.Trod enc Try.prog W 0 (fun _ => true) true 25 v1 d1 p1) :
    Calls Try.prog 3 #[v0, v1] W fun e w' => e = .returned (.bool true) ∧ Below W.heap.size W w' := by
  obtain ⟨t, c, i, hc, rfl⟩ := reads_key (ok_agg Try.underlying25 k0) h0
  obtain ⟨t', c', i', hc', rfl⟩ := reads_key (ok_agg Try.underlying25 k1) h1
  exact compares_any t c i t' c' i' hc hc' W

theorem orderTotal_walk {H : Type} {enc : TypeId × Value → H} {W : World} {b0 : Nat} {v0 v1 v2 : Value} {d0 d1 d2 : DataW H} {p0 p1 p2 : List MemPlace}
    (k0 : Value.okWide Try.prog W .any b0 25 v0) (h0 : DataW.Trod enc Try.prog W 0 (fun _ => true) true 25 v0 d0 p0) (k1 : Value.okWide Try.prog W .any b0 25 v1) (h1 : DataW.Trod enc Try.prog W 0 (fun _ => true) true 25 v1 d1 p1)
    (k2 : Value.okWide Try.prog W .any b0 25 v2) (h2 : DataW.Trod enc Try.prog W 0 (fun _ => true) true 25 v2 d2 p2) :
    Calls Try.prog 6 #[v0, v1, v2] W fun e w' => e = .returned (.bool true) ∧ Below W.heap.size W w' := by
  obtain ⟨t, c, i, hc, rfl⟩ := reads_key (ok_agg Try.underlying25 k0) h0
  obtain ⟨t', c', i', hc', rfl⟩ := reads_key (ok_agg Try.underlying25 k1) h1
  obtain ⟨t2, c2, i2, hc2, rfl⟩ := reads_key (ok_agg Try.underlying25 k2) h2
  exact total_any t c i t' c' i' t2 c2 i2 hc hc' hc2 W

end Go.Proofs.Yteielgdgmmeciaa
