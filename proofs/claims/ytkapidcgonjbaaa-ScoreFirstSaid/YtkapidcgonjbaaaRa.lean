/- The closures of Rank. -/
import Derived.Test.YtkapidcgonjbaaaI
namespace Go.Proofs.Ytkapidcgonjbaaa
open Go.RowKit
set_option linter.unusedVariables false

/-- A new slice of two numbers. -/
def row2 (a b : Int) : Value → World → Prop := fun v w => ∃ g, v = .slice (some ⟨g, 0, none⟩) 2 2 ∧ w.heap[g]? = some (.cells #[.int .i64 a, .int .i64 b] 3)
theorem row2_st (a b : Int) : ∀ v w w', row2 a b v w → Gr w w' → row2 a b v w' :=
  fun _ _ _ ⟨g, hv, hg⟩ hb => ⟨g, hv, (hb.below.block g (Array.getElem?_eq_some_iff.1 hg).1).trans hg⟩

/-- What Rank's closures find: a block that holds the slice; the slice holds the floats. -/
def BoxW (p : Nat) (l : List Nat) (w : World) : Prop := p < w.heap.size ∧ ∃ b off cap, w.cell? ⟨p, 0, none⟩ = some (.slice (some ⟨b, off, none⟩) l.length cap) ∧ fltR.In w (some ⟨b, off, none⟩) l
theorem BoxW.below {p : Nat} {l : List Nat} {w w' : World} (h : BoxW p l w) (hb : Below w.heap.size w w') : BoxW p l w' := by
  obtain ⟨h1, b, off, cap, h2, h3⟩ := h
  exact ⟨Nat.lt_of_lt_of_le h1 hb.size, b, off, cap, (hb.cell (p := ⟨p, 0, none⟩) h1).trans h2, h3.below hb⟩
/-- A NaN goes last. -/
def lastOf (x : Nat) : Int := if isN x = true then 1 else 0
def fAt (l : List Nat) (i : Nat) : Nat := l.getD i 0
theorem BoxW.cells {p : Nat} {l : List Nat} {w : World} (h : BoxW p l w) (i : Nat) (hi : i < l.length) : ∃ b off cap, w.cell? ⟨p, 0, none⟩ = some (.slice (some ⟨b, off, none⟩) l.length cap) ∧
    (∀ j, j < l.length → w.cell? ⟨b, off + j, none⟩ = some (.float .f64 (fAt l j)) ∧ fAt l j < 18446744073709551616) ∧ b < w.heap.size := by
  obtain ⟨h1, b, off, cap, h2, h3⟩ := h
  refine ⟨b, off, cap, h2, fun j hj => ?_, ?_⟩
  · rcases h3.2 with rfl | ⟨b', off', he, hlt, hc⟩
    · simp at hj
    · cases he
      have hk : l[j]? = some (fAt l j) := by simp [fAt, List.getD_eq_getElem?_getD, hj]
      exact ⟨flt_cell (hc j _ hk), h3.1 _ (List.mem_of_getElem? hk)⟩
  · rcases h3.2 with rfl | ⟨b', off', he, hlt, hc⟩
    · simp at hi
    · cases he; exact hlt

set_option maxHeartbeats 1000000 in
set_option maxRecDepth 100000 in
theorem rk1_any (p : Nat) (l : List Nat) (w : World) (h : BoxW p l w) (i : Nat) (hi : i < l.length) :
    Calls Try.prog 45 #[.int .i64 (i : Int), .pointer (some ⟨p, 0, none⟩)] w fun e w' => e = .returned (.int .i64 (lastOf (fAt l i))) ∧ w = w' := by
  obtain ⟨b, off, cap, e1, hc, hb⟩ := h.cells i hi
  obtain ⟨e2, _⟩ := hc i hi
  have hp := h.1
  have i1 : (i : Int) < l.length := by omega
  clear hc h
  generalize fAt l i = x at *
  cases hx : isN x with
  | true =>
    have HX := Lib.hid hx
    have HL := Lib.hid (show lastOf x = 1 by unfold lastOf; rw [if_pos hx])
    clear hx
    go_enter Try.func45, Try.ntmps45
    go_wp2_with fail
    refine (isNaN_any x _).mono ?_
    rintro e w1 ⟨rfl, rfl⟩
    rw [HX.out]
    go_wp2
    go_ret
    exact ⟨ret_i HL.out.symm, rfl⟩
  | false =>
    have HX := Lib.hid hx
    have HL := Lib.hid (show lastOf x = 0 by unfold lastOf; rw [if_neg (by rw [hx]; decide)])
    clear hx
    go_enter Try.func45, Try.ntmps45
    go_wp2_with fail
    refine (isNaN_any x _).mono ?_
    rintro e w1 ⟨rfl, rfl⟩
    rw [HX.out]
    go_wp2
    go_ret
    exact ⟨ret_i HL.out.symm, rfl⟩

/-- The order of places: NaN last, the larger first. -/
def rkCmp (l : List Nat) (i j : Nat) : Int := or2 (cmpInt (lastOf (fAt l i)) (lastOf (fAt l j))) (fOrd (fAt l j) (fAt l i))
/-- What the second closure finds. -/
def BoxF (p c : Nat) (l : List Nat) (w : World) : Prop := BoxW p l w ∧ c < w.heap.size ∧ w.cell? ⟨c, 0, none⟩ = some (.func (.func 45) #[] #[.pointer (some ⟨p, 0, none⟩)])
theorem BoxF.below {p c : Nat} {l : List Nat} {w w' : World} (h : BoxF p c l w) (hb : Below w.heap.size w w') : BoxF p c l w' :=
  ⟨h.1.below hb, Nat.lt_of_lt_of_le h.2.1 hb.size, (hb.cell (p := ⟨c, 0, none⟩) h.2.1).trans h.2.2⟩

set_option maxHeartbeats 4000000 in
set_option maxRecDepth 100000 in
theorem rk2_any (p c : Nat) (l : List Nat) (w : World) (h : BoxF p c l w) (i j : Nat) (hi : i < l.length) (hj : j < l.length) :
    Calls Try.prog 47 #[.int .i64 (i : Int), .int .i64 (j : Int), .pointer (some ⟨c, 0, none⟩), .pointer (some ⟨p, 0, none⟩)] w fun e w' => e = .returned (.int .i64 (rkCmp l i j)) ∧ Gr w w' := by
  obtain ⟨b, off, cap, e1, hc, hb⟩ := h.1.cells i hi
  obtain ⟨e2, x2⟩ := hc i hi
  obtain ⟨e3, x3⟩ := hc j hj
  have hp := h.1.1
  have hcl := h.2.1
  have e4 := h.2.2
  have HB := Lib.hid h.1
  have H1 := Lib.hid hi
  have H2 := Lib.hid hj
  have X2 := Lib.hid x2
  have X3 := Lib.hid x3
  have i1 : (i : Int) < l.length := by omega
  have i2 : (j : Int) < l.length := by omega
  have HK := Lib.hid (show rkCmp l i j = or2 (cmpInt (lastOf (fAt l i)) (lastOf (fAt l j))) (fOrd (fAt l j) (fAt l i)) from rfl)
  have Q1 := Lib.hid (fun w' (hw : Below w.heap.size w w') => rk1_any p l w' (HB.out.below hw) i hi)
  have Q2 := Lib.hid (fun w' (hw : Below w.heap.size w w') => rk1_any p l w' (HB.out.below hw) j hj)
  clear hc h x2 x3 HB hi hj
  generalize rkCmp l i j = R at *
  generalize fAt l i = x at *
  generalize fAt l j = y at *
  generalize lastOf x = u at *
  generalize lastOf y = v at *
  have enters45 : ∀ args w, (callFunc 45 args).run Try.prog w = .ok (.enter 45 args) w := enters_of Try.func45 (by kernel_rfl) rfl
  go_enter Try.func47, Try.ntmps47
  go_upto_region 1 with fail
  apply wp_region_specsG [[], [], [0, 1], [], [], [3, 4], [2, 5], [], [], [7, 8], [9], [], [], [11, 12], [13], [10, 14], [6, 15], [16], [17]] [some 7, some 8, some 9, some 10, some 11, some 12, some 13, some 14, some 15, some 16, some 17, some 18, some 19, some 20, some 21, some 22, some 23, some 24, some 6] [0, 1, 2, 3, 4, 5, 6, 7, 8, 9, 10, 11, 12, 13, 14, 15, 16, 17, 18]
    [eqv _, eqv _, eqv _, eqv _, eqv _, eqv _, eqv _, eqv _, eqv _, eqv _, eqv _, eqv _, eqv _, eqv _, eqv _, eqv _, row2 (cmpInt u v) (fOrd y x), eqv _, eqv _]
  case hm => kernel_rfl
  case hok => kernel_rfl
  case hop =>
    refine ⟨?_, ?_, ?_, ?_, ?_, ?_, ?_, ?_, ?_, ?_, ?_, ?_, ?_, ?_, ?_, ?_, ?_, ?_, ?_, trivial⟩
    · intro vs w1 hr _ hd
      obtain ⟨x1, rfl⟩ := ov_of hr.below
      clear hr
      simp only [putL]
      clear hd 
      go_wp2
      exact opEnds_mk rfl (by simp only [List.getElem?_toArray, List.getElem?_cons_succ, List.getElem?_cons_zero] <;> rfl) rfl (Gr.refl _) rfl
    · intro vs w1 hr _ hd
      obtain ⟨x1, rfl⟩ := ov_of hr.below
      clear hr
      simp only [putL]
      clear hd 
      go_wp2
      exact opEnds_mk rfl (by simp only [List.getElem?_toArray, List.getElem?_cons_succ, List.getElem?_cons_zero] <;> rfl) rfl (Gr.refl _) rfl
    · intro vs w1 hr _ hd
      obtain ⟨x1, rfl⟩ := ov_of hr.below
      clear hr
      have h0 := hd.get 0 rfl
      change vs 0 = _ at h0
      have h1 := hd.get 1 rfl
      change vs 1 = _ at h1
      simp only [putL, h0, h1]
      clear hd h0 h1
      go_wp2_with fail
      refine (Q1.out _ (ov_below _ _)).mono ?_
      rintro e w2 ⟨rfl, rfl⟩
      go_wp2
      exact opEnds_mk rfl (by simp only [List.getElem?_toArray, List.getElem?_cons_succ, List.getElem?_cons_zero] <;> rfl) rfl (Gr.refl _) rfl
    · intro vs w1 hr _ hd
      obtain ⟨x1, rfl⟩ := ov_of hr.below
      clear hr
      simp only [putL]
      clear hd 
      go_wp2
      exact opEnds_mk rfl (by simp only [List.getElem?_toArray, List.getElem?_cons_succ, List.getElem?_cons_zero] <;> rfl) rfl (Gr.refl _) rfl
    · intro vs w1 hr _ hd
      obtain ⟨x1, rfl⟩ := ov_of hr.below
      clear hr
      simp only [putL]
      clear hd 
      go_wp2
      exact opEnds_mk rfl (by simp only [List.getElem?_toArray, List.getElem?_cons_succ, List.getElem?_cons_zero] <;> rfl) rfl (Gr.refl _) rfl
    · intro vs w1 hr _ hd
      obtain ⟨x1, rfl⟩ := ov_of hr.below
      clear hr
      have h3 := hd.get 3 rfl
      change vs 3 = _ at h3
      have h4 := hd.get 4 rfl
      change vs 4 = _ at h4
      simp only [putL, h3, h4]
      clear hd h3 h4
      go_wp2_with fail
      refine (Q2.out _ (ov_below _ _)).mono ?_
      rintro e w2 ⟨rfl, rfl⟩
      go_wp2
      exact opEnds_mk rfl (by simp only [List.getElem?_toArray, List.getElem?_cons_succ, List.getElem?_cons_zero] <;> rfl) rfl (Gr.refl _) rfl
    · intro vs w1 hr _ hd
      obtain ⟨x1, rfl⟩ := ov_of hr.below
      clear hr
      have h2 := hd.get 2 rfl
      change vs 2 = _ at h2
      have h5 := hd.get 5 rfl
      change vs 5 = _ at h5
      simp only [putL, h2, h5]
      clear hd h2 h5
      go_wp2_with fail
      refine (cmpI u v _).mono ?_
      rintro e w2 ⟨rfl, rfl⟩
      go_wp2
      exact opEnds_mk rfl (by simp only [List.getElem?_toArray, List.getElem?_cons_succ, List.getElem?_cons_zero] <;> rfl) rfl (Gr.refl _) rfl
    · intro vs w1 hr _ hd
      obtain ⟨x1, rfl⟩ := ov_of hr.below
      clear hr
      simp only [putL]
      clear hd 
      go_wp2
      exact opEnds_mk rfl (by simp only [List.getElem?_toArray, List.getElem?_cons_succ, List.getElem?_cons_zero] <;> rfl) rfl (Gr.refl _) rfl
    · intro vs w1 hr _ hd
      obtain ⟨x1, rfl⟩ := ov_of hr.below
      clear hr
      simp only [putL]
      clear hd 
      go_wp2
      exact opEnds_mk rfl (by simp only [List.getElem?_toArray, List.getElem?_cons_succ, List.getElem?_cons_zero] <;> rfl) rfl (Gr.refl _) rfl
    · intro vs w1 hr _ hd
      obtain ⟨x1, rfl⟩ := ov_of hr.below
      clear hr
      have h7 := hd.get 7 rfl
      change vs 7 = _ at h7
      have h8 := hd.get 8 rfl
      change vs 8 = _ at h8
      simp only [putL, h7, h8]
      clear hd h7 h8
      go_wp2
      exact opEnds_mk rfl (by simp only [List.getElem?_toArray, List.getElem?_cons_succ, List.getElem?_cons_zero] <;> rfl) rfl (Gr.refl _) rfl
    · intro vs w1 hr _ hd
      obtain ⟨x1, rfl⟩ := ov_of hr.below
      clear hr
      have h9 := hd.get 9 rfl
      change vs 9 = _ at h9
      simp only [putL, h9]
      clear hd h9
      go_wp2
      exact opEnds_mk rfl (by simp only [List.getElem?_toArray, List.getElem?_cons_succ, List.getElem?_cons_zero] <;> rfl) rfl (Gr.refl _) rfl
    · intro vs w1 hr _ hd
      obtain ⟨x1, rfl⟩ := ov_of hr.below
      clear hr
      simp only [putL]
      clear hd 
      go_wp2
      exact opEnds_mk rfl (by simp only [List.getElem?_toArray, List.getElem?_cons_succ, List.getElem?_cons_zero] <;> rfl) rfl (Gr.refl _) rfl
    · intro vs w1 hr _ hd
      obtain ⟨x1, rfl⟩ := ov_of hr.below
      clear hr
      simp only [putL]
      clear hd 
      go_wp2
      exact opEnds_mk rfl (by simp only [List.getElem?_toArray, List.getElem?_cons_succ, List.getElem?_cons_zero] <;> rfl) rfl (Gr.refl _) rfl
    · intro vs w1 hr _ hd
      obtain ⟨x1, rfl⟩ := ov_of hr.below
      clear hr
      have h11 := hd.get 11 rfl
      change vs 11 = _ at h11
      have h12 := hd.get 12 rfl
      change vs 12 = _ at h12
      simp only [putL, h11, h12]
      clear hd h11 h12
      go_wp2
      exact opEnds_mk rfl (by simp only [List.getElem?_toArray, List.getElem?_cons_succ, List.getElem?_cons_zero] <;> rfl) rfl (Gr.refl _) rfl
    · intro vs w1 hr _ hd
      obtain ⟨x1, rfl⟩ := ov_of hr.below
      clear hr
      have h13 := hd.get 13 rfl
      change vs 13 = _ at h13
      simp only [putL, h13]
      clear hd h13
      go_wp2
      exact opEnds_mk rfl (by simp only [List.getElem?_toArray, List.getElem?_cons_succ, List.getElem?_cons_zero] <;> rfl) rfl (Gr.refl _) rfl
    · intro vs w1 hr _ hd
      obtain ⟨x1, rfl⟩ := ov_of hr.below
      clear hr
      have h10 := hd.get 10 rfl
      change vs 10 = _ at h10
      have h14 := hd.get 14 rfl
      change vs 14 = _ at h14
      simp only [putL, h10, h14]
      clear hd h10 h14
      go_wp2_with fail
      refine (order_any y x X3.out X2.out _).mono ?_
      rintro e w2 ⟨rfl, rfl⟩
      go_wp2
      exact opEnds_mk rfl (by simp only [List.getElem?_toArray, List.getElem?_cons_succ, List.getElem?_cons_zero] <;> rfl) rfl (Gr.refl _) rfl
    · intro vs w1 hr _ hd
      obtain ⟨x1, rfl⟩ := ov_of hr.below
      clear hr
      have h6 := hd.get 6 rfl
      change vs 6 = _ at h6
      have h15 := hd.get 15 rfl
      change vs 15 = _ at h15
      simp only [putL, h6, h15]
      clear hd h6 h15
      go_wp2
      exact opEnds_mk rfl (by simp only [List.getElem?_toArray, List.getElem?_cons_succ, List.getElem?_cons_zero] <;> rfl) rfl (Gr.alloc _ _) ⟨_, rfl, (MapKept.heap_alloc _ _).1⟩
    · intro vs w1 hr _ hd
      obtain ⟨x1, rfl⟩ := ov_of hr.below
      clear hr
      have h16 := hd.get 16 rfl
      obtain ⟨g16, h16e, h16g⟩ := h16
      simp only [putL, h16e]
      clear hd h16e
      go_wp2_with fail
      refine (cmpOr2 (cmpInt u v) (fOrd y x) g16 _ (by rw [Lib.cell_of_heap h16g]; rfl) (by rw [Lib.cell_of_heap h16g]; rfl)).mono ?_
      rintro e w2 ⟨rfl, rfl⟩
      go_wp2
      exact opEnds_mk rfl (by simp only [List.getElem?_toArray, List.getElem?_cons_succ, List.getElem?_cons_zero] <;> rfl) rfl (Gr.refl _) rfl
    · intro vs w1 hr _ hd
      obtain ⟨x1, rfl⟩ := ov_of hr.below
      clear hr
      have h17 := hd.get 17 rfl
      change vs 17 = _ at h17
      simp only [putL, h17]
      clear hd h17
      go_wp2
      exact opEnds_mk rfl (by simp only [List.getElem?_toArray, List.getElem?_cons_succ, List.getElem?_cons_zero] <;> rfl) rfl (Gr.refl _) rfl
  case hst => exact ⟨eqv_st _ _, eqv_st _ _, eqv_st _ _, eqv_st _ _, eqv_st _ _, eqv_st _ _, eqv_st _ _, eqv_st _ _, eqv_st _ _, eqv_st _ _, eqv_st _ _, eqv_st _ _, eqv_st _ _, eqv_st _ _, eqv_st _ _, eqv_st _ _, row2_st _ _, eqv_st _ _, eqv_st _ _, trivial⟩
  case hend =>
    intro vs w1 hr hd
    have h0 := hd.get 0 rfl
    change vs 0 = _ at h0
    have h1 := hd.get 1 rfl
    change vs 1 = _ at h1
    have h2 := hd.get 2 rfl
    change vs 2 = _ at h2
    have h3 := hd.get 3 rfl
    change vs 3 = _ at h3
    have h4 := hd.get 4 rfl
    change vs 4 = _ at h4
    have h5 := hd.get 5 rfl
    change vs 5 = _ at h5
    have h6 := hd.get 6 rfl
    change vs 6 = _ at h6
    have h7 := hd.get 7 rfl
    change vs 7 = _ at h7
    have h8 := hd.get 8 rfl
    change vs 8 = _ at h8
    have h9 := hd.get 9 rfl
    change vs 9 = _ at h9
    have h10 := hd.get 10 rfl
    change vs 10 = _ at h10
    have h11 := hd.get 11 rfl
    change vs 11 = _ at h11
    have h12 := hd.get 12 rfl
    change vs 12 = _ at h12
    have h13 := hd.get 13 rfl
    change vs 13 = _ at h13
    have h14 := hd.get 14 rfl
    change vs 14 = _ at h14
    have h15 := hd.get 15 rfl
    change vs 15 = _ at h15
    have h16 := hd.get 16 rfl
    have h17 := hd.get 17 rfl
    change vs 17 = _ at h17
    have h18 := hd.get 18 rfl
    change vs 18 = _ at h18
    have HGR := Lib.hid hr
    obtain ⟨x1, rfl⟩ := ov_of hr.below
    simp only [putL, List.getD_cons_zero, List.getD_cons_succ, Act.put, List.setIfInBounds_toArray, List.set_cons_zero, List.set_cons_succ, h0, h1, h2, h3, h4, h5, h6, h7, h8, h9, h10, h11, h12, h13, h14, h15, h17, h18]
    clear hd hr h0 h1 h2 h3 h4 h5 h6 h7 h8 h9 h10 h11 h12 h13 h14 h15 h17 h18
    go_wp2
    go_ret
    exact ⟨ret_i HK.out.symm, HGR.out⟩

end Go.Proofs.Ytkapidcgonjbaaa
