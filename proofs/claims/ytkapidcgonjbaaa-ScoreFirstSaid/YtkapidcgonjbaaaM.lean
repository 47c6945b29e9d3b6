/- The closure of Match: how two pairs compare. -/
import Derived.Test.YtkapidcgonjbaaaL
import Derived.Test.YtkapidcgonjbaaaGr
namespace Go.Proofs.Ytkapidcgonjbaaa
open Go.RowKit
set_option linter.unusedVariables false

/-- A new slice of three numbers. -/
def row3 (a b c : Int) : Value → World → Prop := fun v w => ∃ g, v = .slice (some ⟨g, 0, none⟩) 3 3 ∧ w.heap[g]? = some (.cells #[.int .i64 a, .int .i64 b, .int .i64 c] 3)
theorem row3_st (a b c : Int) : ∀ v w w', row3 a b c v w → Gr w w' → row3 a b c v w' :=
  fun _ _ _ ⟨g, hv, hg⟩ hb => ⟨g, hv, (hb.below.block g (Array.getElem?_eq_some_iff.1 hg).1).trans hg⟩

/-- A pair: its row, its column, its number. -/
abbrev Pr := Int × Int × Nat
def prB (p : Pr) : Array Value := #[.int .i64 p.1, .int .i64 p.2.1, .float .f64 p.2.2]
/-- How Match's closure compares. -/
def pCmp (p q : Pr) : Int := or3 (fOrd q.2.2 p.2.2) (cmpInt p.1 q.1) (cmpInt p.2.1 q.2.1)

set_option maxHeartbeats 4000000 in
set_option maxRecDepth 100000 in
theorem pcmp_any (p q : Pr) (hp : p.2.2 < 18446744073709551616) (hq : q.2.2 < 18446744073709551616) (w : World) :
    Calls Try.prog 40 #[.agg (prB p), .agg (prB q)] w fun e w' => e = .returned (.int .i64 (pCmp p q)) ∧ Gr w w' := by
  obtain ⟨r1, c1, s1⟩ := p
  obtain ⟨r2, c2, s2⟩ := q
  simp only [prB, pCmp] at *
  have HP := Lib.hid hp
  have HQ := Lib.hid hq
  clear hp hq
  obtain ⟨W, hW⟩ : ∃ W, W = (w.alloc (.cells #[.int .i64 r1, .int .i64 c1, .float .f64 s1] 55)).alloc (.cells #[.int .i64 r2, .int .i64 c2, .float .f64 s2] 55) := ⟨_, rfl⟩
  have hg : Gr w W := by rw [hW]; exact (Gr.alloc _ _).trans (Gr.alloc _ _)
  have hs : W.heap.size = w.heap.size + 1 + 1 := by rw [hW]; simp
  have b1 : W.heap[w.heap.size]? = some (.cells #[.int .i64 r1, .int .i64 c1, .float .f64 s1] 55) := by
    rw [hW]; exact (Below.heap_alloc _ _ _ (by simp)).trans (MapKept.heap_alloc w _).1
  have b2 : W.heap[w.heap.size + 1]? = some (.cells #[.int .i64 r2, .int .i64 c2, .float .f64 s2] 55) := by
    rw [hW]
    have := (MapKept.heap_alloc (w.alloc (.cells #[.int .i64 r1, .int .i64 c1, .float .f64 s1] 55)) (.cells #[.int .i64 r2, .int .i64 c2, .float .f64 s2] 55)).1
    simp only [World.size_alloc] at this
    exact this
  have e1 : W.cell? ⟨w.heap.size, 0, none⟩ = some (.int .i64 r1) := by rw [Lib.cell_of_heap b1]; rfl
  have e2 : W.cell? ⟨w.heap.size, 1, none⟩ = some (.int .i64 c1) := by rw [Lib.cell_of_heap b1]; rfl
  have e3 : W.cell? ⟨w.heap.size, 2, none⟩ = some (.float .f64 s1) := by rw [Lib.cell_of_heap b1]; rfl
  have e4 : W.cell? ⟨w.heap.size + 1, 0, none⟩ = some (.int .i64 r2) := by rw [Lib.cell_of_heap b2]; rfl
  have e5 : W.cell? ⟨w.heap.size + 1, 1, none⟩ = some (.int .i64 c2) := by rw [Lib.cell_of_heap b2]; rfl
  have e6 : W.cell? ⟨w.heap.size + 1, 2, none⟩ = some (.float .f64 s2) := by rw [Lib.cell_of_heap b2]; rfl
  have l1 : w.heap.size < W.heap.size := by omega
  have l2 : w.heap.size + 1 < W.heap.size := by omega
  have HG := Lib.hid hg
  clear hg hs b1 b2
  go_enter Try.func40, Try.ntmps40
  go_upto_region 1 with fail
  rw [← hW]
  clear hW
  apply wp_region_specsG [[], [0], [], [2], [1, 3], [], [5], [], [7], [6, 8], [], [10], [], [12], [11, 13], [4, 9, 14], [15], [16]] [some 5, some 6, some 7, some 8, some 9, some 10, some 11, some 12, some 13, some 14, some 15, some 16, some 17, some 18, some 19, some 20, some 21, some 4] [0, 1, 2, 3, 4, 5, 6, 7, 8, 9, 10, 11, 12, 13, 14, 15, 16, 17]
    [eqv _, eqv _, eqv _, eqv _, eqv _, eqv _, eqv _, eqv _, eqv _, eqv _, eqv _, eqv _, eqv _, eqv _, eqv _, row3 (fOrd s2 s1) (cmpInt r1 r2) (cmpInt c1 c2), eqv _, eqv _]
  case hm => kernel_rfl
  case hok => kernel_rfl
  case hop =>
    refine ⟨?_, ?_, ?_, ?_, ?_, ?_, ?_, ?_, ?_, ?_, ?_, ?_, ?_, ?_, ?_, ?_, ?_, ?_, trivial⟩
    · intro vs w1 hr _ hd
      obtain ⟨x1, rfl⟩ := ov_of hr.below
      clear hr
      simp only [putL]
      clear hd 
      go_wp2
      exact opEnds_mk rfl (by simp only [List.getElem?_toArray, List.getElem?_cons_succ, List.getElem?_cons_zero] <;> rfl) rfl (Gr.refl _) rfl
    · intro vs w1 hr _ hd
      obtain ⟨x1, rfl⟩ := ov_of hr.below
      clear hr
      have h0 := hd.get 0 rfl
      change vs 0 = _ at h0
      simp only [putL, h0]
      clear hd h0
      go_wp2
      exact opEnds_mk rfl (by simp only [List.getElem?_toArray, List.getElem?_cons_succ, List.getElem?_cons_zero] <;> rfl) rfl (Gr.refl _) rfl
    · intro vs w1 hr _ hd
      obtain ⟨x1, rfl⟩ := ov_of hr.below
      clear hr
      simp only [putL]
      clear hd 
      go_wp2
      exact opEnds_mk rfl (by simp only [List.getElem?_toArray, List.getElem?_cons_succ, List.getElem?_cons_zero] <;> rfl) rfl (Gr.refl _) rfl
    · intro vs w1 hr _ hd
      obtain ⟨x1, rfl⟩ := ov_of hr.below
      clear hr
      have h2 := hd.get 2 rfl
      change vs 2 = _ at h2
      simp only [putL, h2]
      clear hd h2
      go_wp2
      exact opEnds_mk rfl (by simp only [List.getElem?_toArray, List.getElem?_cons_succ, List.getElem?_cons_zero] <;> rfl) rfl (Gr.refl _) rfl
    · intro vs w1 hr _ hd
      obtain ⟨x1, rfl⟩ := ov_of hr.below
      clear hr
      have h1 := hd.get 1 rfl
      change vs 1 = _ at h1
      have h3 := hd.get 3 rfl
      change vs 3 = _ at h3
      simp only [putL, h1, h3]
      clear hd h1 h3
      go_wp2_with fail
      refine (order_any s2 s1 HQ.out HP.out _).mono ?_
      rintro e w2 ⟨rfl, rfl⟩
      go_wp2
      exact opEnds_mk rfl (by simp only [List.getElem?_toArray, List.getElem?_cons_succ, List.getElem?_cons_zero] <;> rfl) rfl (Gr.refl _) rfl
    · intro vs w1 hr _ hd
      obtain ⟨x1, rfl⟩ := ov_of hr.below
      clear hr
      simp only [putL]
      clear hd 
      go_wp2
      exact opEnds_mk rfl (by simp only [List.getElem?_toArray, List.getElem?_cons_succ, List.getElem?_cons_zero] <;> rfl) rfl (Gr.refl _) rfl
    · intro vs w1 hr _ hd
      obtain ⟨x1, rfl⟩ := ov_of hr.below
      clear hr
      have h5 := hd.get 5 rfl
      change vs 5 = _ at h5
      simp only [putL, h5]
      clear hd h5
      go_wp2
      exact opEnds_mk rfl (by simp only [List.getElem?_toArray, List.getElem?_cons_succ, List.getElem?_cons_zero] <;> rfl) rfl (Gr.refl _) rfl
    · intro vs w1 hr _ hd
      obtain ⟨x1, rfl⟩ := ov_of hr.below
      clear hr
      simp only [putL]
      clear hd 
      go_wp2
      exact opEnds_mk rfl (by simp only [List.getElem?_toArray, List.getElem?_cons_succ, List.getElem?_cons_zero] <;> rfl) rfl (Gr.refl _) rfl
    · intro vs w1 hr _ hd
      obtain ⟨x1, rfl⟩ := ov_of hr.below
      clear hr
      have h7 := hd.get 7 rfl
      change vs 7 = _ at h7
      simp only [putL, h7]
      clear hd h7
      go_wp2
      exact opEnds_mk rfl (by simp only [List.getElem?_toArray, List.getElem?_cons_succ, List.getElem?_cons_zero] <;> rfl) rfl (Gr.refl _) rfl
    · intro vs w1 hr _ hd
      obtain ⟨x1, rfl⟩ := ov_of hr.below
      clear hr
      have h6 := hd.get 6 rfl
      change vs 6 = _ at h6
      have h8 := hd.get 8 rfl
      change vs 8 = _ at h8
      simp only [putL, h6, h8]
      clear hd h6 h8
      go_wp2_with fail
      refine (cmpI r1 r2 _).mono ?_
      rintro e w2 ⟨rfl, rfl⟩
      go_wp2
      exact opEnds_mk rfl (by simp only [List.getElem?_toArray, List.getElem?_cons_succ, List.getElem?_cons_zero] <;> rfl) rfl (Gr.refl _) rfl
    · intro vs w1 hr _ hd
      obtain ⟨x1, rfl⟩ := ov_of hr.below
      clear hr
      simp only [putL]
      clear hd 
      go_wp2
      exact opEnds_mk rfl (by simp only [List.getElem?_toArray, List.getElem?_cons_succ, List.getElem?_cons_zero] <;> rfl) rfl (Gr.refl _) rfl
    · intro vs w1 hr _ hd
      obtain ⟨x1, rfl⟩ := ov_of hr.below
      clear hr
      have h10 := hd.get 10 rfl
      change vs 10 = _ at h10
      simp only [putL, h10]
      clear hd h10
      go_wp2
      exact opEnds_mk rfl (by simp only [List.getElem?_toArray, List.getElem?_cons_succ, List.getElem?_cons_zero] <;> rfl) rfl (Gr.refl _) rfl
    · intro vs w1 hr _ hd
      obtain ⟨x1, rfl⟩ := ov_of hr.below
      clear hr
      simp only [putL]
      clear hd 
      go_wp2
      exact opEnds_mk rfl (by simp only [List.getElem?_toArray, List.getElem?_cons_succ, List.getElem?_cons_zero] <;> rfl) rfl (Gr.refl _) rfl
    · intro vs w1 hr _ hd
      obtain ⟨x1, rfl⟩ := ov_of hr.below
      clear hr
      have h12 := hd.get 12 rfl
      change vs 12 = _ at h12
      simp only [putL, h12]
      clear hd h12
      go_wp2
      exact opEnds_mk rfl (by simp only [List.getElem?_toArray, List.getElem?_cons_succ, List.getElem?_cons_zero] <;> rfl) rfl (Gr.refl _) rfl
    · intro vs w1 hr _ hd
      obtain ⟨x1, rfl⟩ := ov_of hr.below
      clear hr
      have h11 := hd.get 11 rfl
      change vs 11 = _ at h11
      have h13 := hd.get 13 rfl
      change vs 13 = _ at h13
      simp only [putL, h11, h13]
      clear hd h11 h13
      go_wp2_with fail
      refine (cmpI c1 c2 _).mono ?_
      rintro e w2 ⟨rfl, rfl⟩
      go_wp2
      exact opEnds_mk rfl (by simp only [List.getElem?_toArray, List.getElem?_cons_succ, List.getElem?_cons_zero] <;> rfl) rfl (Gr.refl _) rfl
    · intro vs w1 hr _ hd
      obtain ⟨x1, rfl⟩ := ov_of hr.below
      clear hr
      have h4 := hd.get 4 rfl
      change vs 4 = _ at h4
      have h9 := hd.get 9 rfl
      change vs 9 = _ at h9
      have h14 := hd.get 14 rfl
      change vs 14 = _ at h14
      simp only [putL, h4, h9, h14]
      clear hd h4 h9 h14
      go_wp2
      exact opEnds_mk rfl (by simp only [List.getElem?_toArray, List.getElem?_cons_succ, List.getElem?_cons_zero] <;> rfl) rfl (Gr.alloc _ _) ⟨_, rfl, (MapKept.heap_alloc _ _).1⟩
    · intro vs w1 hr _ hd
      obtain ⟨x1, rfl⟩ := ov_of hr.below
      clear hr
      have h15 := hd.get 15 rfl
      obtain ⟨g15, h15e, h15g⟩ := h15
      simp only [putL, h15e]
      clear hd h15e
      go_wp2_with fail
      refine (cmpOr3 (fOrd s2 s1) (cmpInt r1 r2) (cmpInt c1 c2) g15 _ (by rw [Lib.cell_of_heap h15g]; rfl) (by rw [Lib.cell_of_heap h15g]; rfl) (by rw [Lib.cell_of_heap h15g]; rfl)).mono ?_
      rintro e w2 ⟨rfl, rfl⟩
      go_wp2
      exact opEnds_mk rfl (by simp only [List.getElem?_toArray, List.getElem?_cons_succ, List.getElem?_cons_zero] <;> rfl) rfl (Gr.refl _) rfl
    · intro vs w1 hr _ hd
      obtain ⟨x1, rfl⟩ := ov_of hr.below
      clear hr
      have h16 := hd.get 16 rfl
      change vs 16 = _ at h16
      simp only [putL, h16]
      clear hd h16
      go_wp2
      exact opEnds_mk rfl (by simp only [List.getElem?_toArray, List.getElem?_cons_succ, List.getElem?_cons_zero] <;> rfl) rfl (Gr.refl _) rfl
  case hst => exact ⟨eqv_st _ _, eqv_st _ _, eqv_st _ _, eqv_st _ _, eqv_st _ _, eqv_st _ _, eqv_st _ _, eqv_st _ _, eqv_st _ _, eqv_st _ _, eqv_st _ _, eqv_st _ _, eqv_st _ _, eqv_st _ _, eqv_st _ _, row3_st _ _ _, eqv_st _ _, eqv_st _ _, trivial⟩
  case hend =>
    intro vs w1 hr hd
    have h0 := hd.get 0 rfl
    change vs 0 = _ at h0
    have h1 := hd.get 1 rfl
    change vs 1 = _ at h1
    have h2 := hd.get 2 rfl
    change vs 2 = _ at h2
    have h3 := hd.get 3 rfl
    change vs 3 = _ at h3
    have h4 := hd.get 4 rfl
    change vs 4 = _ at h4
    have h5 := hd.get 5 rfl
    change vs 5 = _ at h5
    have h6 := hd.get 6 rfl
    change vs 6 = _ at h6
    have h7 := hd.get 7 rfl
    change vs 7 = _ at h7
    have h8 := hd.get 8 rfl
    change vs 8 = _ at h8
    have h9 := hd.get 9 rfl
    change vs 9 = _ at h9
    have h10 := hd.get 10 rfl
    change vs 10 = _ at h10
    have h11 := hd.get 11 rfl
    change vs 11 = _ at h11
    have h12 := hd.get 12 rfl
    change vs 12 = _ at h12
    have h13 := hd.get 13 rfl
    change vs 13 = _ at h13
    have h14 := hd.get 14 rfl
    change vs 14 = _ at h14
    have h15 := hd.get 15 rfl
    have h16 := hd.get 16 rfl
    change vs 16 = _ at h16
    have h17 := hd.get 17 rfl
    change vs 17 = _ at h17
    have HGR := Lib.hid hr
    obtain ⟨x1, rfl⟩ := ov_of hr.below
    simp only [putL, List.getD_cons_zero, List.getD_cons_succ, Act.put, List.setIfInBounds_toArray, List.set_cons_zero, List.set_cons_succ, h0, h1, h2, h3, h4, h5, h6, h7, h8, h9, h10, h11, h12, h13, h14, h16, h17]
    clear hd hr h0 h1 h2 h3 h4 h5 h6 h7 h8 h9 h10 h11 h12 h13 h14 h16 h17
    go_wp2
    go_ret
    exact ⟨rfl, HG.out.trans HGR.out⟩

end Go.Proofs.Ytkapidcgonjbaaa
