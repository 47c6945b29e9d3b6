/- The reference's Keys. -/
import Derived.Test.YtchbpfkjhilgiaaE
import Derived.Test.YtchbpfkjhilgiaaH
namespace Go.Proofs.Ytchbpfkjhilgiaa
open Go.RowKit
set_option linter.unusedVariables false

set_option maxHeartbeats 2000000 in
set_option maxRecDepth 100000 in
theorem rkeys_any (t : Int) (c : List UInt8) (i : Int) (t' : Int) (c' : List UInt8) (i' : Int) (hc : c.length = 32) (hc' : c'.length = 32) (w : World) :
    Calls Try.prog 22 #[.agg (keyB t c i), .agg (keyB t' c' i')] w fun e w' => e = .returned (.int .i64 (keysCmp t c i t' c' i')) ∧ Below w.heap.size w w' := by
  have k1 : KeyAt ((w.alloc (.cells (keyB t c i) 38)).alloc (.cells (keyB t' c' i') 38)) w.heap.size t c i :=
    (Below.heap_alloc _ _ _ (by simp)).trans (MapKept.heap_alloc w _).1
  have k2 : KeyAt ((w.alloc (.cells (keyB t c i) 38)).alloc (.cells (keyB t' c' i') 38)) (w.heap.size + 1) t' c' i' := by
    have := (MapKept.heap_alloc (w.alloc (.cells (keyB t c i) 38)) (.cells (keyB t' c' i') 38)).1
    simp only [World.size_alloc] at this
    exact this
  have hb0 := ((Below.refl w.heap.size w).alloc (Nat.le_refl _) (.cells (keyB t c i) 38)).alloc (by simp) (.cells (keyB t' c' i') 38)
  have HG0 : keysCmp t c i t' c' i' = if t < t' then -1 else if t' < t then 1 else if Lib.compareBytes c c' ≠ 0 then Lib.compareBytes c c' else if i < i' then -1 else if i' < i then 1 else 0 := by
    unfold keysCmp or3 cmpInt
    split <;> rename_i h1
    · simp
    · split <;> rename_i h2
      · simp
      · simp
  generalize keysCmp t c i t' c' i' = R at *
  have HG := Lib.hid HG0
  clear HG0
  go_enter Try.func22, Try.ntmps22
  go_upto_region 1 with fail
  obtain ⟨W, hW⟩ : ∃ W, W = (w.alloc (.cells (keyB t c i) 38)).alloc (.cells (keyB t' c' i') 38) := ⟨_, rfl⟩
  rw [← hW] at k1 k2 hb0 ⊢
  have HW := Lib.hid (show W.heap.size = w.heap.size + 2 by rw [hW]; simp)
  clear hW
  have e1 := k1.c0
  have e2 := k2.c0
  have HB := Lib.hid hb0
  clear hb0
  by_cases h1 : t < t'
  · have hR : R = -1 := by rw [HG.out]; simp [h1]
    subst hR
    clear k1 k2
    go_wp2
    go_ret
    exact ⟨rfl, HB.out⟩
  by_cases h2 : t' < t
  · have hR : R = 1 := by rw [HG.out]; simp [h1, h2]
    subst hR
    clear k1 k2 hc hc' HG HW
    go_wp2
    go_ret
    exact ⟨rfl, HB.out⟩
  have HG2 : Hid (R = if Lib.compareBytes c c' ≠ 0 then Lib.compareBytes c c' else if i < i' then -1 else if i' < i then 1 else 0) := by
    exact Lib.hid (by rw [HG.out, if_neg h1, if_neg h2])
  clear HG
  have f1 := k1.fits hc
  have f2 := k2.fits hc'
  have g1 := k1.agg hc
  have g2 := k2.agg hc'
  have K1 := Lib.hid k1
  have K2 := Lib.hid k2
  clear k1 k2
  go_wp2_with fail
  refine (rcompare_any c c' hc hc' _).mono ?_
  rintro e w1 ⟨rfl, hb1⟩
  have HB1 := Lib.hid (HB.out.trans (hb1.mono (by rw [HW.out]; omega)))
  have e3 := (K1.out.below hb1).c33 hc
  have e4 := (K2.out.below hb1).c33 hc'
  clear hb1 f1 f2 g1 g2 e1 e2 
  clear h1 h2
  generalize Lib.compareBytes c c' = r at *
  by_cases h3 : r = 0
  · have HG3 : Hid (R = if i < i' then -1 else if i' < i then 1 else 0) := by
      exact Lib.hid (by rw [HG2.out]; simp [h3])
    clear HG2
    subst h3
    by_cases h4 : i < i'
    · have hR : R = -1 := by rw [HG3.out]; simp [h4]
      subst hR
      go_wp2
      go_ret
      exact ⟨rfl, HB1.out⟩
    by_cases h5 : i' < i
    · have hR : R = 1 := by rw [HG3.out]; simp [h4, h5]
      subst hR
      go_wp2
      go_ret
      exact ⟨rfl, HB1.out⟩
    · have hR : R = 0 := by rw [HG3.out]; simp [h4, h5]
      subst hR
      go_wp2
      go_ret
      exact ⟨rfl, HB1.out⟩
  · have hR : R = r := by rw [HG2.out]; simp [h3]
    subst hR
    go_wp2
    go_ret
    exact ⟨rfl, HB1.out⟩

end Go.Proofs.Ytchbpfkjhilgiaa
