/- Walks of diagonal, slide, and the closure of next. -/
import Derived.Test.YtipoifokcnbfnaaI
import Derived.OneCell
namespace Go.Proofs.Ytipoifokcnbfnaa
open Go.RowKit
set_option linter.unusedVariables false

/-- A search's two rows of runes, where it lies. -/
def Srch (w : World) (s : Nat) (a b : List Int) : Prop :=
  ∃ pa ca pb cb, s < w.heap.size ∧ w.cell? ⟨s, 0, none⟩ = some (.slice pa a.length ca) ∧ w.cell? ⟨s, 1, none⟩ = some (.slice pb b.length cb) ∧ (numR .i32).In w pa a ∧ (numR .i32).In w pb b
theorem Srch.below {w w' : World} {s : Nat} {a b : List Int} (h : Srch w s a b) (hb : Below w.heap.size w w') : Srch w' s a b := by
  obtain ⟨pa, ca, pb, cb, h1, h2, h3, h4, h5⟩ := h
  exact ⟨pa, ca, pb, cb, Nat.lt_of_lt_of_le h1 hb.size, (hb.cell (p := ⟨s, 0, none⟩) h1).trans h2, (hb.cell (p := ⟨s, 1, none⟩) h1).trans h3, h4.below hb, h5.below hb⟩

set_option maxHeartbeats 1000000 in
set_option maxRecDepth 100000 in
theorem diag_any (s : Nat) (a b : List Int) (d t : Nat) (w : World) (h : Srch w s a b) (ha : a.length ≤ 4096) (hb : b.length ≤ 4096) (hd : d ≤ 100000) (ht : t ≤ 100000) :
    Calls Try.prog 34 #[.pointer (some ⟨s, 0, none⟩), .int .i64 d, .int .i64 t] w fun e w' => e = .returned (.int .i64 (diag a b d t)) ∧ Below w.heap.size w w' := by
  obtain ⟨pa, ca, pb, cb, h1, h2, h3, h4, h5⟩ := h
  clear h4 h5
  have f1 : IntKind.i64.wrap ((a.length : Int) - b.length) = (a.length : Int) - b.length := IntWalk.i64_in _ (by omega)
  have f2 : IntKind.i64.wrap ((a.length : Int) - b.length - d) = (a.length : Int) - b.length - d := IntWalk.i64_in _ (by omega)
  have f3 : IntKind.i64.wrap (2 * (t : Int)) = 2 * (t : Int) := IntWalk.i64_in _ (by omega)
  have f4 : IntKind.i64.wrap ((a.length : Int) - b.length - d + 2 * t) = (a.length : Int) - b.length - d + 2 * t := IntWalk.i64_in _ (by omega)
  go_enter Try.func34, Try.ntmps34
  go_wp2_with fail
  refine wp_region_over (by kernel_rfl) (by kernel_rfl) ?_
  repeat (go_big_quiet_step (fail))
  refine wpQuiet_nil ?_
  rintro _ ⟨x0, rfl⟩
  go_wp2
  go_ret
  exact ⟨rfl, ov_below w x0⟩

/-- One step back. -/
theorem slide_zero (a b : List Int) (k : Int) : slide a b k 0 = 0 := by rw [slide]
theorem slide_step (a b : List Int) (k : Int) (i : Nat) (h1 : 0 < (i : Int) + 1 - k) (h2 : a.getD i 0 = b.getD ((i : Int) - k).toNat 0) : slide a b k (i + 1) = slide a b k i := by rw [slide, if_pos ⟨h1, h2⟩]
theorem slide_stop (a b : List Int) (k : Int) (i : Nat) (h : ¬ (0 < (i : Int) + 1 - k ∧ a.getD i 0 = b.getD ((i : Int) - k).toNat 0)) : slide a b k (i + 1) = i + 1 := by rw [slide, if_neg h]

set_option maxHeartbeats 2000000 in
set_option maxRecDepth 100000 in
theorem slide_any (s : Nat) (a b : List Int) (i : Nat) (k : Int) (w : World) (h : Srch w s a b) (ha : a.length ≤ 4096) (hb : b.length ≤ 4096) (hi : i ≤ a.length) (hk1 : (i : Int) - k ≤ b.length) (hk2 : -100000 ≤ k ∧ k ≤ 100000) :
    Calls Try.prog 40 #[.pointer (some ⟨s, 0, none⟩), .int .i64 i, .int .i64 k] w fun e w' => e = .returned (.int .i32 (slide a b k i)) ∧ Below w.heap.size w w' := by
  have HS := Lib.hid h
  clear h
  go_enter Try.func40, Try.ntmps40
  go_wp2_with fail
  go_loopg [1] i (fun g v1 wr => ∃ j : Nat, g = j ∧ j ≤ i ∧ v1 = .int .i64 j ∧ slide a b k j = slide a b k i ∧ Below w.heap.size w wr)
  case atStart => exact ⟨i, rfl, Nat.le_refl _, rfl, rfl, Below.refl _ _⟩
  case round =>
    obtain ⟨j, hg, hj, rfl, hs, hbw⟩ := hrel
    have HG := Lib.hid hg
    have HE := Lib.hid hs
    have HB := Lib.hid hbw
    obtain ⟨pa, ca, pb, cb, h1, h2, h3, h4, h5⟩ := HS.out.below hbw
    have HA := Lib.hid h4
    have HBB := Lib.hid h5
    clear hg hs hbw h4 h5
    by_cases hj0 : j = 0
    · subst hj0
      have HR := Lib.hid (HE.out.symm.trans (slide_zero a b k))
      have hb0 : decide (0 < ((0 : Nat) : Int)) = false := by decide
      go_wp2_with fail
      refine wp_region_over (by kernel_rfl) (by kernel_rfl) ?_
      repeat (go_big_quiet_step (fail))
      refine wpQuiet_nil ?_
      rintro _ ⟨x0, rfl⟩
      go_wp2
      go_ret
      exact ⟨by rw [HR.out]; rfl, HB.out.trans ((ov_below wr x0).mono HB.out.size)⟩
    · obtain ⟨j, rfl⟩ : ∃ j', j = j' + 1 := ⟨j - 1, by omega⟩
      clear hj0
      have hb0 : decide (0 < ((j + 1 : Nat) : Int)) = true := by simp
      have hb0' : (0 : Int) < (j : Int) + 1 := by omega
      have f0 : ((j + 1 : Nat) : Int) = (j : Int) + 1 := by omega
      have HF0 := Lib.hid f0
      by_cases hjk : 0 < (j : Int) + 1 - k
      · obtain ⟨m, hm⟩ : ∃ m : Nat, (j : Int) - k = m := ⟨((j : Int) - k).toNat, by omega⟩
        have f1 : IntKind.i64.wrap (((j + 1 : Nat) : Int) - k) = (m : Int) + 1 := by rw [IntWalk.i64_in _ (by omega)]; omega
        have f1' : IntKind.i64.wrap ((j : Int) + 1 - k) = (m : Int) + 1 := by rw [IntWalk.i64_in _ (by omega)]; omega
        have f2 : IntKind.i64.wrap ((j : Int) + 1 - 1) = (j : Int) := by rw [IntWalk.i64_in _ (by omega)]; omega
        have f2' : IntKind.i64.wrap (((j + 1 : Nat) : Int) - 1) = (j : Int) := by rw [IntWalk.i64_in _ (by omega)]; omega
        have f3 : IntKind.i64.wrap ((m : Int) + 1 - 1) = (m : Int) := by rw [IntWalk.i64_in _ (by omega)]; omega
        have f4 : decide (0 < (m : Int) + 1) = true := decide_eq_true (by omega)
        have f5 : (m : Int) < b.length := by omega
        have f6 : (j : Int) < a.length := by omega
        have hja : j < a.length := by omega
        have hmb : m < b.length := by omega
        rcases HA.out.2 with h0 | ⟨ba, oa, rfl, hla, hca⟩
        · subst h0; simp at hja
        rcases HBB.out.2 with h0 | ⟨bb, ob, rfl, hlb, hcb⟩
        · subst h0; simp at hmb
        have hxa : a[j]? = some (a.getD j 0) := by simp [List.getD_eq_getElem?_getD, hja]
        have hxb : b[m]? = some (b.getD m 0) := by simp [List.getD_eq_getElem?_getD, hmb]
        have e1 := num_cell (hca j _ hxa)
        have e2 := num_cell (hcb m _ hxb)
        have HMT := Lib.hid (show ((j : Int) - k).toNat = m by omega)
        have HST := Lib.hid (show a.getD j 0 = b.getD m 0 → slide a b k (j + 1) = slide a b k j from fun h => slide_step a b k j hjk (by rw [HMT.out]; exact h))
        have HSP := Lib.hid (show a.getD j 0 ≠ b.getD m 0 → slide a b k (j + 1) = j + 1 from fun h => slide_stop a b k j (by rw [HMT.out]; exact fun h' => h h'.2))
        clear hca hcb hxa hxb hm hjk f0
        generalize a.getD j 0 = x at *
        generalize b.getD m 0 = y at *
        by_cases hxy : x = y
        · have HR := Lib.hid ((HST.out hxy).symm.trans HE.out)
          have g1 : (x == y) = true := by simpa using hxy
          clear hxy HST HSP
          go_wp2_with fail
          refine wp_region_over (by kernel_rfl) (by kernel_rfl) ?_
          repeat (go_big_quiet_step (fail))
          refine wpQuiet_nil ?_
          rintro _ ⟨x0, rfl⟩
          clear e1 e2 h1 h2 h3
          go_wp2
          go_roundg (gk - 1)
          case measure => have := HG.out; omega
          case rel => exact ⟨j, by have := HG.out; omega, by omega, by go_num, HR.out, HB.out.trans ((ov_below wr x0).mono HB.out.size)⟩
        · have HR := Lib.hid ((HSP.out hxy).symm.trans HE.out)
          have g1 : (x == y) = false := by simpa using hxy
          clear hxy HST HSP
          go_wp2_with fail
          refine wp_region_over (by kernel_rfl) (by kernel_rfl) ?_
          repeat (go_big_quiet_step (fail))
          refine wpQuiet_nil ?_
          rintro _ ⟨x0, rfl⟩
          clear e1 e2 h1 h2 h3
          go_wp2
          go_ret
          exact ⟨by rw [← HR.out]; rfl, HB.out.trans ((ov_below wr x0).mono HB.out.size)⟩
      · have f1 : IntKind.i64.wrap (((j + 1 : Nat) : Int) - k) = (j : Int) + 1 - k := by rw [IntWalk.i64_in _ (by omega)]; omega
        have f1' : IntKind.i64.wrap ((j : Int) + 1 - k) = (j : Int) + 1 - k := by rw [IntWalk.i64_in _ (by omega)]
        have f4 : decide (k < (j : Int) + 1) = false := decide_eq_false (by omega)
        have HR := Lib.hid ((slide_stop a b k j (fun h => hjk h.1)).symm.trans HE.out)
        clear hjk f0
        go_wp2_with fail
        refine wp_region_over (by kernel_rfl) (by kernel_rfl) ?_
        repeat (go_big_quiet_step (fail))
        refine wpQuiet_nil ?_
        rintro _ ⟨x0, rfl⟩
        go_wp2
        go_ret
        exact ⟨by rw [← HR.out]; rfl, HB.out.trans ((ov_below wr x0).mono HB.out.size)⟩

/-- One cell, by itself. -/
def One (w : World) (g : Nat) (v : Value) (t : TypeId) : Prop := w.heap[g]? = some (Obj.cells #[v] t (0, 0))
theorem One.cell {w : World} {g : Nat} {v : Value} {t : TypeId} (h : One w g v t) : w.cell? ⟨g, 0, none⟩ = some v := by
  unfold One at h; simp [World.cell?, h]
theorem One.free {w : World} {g : Nat} {v : Value} {t : TypeId} (h : One w g v t) : w.frozen? ⟨g, 0, none⟩ = false := by
  unfold One at h; simp [World.frozen?, h]
theorem One.below {w w' : World} {g : Nat} {v : Value} {t : TypeId} (h : One w g v t) (hb : Below w.heap.size w w') : One w' g v t := (hb.block g (Array.getElem?_eq_some_iff.1 h).1).trans h
theorem One.lt {w : World} {g : Nat} {v : Value} {t : TypeId} (h : One w g v t) : g < w.heap.size := (Array.getElem?_eq_some_iff.1 h).1
theorem One.set {w : World} {g : Nat} {v : Value} {t : TypeId} (h : One w g v t) (v' : Value) : One (w.setCell ⟨g, 0, none⟩ v') g v' t := by
  unfold One at *
  rw [setCell_eq_setRow w g 0 #[v] t (0, 0) v' h, setRow_heap w g #[v] _ t _ h]
  rfl
theorem One.other {w : World} {g g' : Nat} {v v' : Value} {t : TypeId} (h : One w g v t) (hne : g ≠ g') : One (w.setCell ⟨g', 0, none⟩ v') g v t := (Below.heap_setCell w ⟨g', 0, none⟩ v' g hne).trans h

set_option maxHeartbeats 1000000 in
set_option maxRecDepth 100000 in
/-- The closure: the best so far. -/
theorem try_any (i k best : Int) (gk gb : Nat) (w : World) (hk : One w gk (.int .i64 k) 3) (hb : One w gb (.int .i64 best) 3) (h : -1000000 ≤ i ∧ i ≤ 3000000000) (h' : -1000000 ≤ k ∧ k ≤ 1000000) :
    Calls Try.prog 41 #[.int .i64 i, .pointer (some ⟨gk, 0, none⟩), .pointer (some ⟨gb, 0, none⟩)] w fun e w' => e = .returned (.tuple #[]) ∧
      ((try1 k best i = best ∧ w' = w) ∨ w' = w.setCell ⟨gb, 0, none⟩ (.int .i64 (try1 k best i))) := by
  have c1 := hk.cell
  have c2 := hb.cell
  have c3 := hb.free
  clear hk hb
  have f1 : IntKind.i64.wrap (i - k) = i - k := IntWalk.i64_in _ (by omega)
  by_cases h1 : 0 ≤ i
  · by_cases h2 : 0 ≤ i - k
    · have g1 : decide (0 ≤ i) = true := decide_eq_true h1
      have g2 : decide (k ≤ i) = true := decide_eq_true (by omega)
      have HT := Lib.hid (show try1 k best i = min best i from by unfold try1; rw [if_pos ⟨h1, h2⟩])
      go_enter Try.func41, Try.ntmps41
      go_wp2
      go_end0
      exact ⟨rfl, .inr (by rw [HT.out])⟩
    · have g1 : decide (0 ≤ i) = true := decide_eq_true h1
      have g2 : decide (k ≤ i) = false := decide_eq_false (by omega)
      have HT := Lib.hid (show try1 k best i = best from by unfold try1; rw [if_neg (fun h => h2 h.2)])
      go_enter Try.func41, Try.ntmps41
      go_wp2
      go_end0
      exact ⟨rfl, .inl ⟨HT.out, rfl⟩⟩
  · have g1 : decide (0 ≤ i) = false := decide_eq_false h1
    have HT := Lib.hid (show try1 k best i = best from by unfold try1; rw [if_neg (fun h => h1 h.1)])
    go_enter Try.func41, Try.ntmps41
    go_wp2
    go_end0
    exact ⟨rfl, .inl ⟨HT.out, rfl⟩⟩
end Go.Proofs.Ytipoifokcnbfnaa
