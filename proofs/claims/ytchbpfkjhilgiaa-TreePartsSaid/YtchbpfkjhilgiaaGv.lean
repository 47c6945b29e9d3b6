/- Growth as a class of worlds: regions that only read or call what grows; keys compared, in growth. -/
import Derived.Test.YtchbpfkjhilgiaaGr
import Derived.Test.YtchbpfkjhilgiaaE
import Derived.Test.YtchbpfkjhilgiaaOv
namespace Go.Proofs.Ytchbpfkjhilgiaa
open Go.RowKit
set_option linter.unusedVariables false

structure GvX where
  q : Nat
  os : Array Obj
instance : Inhabited GvX := ⟨⟨0, #[]⟩⟩
/-- A world grown. -/
def gv (w : World) (x : GvX) : World := Go.Sort.grow (w.drewN x.q) x.os
theorem gv_gr (w : World) (x : GvX) : Gr w (gv w x) := ⟨x.q, x.os, rfl⟩
theorem gv_of {w w' : World} (h : Gr w w') : ∃ x, w' = gv w x := by obtain ⟨q, os, h⟩ := h; exact ⟨⟨q, os⟩, h⟩
theorem gv_block (w : World) (x : GvX) (k : Nat) (h : k < w.heap.size) : (gv w x).heap[k]? = w.heap[k]? := (gv_gr w x).below.block k h
theorem gv_drew (w : World) : ∃ x, w.drew = gv w x := gv_of (Gr.drew w)
@[go_sem] theorem cell_gv (w : World) (x : GvX) (a : Addr) (h : a.block < w.heap.size) : (gv w x).cell? a = w.cell? a := by
  unfold World.cell?; rw [gv_block w x _ h]
@[go_sem] theorem fits_gv (w : World) (x : GvX) (a : Addr) (n : Nat) (h : fits w a n) : fits (gv w x) a n := fits_of_block (gv_block w x _ h.lt) h
@[go_sem] theorem agg_gv (w : World) (x : GvX) (a : Addr) (n : Nat) (h : fits w a n) : aggAt (gv w x) a n = aggAt w a n := aggAt_of_block (gv_block w x _ h.lt)
theorem Calls.gv_of {P : Program} {f : FuncId} {args : Array Value} {w : World} {x : GvX} {v : Value}
    (h : Calls P f args (gv w x) fun e w' => e = .returned v ∧ Gr (gv w x) w') : Calls P f args (gv w x) fun e w'' => e = .returned v ∧ ∃ y, w'' = gv w y :=
  h.mono fun _ _ ⟨he, hb⟩ => ⟨he, Go.Proofs.Ytchbpfkjhilgiaa.gv_of ((gv_gr w x).trans hb)⟩
theorem wp_region_gv {P : Program} {id : Nat} {Q : Exit → Act → World → Prop} {a : Act} {w : World} {l : List Oper} (hm : P.follows .mixedOrders = true) (hB : Region.lexB .any l.toArray = true)
    (h : wpQuiet P l.toArray (fun w' => ∃ x, w' = gv w x) (fun a' => ∀ w', (∃ x, w' = gv w x) → Q .normal a' w') l a) : (Code.region id l.toArray true).wp P Q a w :=
  wp_region_quiet (C := fun w' => ∃ x, w' = gv w x) hm hB (gv_drew w) (by simpa using h)
@[go_sem ↓] theorem quiet_gv {P : Program} {o : Oper} {a : Act} {w : World} {K : Act → Prop} :
    Oper.quiet P o a (fun w' => ∃ x, w' = gv w x) K = ∃ v, (∀ x, Oper.quietUpon P (fun w' => ∃ x, w' = gv w x) (gv w x) v ((execOp a.eval o).run P (gv w x))) ∧ K (a.put o.dst v) := by
  unfold Oper.quiet Oper.quietAt
  simp only [forall_exists_index, forall_eq_apply_imp_iff]

set_option maxHeartbeats 1000000 in
set_option maxRecDepth 100000 in
theorem compare_gr (x y : List UInt8) (hx : x.length = 32) (hy : y.length = 32) (w : World) :
    Calls Try.prog 32 #[.agg (idB x), .agg (idB y)] w fun e w' => e = .returned (.int .i64 (Lib.compareBytes x y)) ∧ Gr w w' := by
  have c1 := fun n => bcompare_any (((w.alloc (.cells (idB x) 36)).alloc (.cells (idB y) 36)).drewN n) w.heap.size 0 32 (w.heap.size + 1) 0 32 x y
  have HC : Hid (∀ n, Calls Try.prog 44 #[.slice (some ⟨w.heap.size, 0, none⟩) 32 32, .slice (some ⟨w.heap.size + 1, 0, none⟩) 32 32] (((w.alloc (.cells (idB x) 36)).alloc (.cells (idB y) 36)).drewN n) fun e w' => e = .returned (.int .i64 (Lib.compareBytes x y)) ∧ ((w.alloc (.cells (idB x) 36)).alloc (.cells (idB y) 36)).drewN n = w') := by
    intro n
    have := c1 n
    rw [hx, hy] at this
    have e1 : ((w.alloc (.cells (idB x) 36)).alloc (.cells (idB y) 36)).heap[w.heap.size]? = (w.alloc (.cells (idB x) 36)).heap[w.heap.size]? := Below.heap_alloc _ _ _ (by simp)
    refine this ?_ ?_ ?_ ?_
    · exact fits_of_block (w := w.alloc (.cells (idB x) 36)) e1 (fits_new _ _ _ _ (by rw [idB_size, hx]))
    · exact (aggAt_of_block (w := w.alloc (.cells (idB x) 36)) e1).trans (aggAt_new _ _ _ _ (by rw [idB_size, hx]))
    · have := fits_new (w.alloc (.cells (idB x) 36)) (idB y) 36 32 (by rw [idB_size, hy])
      simp only [World.size_alloc] at this
      exact this
    · have := aggAt_new (w.alloc (.cells (idB x) 36)) (idB y) 36 32 (by rw [idB_size, hy])
      simp only [World.size_alloc] at this
      exact this
  clear c1
  go_enter Try.func32, Try.ntmps32
  go_wp2_with fail
  go_quiet ((go_at_call 44; exact quiet_left (HC.out _)))
  go_wp2
  go_ret
  exact ⟨rfl, ((Gr.alloc _ _).trans (Gr.alloc _ _)).trans (Gr.drewN _ _)⟩

set_option maxHeartbeats 2000000 in
set_option maxRecDepth 100000 in
theorem keys_gr (t : Int) (c : List UInt8) (i : Int) (t' : Int) (c' : List UInt8) (i' : Int) (hc : c.length = 32) (hc' : c'.length = 32) (w : World) :
    Calls Try.prog 19 #[.agg (keyB t c i), .agg (keyB t' c' i')] w fun e w' => e = .returned (.int .i64 (keysCmp t c i t' c' i')) ∧ Gr w w' := by
  have k1 : KeyAt ((w.alloc (.cells (keyB t c i) 38)).alloc (.cells (keyB t' c' i') 38)) w.heap.size t c i :=
    (Below.heap_alloc _ _ _ (by simp)).trans (MapKept.heap_alloc w _).1
  have k2 : KeyAt ((w.alloc (.cells (keyB t c i) 38)).alloc (.cells (keyB t' c' i') 38)) (w.heap.size + 1) t' c' i' := by
    have := (MapKept.heap_alloc (w.alloc (.cells (keyB t c i) 38)) (.cells (keyB t' c' i') 38)).1
    simp only [World.size_alloc] at this
    exact this
  have hb0 := (Gr.alloc w (.cells (keyB t c i) 38)).trans (Gr.alloc _ (.cells (keyB t' c' i') 38))
  go_enter Try.func19, Try.ntmps19
  go_wp2_with fail
  obtain ⟨W, hW⟩ : ∃ W, W = (w.alloc (.cells (keyB t c i) 38)).alloc (.cells (keyB t' c' i') 38) := ⟨_, rfl⟩
  rw [← hW] at k1 k2 hb0 ⊢
  have HW := Lib.hid (show W.heap.size = w.heap.size + 2 by rw [hW]; simp)
  clear hW
  refine wp_region_specs [[], [0], [], [2], [1, 3], [], [5], [], [7], [6, 8], [], [10], [], [12], [11, 13], [4, 9, 14], [15], [16]] [some 5, some 6, some 7, some 8, some 9, some 10, some 11, some 12, some 13, some 14, some 15, some 16, some 17, some 18, some 19, some 20, some 21, some 4] [0, 1, 2, 3, 4, 5, 6, 7, 8, 9, 10, 11, 12, 13, 14, 15, 16, 17]
    (Gr)
    (fun k => [eqv (.pointer (some ⟨w.heap.size, 0, none⟩)), eqv (.int .i64 t), eqv (.pointer (some ⟨w.heap.size + 1, 0, none⟩)), eqv (.int .i64 t'), eqv (.int .i64 (cmpInt t t')),
      eqv (.pointer (some ⟨w.heap.size, 1, none⟩)), eqv (.agg (idB c)), eqv (.pointer (some ⟨w.heap.size + 1, 1, none⟩)), eqv (.agg (idB c')), eqv (.int .i64 (Lib.compareBytes c c')),
      eqv (.pointer (some ⟨w.heap.size, 33, none⟩)), eqv (.int .i64 i), eqv (.pointer (some ⟨w.heap.size + 1, 33, none⟩)), eqv (.int .i64 i'), eqv (.int .i64 (cmpInt i i')),
      row3 (cmpInt t t') (Lib.compareBytes c c') (cmpInt i i'), eqv (.int .i64 (keysCmp t c i t' c' i')), eqv (.int .i64 (keysCmp t c i t' c' i'))].getD k anyv)
    (by kernel_rfl) (by kernel_rfl) (Gr.drew _) (fun a b c h1 h2 => h1.trans h2) ?_ ?_ ?_
  · exact Stables.get (by exact ⟨eqv_st _ _, eqv_st _ _, eqv_st _ _, eqv_st _ _, eqv_st _ _, eqv_st _ _, eqv_st _ _, eqv_st _ _, eqv_st _ _, eqv_st _ _, eqv_st _ _, eqv_st _ _, eqv_st _ _, eqv_st _ _, eqv_st _ _, fun v w w' h hb => row3_st _ _ _ v w w' h hb.below, eqv_st _ _, eqv_st _ _, trivial⟩)
  · refine ⟨?_, ?_, ?_, ?_, ?_, ?_, ?_, ?_, ?_, ?_, ?_, ?_, ?_, ?_, ?_, ?_, ?_, ?_, trivial⟩
    · intro vs w1 hr _ hd
      simp only [putL]
      clear hd 
      go_wp2
      exact ⟨rfl, rfl, Gr.refl _, rfl⟩
    · intro vs w1 hr _ hd
      have h0 := hd.get 0 rfl
      change vs 0 = _ at h0
      have e1 := (k1.below hr.below).c0
      simp only [putL, h0]
      clear hd h0
      go_wp2
      exact ⟨rfl, rfl, Gr.refl _, rfl⟩
    · intro vs w1 hr _ hd
      simp only [putL]
      clear hd 
      go_wp2
      exact ⟨rfl, rfl, Gr.refl _, rfl⟩
    · intro vs w1 hr _ hd
      have h2 := hd.get 2 rfl
      change vs 2 = _ at h2
      have e1 := (k2.below hr.below).c0
      simp only [putL, h2]
      clear hd h2
      go_wp2
      exact ⟨rfl, rfl, Gr.refl _, rfl⟩
    · intro vs w1 hr _ hd
      have h1 := hd.get 1 rfl
      change vs 1 = _ at h1
      have h3 := hd.get 3 rfl
      change vs 3 = _ at h3
      simp only [putL, h1, h3]
      clear hd h1 h3
      go_wp2_with fail
      refine (cmpCompare t t' _).mono ?_
      rintro e w2 ⟨rfl, rfl⟩
      go_wp2
      exact ⟨rfl, rfl, Gr.refl _, rfl⟩
    · intro vs w1 hr _ hd
      simp only [putL]
      clear hd 
      go_wp2
      exact ⟨rfl, rfl, Gr.refl _, rfl⟩
    · intro vs w1 hr _ hd
      have h5 := hd.get 5 rfl
      change vs 5 = _ at h5
      have e1 := (k1.below hr.below).fits hc
      have e2 := (k1.below hr.below).agg hc
      simp only [putL, h5]
      clear hd h5
      go_wp2
      exact ⟨rfl, rfl, Gr.refl _, rfl⟩
    · intro vs w1 hr _ hd
      simp only [putL]
      clear hd 
      go_wp2
      exact ⟨rfl, rfl, Gr.refl _, rfl⟩
    · intro vs w1 hr _ hd
      have h7 := hd.get 7 rfl
      change vs 7 = _ at h7
      have e1 := (k2.below hr.below).fits hc'
      have e2 := (k2.below hr.below).agg hc'
      simp only [putL, h7]
      clear hd h7
      go_wp2
      exact ⟨rfl, rfl, Gr.refl _, rfl⟩
    · intro vs w1 hr _ hd
      have h6 := hd.get 6 rfl
      change vs 6 = _ at h6
      have h8 := hd.get 8 rfl
      change vs 8 = _ at h8
      simp only [putL, h6, h8]
      clear hd h6 h8
      go_wp2_with fail
      refine (compare_gr c c' hc hc' _).mono ?_
      rintro e w2 ⟨rfl, hb2⟩
      go_wp2
      exact ⟨rfl, rfl, hb2, rfl⟩
    · intro vs w1 hr _ hd
      simp only [putL]
      clear hd 
      go_wp2
      exact ⟨rfl, rfl, Gr.refl _, rfl⟩
    · intro vs w1 hr _ hd
      have h10 := hd.get 10 rfl
      change vs 10 = _ at h10
      have e1 := (k1.below hr.below).c33 hc
      simp only [putL, h10]
      clear hd h10
      go_wp2
      exact ⟨rfl, rfl, Gr.refl _, rfl⟩
    · intro vs w1 hr _ hd
      simp only [putL]
      clear hd 
      go_wp2
      exact ⟨rfl, rfl, Gr.refl _, rfl⟩
    · intro vs w1 hr _ hd
      have h12 := hd.get 12 rfl
      change vs 12 = _ at h12
      have e1 := (k2.below hr.below).c33 hc'
      simp only [putL, h12]
      clear hd h12
      go_wp2
      exact ⟨rfl, rfl, Gr.refl _, rfl⟩
    · intro vs w1 hr _ hd
      have h11 := hd.get 11 rfl
      change vs 11 = _ at h11
      have h13 := hd.get 13 rfl
      change vs 13 = _ at h13
      simp only [putL, h11, h13]
      clear hd h11 h13
      go_wp2_with fail
      refine (cmpCompare i i' _).mono ?_
      rintro e w2 ⟨rfl, rfl⟩
      go_wp2
      exact ⟨rfl, rfl, Gr.refl _, rfl⟩
    · intro vs w1 hr _ hd
      have h4 := hd.get 4 rfl
      change vs 4 = _ at h4
      have h9 := hd.get 9 rfl
      change vs 9 = _ at h9
      have h14 := hd.get 14 rfl
      change vs 14 = _ at h14
      simp only [putL, h4, h9, h14]
      clear hd h4 h9 h14
      go_wp2
      exact ⟨rfl, rfl, Gr.alloc _ _, _, rfl, (MapKept.heap_alloc w1 _).1⟩
    · intro vs w1 hr _ hd
      obtain ⟨g, h0, hg⟩ := hd.get 15 rfl
      simp only [putL, h0]
      clear h0 hd
      go_wp2_with fail
      refine (cmpOr3 _ _ _ g _ (by rw [Lib.cell_of_heap hg]; rfl) (by rw [Lib.cell_of_heap hg]; rfl) (by rw [Lib.cell_of_heap hg]; rfl)).mono ?_
      rintro e w2 ⟨rfl, rfl⟩
      go_wp2
      exact ⟨rfl, rfl, Gr.refl _, rfl⟩
    · intro vs w1 hr _ hd
      have h16 := hd.get 16 rfl
      change vs 16 = _ at h16
      simp only [putL, h16]
      clear hd h16
      go_wp2
      exact ⟨rfl, rfl, Gr.refl _, rfl⟩
  · intro vs w1 hr hd
    have h17 := hd.get 17 rfl
    change vs 17 = _ at h17
    simp only [putL, List.getD_cons_zero, List.getD_cons_succ, Act.put, List.setIfInBounds_toArray, List.set_cons_zero, List.set_cons_succ, h17]
    clear h17 hd
    have hfin := Lib.hid (hb0.trans hr)
    clear hb0 k1 k2 hr
    go_wp2
    go_ret
    exact ⟨rfl, hfin.out⟩

end Go.Proofs.Ytchbpfkjhilgiaa
