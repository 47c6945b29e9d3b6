/- The laws on two and three keys. -/
import Derived.Test.YteielgdgmmeciaaZa
namespace Go.Proofs.Yteielgdgmmeciaa
open Go.RowKit
set_option linter.unusedVariables false

@[go_sem ↓] theorem load25 (f : Operand → Value) (x : Operand) (dst : Option Tmp) (ty' : TypeId) (pos : String) (after : Array Edge) (guard : Option (Nat × Bool)) (w : World)
    (hp : isPtr (f x) = true) (hf : fits w (addrOf (f x)) 34) :
    (execOp f ⟨dst, .load 25 x, ty', pos, after, guard⟩).run Try.prog w = .ok (.value (.agg (aggAt w (addrOf (f x)) 34))) w :=
  run_exec_load Try.underlying25 rfl (by kernel_rfl) f x dst ty' pos after guard w hp hf

/-- A boxed key, whole and its id. -/
theorem key_new (w : World) (t : Int) (c : List UInt8) (i : Int) (hc : c.length = 32) :
    (fits (w.alloc (.cells (keyB t c i) 25)) ⟨w.heap.size, 0, none⟩ 34 ∧ aggAt (w.alloc (.cells (keyB t c i) 25)) ⟨w.heap.size, 0, none⟩ 34 = keyB t c i) ∧
    (fits (w.alloc (.cells (keyB t c i) 25)) ⟨w.heap.size, 1, none⟩ 32 ∧ aggAt (w.alloc (.cells (keyB t c i) 25)) ⟨w.heap.size, 1, none⟩ 32 = idB c) := by
  have hk : KeyAt (w.alloc (.cells (keyB t c i) 25)) w.heap.size t c i := (MapKept.heap_alloc w _).1
  exact ⟨⟨fits_new w _ _ _ (by rw [keyB_size, hc]), aggAt_new w _ _ _ (by rw [keyB_size, hc])⟩, hk.fits hc, hk.agg hc⟩
theorem key_below {w w' : World} {b : Nat} {K I : Array Value} (hb : Below w.heap.size w w')
    (h : (fits w ⟨b, 0, none⟩ 34 ∧ aggAt w ⟨b, 0, none⟩ 34 = K) ∧ (fits w ⟨b, 1, none⟩ 32 ∧ aggAt w ⟨b, 1, none⟩ 32 = I)) :
    (fits w' ⟨b, 0, none⟩ 34 ∧ aggAt w' ⟨b, 0, none⟩ 34 = K) ∧ (fits w' ⟨b, 1, none⟩ 32 ∧ aggAt w' ⟨b, 1, none⟩ 32 = I) := by
  obtain ⟨⟨h1, h2⟩, h3, h4⟩ := h
  exact ⟨⟨fits_of_block (a := ⟨b, 0, none⟩) (hb.block b h1.lt) h1, (aggAt_of_block (a := ⟨b, 0, none⟩) (hb.block b h1.lt)).trans h2⟩, fits_of_block (a := ⟨b, 1, none⟩) (hb.block b h1.lt) h3, (aggAt_of_block (a := ⟨b, 1, none⟩) (hb.block b h1.lt)).trans h4⟩

set_option maxHeartbeats 1000000 in
set_option maxRecDepth 100000 in
theorem compares_any (t : Int) (c : List UInt8) (i : Int) (t' : Int) (c' : List UInt8) (i' : Int) (hc : c.length = 32) (hc' : c'.length = 32) (w : World) :
    Calls Try.prog 3 #[.agg (keyB t c i), .agg (keyB t' c' i')] w fun e w' => e = .returned (.bool true) ∧ Below w.heap.size w w' := by
  have hb1 := (Below.refl w.heap.size w).alloc (Nat.le_refl _) (.cells (keyB t c i) 25)
  have hb2 := (Below.refl (w.alloc (.cells (keyB t c i) 25)).heap.size (w.alloc (.cells (keyB t c i) 25))).alloc (Nat.le_refl _) (.cells (keyB t' c' i') 25)
  have k1 := key_below hb2 (key_new w t c i hc)
  have k2 := key_new (w.alloc (.cells (keyB t c i) 25)) t' c' i' hc'
  simp only [World.size_alloc] at k2
  obtain ⟨W, hW⟩ : ∃ W, W = (w.alloc (.cells (keyB t c i) 25)).alloc (.cells (keyB t' c' i') 25) := ⟨_, rfl⟩
  have HB := Lib.hid (hb1.trans (hb2.mono hb1.size))
  clear hb1 hb2
  rw [← hW] at k1 k2 HB
  go_enter Try.func3, Try.ntmps3
  go_upto_region 1 with fail
  rw [← hW]
  clear hW
  obtain ⟨⟨d1, d2⟩, d3, d4⟩ := k1
  obtain ⟨⟨f1, f2⟩, f3, f4⟩ := k2
  refine wp_region_over (by kernel_rfl) (by kernel_rfl) ?_
  repeat (go_big_quiet_step (first
    | (go_at_call 11; exact Calls.over_of (compare_any c c' hc hc' _))
    | (go_at_call 12; exact Calls.over_of (rcompare_any c c' hc hc' _))
    | (go_at_call 13; exact Calls.over_of (keys_any t c i t' c' i' hc hc' _))
    | (go_at_call 14; exact Calls.over_of (rkeys_any t c i t' c' i' hc hc' _))
    | (go_at_call 15; exact Calls.over_of (awake_any _))))
  refine wpQuiet_nil ?_
  rintro _ ⟨x0, rfl⟩
  go_wp2
  go_ret
  exact ⟨rfl, HB.out.trans ((ov_below W x0).mono HB.out.size)⟩

end Go.Proofs.Yteielgdgmmeciaa
