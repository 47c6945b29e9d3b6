/- The law DagNil. -/
import Derived.Test.YtmmmimkikakalaaOd
namespace Go.Proofs.Ytmmmimkikakalaa
open Go.RowKit Go.WideShapes Go.ChangeShapes Go.ChangeMaps Go.Deep
set_option linter.unusedVariables false

set_option maxHeartbeats 2000000 in
set_option maxRecDepth 100000 in
theorem add_nil (x : List UInt8) (hx : x.length = 32) (w : World) : Calls Try.prog 24 #[.pointer none, .agg (idB x), .slice none 0 0, .int .i64 0] w fun e w' => e = .returned (.int .i64 1) ∧ Below w.heap.size w w' := by
  have hb := Lib.hid ((Below.refl w.heap.size w).alloc (Nat.le_refl _) (.cells (idB x) 24))
  go_enter Try.func24, Try.ntmps24
  go_wp2
  go_ret
  exact ⟨rfl, hb.out⟩
set_option maxHeartbeats 2000000 in
set_option maxRecDepth 100000 in
theorem is_nil (a b : List UInt8) (ha : a.length = 32) (hb : b.length = 32) (w : World) :
    Calls Try.prog 14 #[.pointer none, .agg (idB a), .agg (idB b)] w fun e w' => e = .returned (.bool false) ∧ Below w.heap.size w w' := by
  obtain ⟨W2, hW2⟩ : ∃ W, W = (w.alloc (.cells (idB a) 24)).alloc (.cells (idB b) 24) := ⟨_, rfl⟩
  obtain ⟨b1, hb1⟩ : ∃ b, b = w.heap.size := ⟨_, rfl⟩
  obtain ⟨b2, hb2⟩ : ∃ b, b = w.heap.size + 1 := ⟨_, rfl⟩
  obtain ⟨b3, hb3⟩ : ∃ b, b = w.heap.size + 1 + 1 := ⟨_, rfl⟩
  obtain ⟨hq, a1, a2, c1, c2⟩ := two_boxes w a b ha hb W2 hW2 b1 hb1 b2 hb2
  have hs2 : W2.heap.size = b3 := by rw [hW2, hb3]; simp
  obtain ⟨W, hW⟩ : ∃ W, W = W2.alloc (.cells #[.bool false] 4) := ⟨_, rfl⟩
  have hq3 : Below W2.heap.size W2 W := by rw [hW]; exact (Below.refl _ _).alloc (Nat.le_refl _) _
  have hC3 : W.heap[b3]? = some (.cells #[.bool false] 4 (0, 0)) := by rw [hW, ← hs2]; exact World.alloc_heap_new W2 _
  have a1' := fits_below hq3 a1
  have a2' := (agg_below hq3 a1).trans a2
  have c1' := fits_below hq3 c1
  have c2' := (agg_below hq3 c1).trans c2
  have hbW : Below w.heap.size w W := hq.trans (hq3.mono hq.size)
  have hbW1 := (Below.refl W.heap.size W).alloc (Nat.le_refl _) (.cells (idsC [a, b]).toArray 24)
  have HBW := Lib.hid hbW
  have HBW1 := Lib.hid hbW1
  have HC3 := Lib.hid hC3
  have HLT3 := Lib.hid (show w.heap.size ≤ b3 by omega)
  have hida := idOk_agg a ha
  have hidb := idOk_agg b hb
  clear hq a1 a2 c1 c2 hq3 hC3 hbW hbW1
  refine (callsIn_wide (n := 2)).1 ?_
  refine callsIn_of_wp_marks Try.func14 rfl trivial ?_ rfl
  simp only [Try.ntmps14, List.size_toArray, List.length_cons, List.length_nil, Nat.reduceAdd, Nat.reduceSub, Array.replicate_succ, Array.replicate_zero, List.push_toArray, List.append_toArray, List.nil_append, List.cons_append]
  refine (wpIn_wide (n := 2)).2 ?_
  go_upto_region 1 with fail
  rw [← hW2, ← hW, ← hb3, ← hb2, ← hb1]
  clear hW2 hW hb3 hb2 hb1 hs2
  go_wp2_with fail
  refine (known_nil _ _).mono ?_
  rintro e w2 ⟨rfl, hb2⟩
  have hw2 := HBW1.out.trans (hb2.mono HBW1.out.size)
  have HB2 := Lib.hid (HBW.out.trans (hw2.mono HBW.out.size))
  have hC3 := (hw2.block b3 (Array.getElem?_eq_some_iff.1 HC3.out).1).trans HC3.out
  have HC3' := Lib.hid hC3
  have h1 : w2.cell? ⟨b3, 0, none⟩ = some (.bool false) := by rw [Lib.cell_of_heap hC3]; rfl
  have h2 : w2.frozen? ⟨b3, 0, none⟩ = false := Lib.frozen_of_heap hC3 0
  clear hb2 hw2 a1' a2' c1' c2' hC3
  go_wp2
  have hc5 : (w2.setCell ⟨b3, 0, none⟩ (.bool false)).cell? ⟨b3, 0, none⟩ = some (.bool false) := World.cell?_setCell_same' _ _ _ (by rw [h1]; rfl)
  refine ⟨.bool false, ?_, ?_, ?_⟩
  · simp [results, Try.f14, go_sem, hc5]
  · rfl
  · exact HB2.out.setCell (p := ⟨b3, 0, none⟩) HLT3.out _

set_option maxHeartbeats 4000000 in
set_option maxRecDepth 100000 in
theorem lawNil_any (x : List UInt8) (hx : x.length = 32) (w : World) :
    Calls Try.prog 7 #[.agg (idB x)] w fun e w' => e = .returned (.bool true) ∧ Below w.heap.size w w' := by
  obtain ⟨W, hW⟩ : ∃ W, W = w.alloc (.cells (idB x) 24) := ⟨_, rfl⟩
  obtain ⟨blk, hblk⟩ : ∃ b, b = w.heap.size := ⟨_, rfl⟩
  obtain ⟨hb0, f1, f2, hbq, hin⟩ := box_one w x hx W hW blk hblk
  have HBQ := Lib.hid hb0
  have HBX := Lib.hid (And.intro f1 f2)
  have HX := Lib.hid hx
  clear hb0 hbq hin hx
  go_enter Try.func7, Try.ntmps7
  go_upto_region 1 with fail
  rw [← hW, ← hblk]
  clear hW hblk
  go_wp2_with fail
  refine (past_nil x HX.out W).mono ?_
  rintro e w1 ⟨rfl, h⟩
  have HB1 := Lib.hid h
  clear h f1 f2
  have f1 := fits_below HB1.out HBX.out.1
  have f2 := (agg_below HB1.out HBX.out.1).trans HBX.out.2
  go_wp2_with fail
  refine (log_err none 1 (by decide) x HX.out w1 (fun W' _ => past_nil x HX.out W')).mono ?_
  rintro e w2 ⟨rfl, h⟩
  have HB2 := Lib.hid (HB1.out.trans (h.mono HB1.out.size))
  clear h f1 f2
  have f1 := fits_below HB2.out HBX.out.1
  have f2 := (agg_below HB2.out HBX.out.1).trans HBX.out.2
  go_wp2_with fail
  refine (bases_nil x x HX.out HX.out w2).mono ?_
  rintro e w3 ⟨rfl, h⟩
  have HB3 := Lib.hid (HB2.out.trans (h.mono HB2.out.size))
  clear h f1 f2
  have f1 := fits_below HB3.out HBX.out.1
  have f2 := (agg_below HB3.out HBX.out.1).trans HBX.out.2
  go_wp2_with fail
  refine (add_nil x HX.out w3).mono ?_
  rintro e w4 ⟨rfl, h⟩
  have HB4 := Lib.hid (HB3.out.trans (h.mono HB3.out.size))
  clear h f1 f2
  have f1 := fits_below HB4.out HBX.out.1
  have f2 := (agg_below HB4.out HBX.out.1).trans HBX.out.2
  go_wp2_with fail
  refine (has_nil x w4).mono ?_
  rintro e w5 ⟨rfl, h⟩
  have HB5 := Lib.hid (HB4.out.trans (h.mono HB4.out.size))
  clear h f1 f2
  have f1 := fits_below HB5.out HBX.out.1
  have f2 := (agg_below HB5.out HBX.out.1).trans HBX.out.2
  go_wp2_with fail
  refine (ids_nil w5).mono ?_
  rintro e w6 ⟨rfl, h⟩
  have HB6 := Lib.hid (HB5.out.trans (h.mono HB5.out.size))
  clear h f1 f2
  have f1 := fits_below HB6.out HBX.out.1
  have f2 := (agg_below HB6.out HBX.out.1).trans HBX.out.2
  go_wp2_with fail
  refine (heads_nil w6).mono ?_
  rintro e w7 ⟨rfl, h⟩
  have HB7 := Lib.hid (HB6.out.trans (h.mono HB6.out.size))
  clear h f1 f2
  have f1 := fits_below HB7.out HBX.out.1
  have f2 := (agg_below HB7.out HBX.out.1).trans HBX.out.2
  go_wp2_with fail
  refine (is_nil x x HX.out HX.out w7).mono ?_
  rintro e w8 ⟨rfl, h⟩
  have HB8 := Lib.hid (HB7.out.trans (h.mono HB7.out.size))
  clear h f1 f2
  go_wp2_with fail
  refine (awake_any w8).mono ?_
  rintro e w9 ⟨rfl, h⟩
  have HB9 := Lib.hid (HBQ.out.trans ((HB8.out.trans (h.mono HB8.out.size)).mono HBQ.out.size))
  clear h
  go_wp2_with fail
  go_ret
  exact ⟨rfl, HB9.out⟩
theorem dagNil_walk {H : Type} {enc : TypeId × Value → H} {W : World} {b0 : Nat} {v1 : Value} {d1 : DataW H} {p1 : List MemPlace}
    (k1 : Value.okWide Try.prog W .any b0 24 v1) (h1 : DataW.Trod enc Try.prog W 0 (fun _ => true) true 24 v1 d1 p1) :
    Calls Try.prog 7 #[v1] W fun e w' => e = .returned (.bool true) ∧ Below W.heap.size W w' := by
  obtain ⟨x, hx, rfl⟩ := reads_id (ok_arr Try.underlying24 k1) h1
  exact lawNil_any x hx W
end Go.Proofs.Ytmmmimkikakalaa
