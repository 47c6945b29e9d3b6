/- Find. -/
import Derived.Test.YteielgdgmmeciaaN
namespace Go.Proofs.Yteielgdgmmeciaa
open Go.RowKit
set_option linter.unusedVariables false

/-- Find's answer. -/
def findN (x : List UInt8) (xs : List (List UInt8)) : Nat := if isSetL xs = true then placeN x xs else 0
def findB (x : List UInt8) (xs : List (List UInt8)) : Bool := isSetL xs && isAt x xs

set_option maxHeartbeats 4000000 in
set_option maxRecDepth 100000 in
theorem find_any (a : Option Addr) (cap : Nat) (xs : List (List UInt8)) (x : List UInt8) (w : World) (hm : xs.length ≤ 1000000) (hin : IdsIn w a xs) (hx : x.length = 32) :
    Calls Try.prog 24 #[.slice a xs.length cap, .agg (idB x)] w fun e w' => e = .returned (.tuple #[.int .i64 (findN x xs), .bool (findB x xs)]) ∧ Below w.heap.size w w' := by
  have hb0 := (Below.refl w.heap.size w).alloc (Nat.le_refl _) (.cells (idB x) 23)
  have hbx := (MapKept.heap_alloc w (.cells (idB x) 23)).1
  have hin1 := hin.below hb0
  have HIN := Lib.hid hin1
  clear hin hin1
  go_enter Try.func24, Try.ntmps24
  go_upto_region 1 with fail
  obtain ⟨W, hW⟩ : ∃ W, W = w.alloc (.cells (idB x) 23) := ⟨_, rfl⟩
  rw [← hW] at hb0 hbx HIN ⊢
  have HWs := Lib.hid (show W.heap.size = w.heap.size + 1 by rw [hW]; simp)
  clear hW
  have HB0 := Lib.hid hb0
  have HBX := Lib.hid hbx
  clear hb0 hbx
  go_wp2_with fail
  refine (isSet_any a cap xs _ hm HIN.out).mono ?_
  rintro e w1 ⟨rfl, hb1⟩
  have HB1 := Lib.hid (HB0.out.trans (hb1.mono (by rw [HWs.out]; omega)))
  obtain ⟨e3, e4⟩ := IdAt.below (b := w.heap.size) (o := 0) (w' := w1) ⟨fits_cells HBX.out (by rw [idB_size, hx]), aggAt_cells HBX.out (by rw [idB_size, hx])⟩ hb1
  have HIN1 := Lib.hid (HIN.out.below hb1)
  clear hb1
  cases hs : isSetL xs with
  | false =>
    have HS := Lib.hid hs
    clear hs
    go_wp2
    go_ret2
    exact ⟨ret_two (by simp [findN, HS.out]) (by simp [findB, HS.out]), HB1.out⟩
  | true =>
    have HS := Lib.hid hs
    clear hs
    go_wp2_with fail
    refine (place_any a cap xs x _ hm HIN1.out hx HS.out).mono ?_
    rintro e w2 ⟨rfl, hb2⟩
    have HB2 := Lib.hid (HB1.out.trans (hb2.mono HB1.out.size))
    clear hb2
    go_wp2
    go_ret2
    exact ⟨ret_two (by simp [findN, HS.out]) (by simp [findB, HS.out]), HB2.out⟩

end Go.Proofs.Yteielgdgmmeciaa
