/- awake of chapter 3, and the law UtfEncodes. -/
import Derived.Test.YtkfpgbhafeikiaaZ
namespace Go.Proofs.Ytkfpgbhafeikiaa
open Go.RowKit
set_option linter.unusedVariables false

theorem aw1 : may 8364 = true := by decide
theorem aw2 : (⟨(enc 8364).toArray⟩ : ByteArray) = ⟨#[226, 130, 172]⟩ := by decide +kernel
theorem aw3 : chkAt (⟨#[97, 192, 128]⟩ : ByteArray).data.toList = 1 ∧ chkE (⟨#[97, 192, 128]⟩ : ByteArray).data.toList = 5 := by decide +kernel
theorem aw4 : (⟨(cutL (⟨#[97, 206, 177, 98]⟩ : ByteArray).data.toList 1 2).toArray⟩ : ByteArray) = ⟨#[206, 177]⟩ ∧ cutE (⟨#[97, 206, 177, 98]⟩ : ByteArray).data.toList 1 2 = 0 := by decide +kernel

set_option maxHeartbeats 1000000 in
set_option maxRecDepth 100000 in
theorem awake_any (w : World) : Calls Try.prog 13 #[] w fun e w' => e = .returned (.bool true) ∧ Below w.heap.size w w' := by
  go_enter Try.func13, Try.ntmps13
  go_wp2_with fail
  refine (encode_good 8364 aw1 _).mono ?_
  rintro e w1 ⟨rfl, hb1⟩
  rw [aw2]
  go_wp2_with fail
  refine (check_any _ (by decide) _).mono ?_
  rintro e w2 ⟨rfl, rfl⟩
  rw [aw3.1, aw3.2]
  go_wp2_with fail
  refine (cut_any _ _ _ (by decide) _).mono ?_
  rintro e w2 ⟨rfl, hb2⟩
  rw [aw4.1, aw4.2]
  go_wp2
  go_ret
  exact ⟨rfl, hb1.trans (hb2.mono hb1.size)⟩


set_option maxHeartbeats 1000000 in
set_option maxRecDepth 100000 in
theorem utfEncodes_walk (r : Int) (hr : (Lit.int .i32 r).wf = true) (w : World) :
    Calls Try.prog 3 #[.int .i32 r] w fun e w' => e = .returned (.bool true) ∧ Below w.heap.size w w' := by
  cases hm : may r with
  | false =>
    have Hm := Lib.hid hm
    go_enter Try.func3, Try.ntmps3
    go_wp2_with fail
    refine (encode_bad r Hm.out _).mono ?_
    rintro e w1 ⟨rfl, hb1⟩
    go_wp2_with fail
    refine (May_any _ _).mono ?_
    rintro e w2 ⟨rfl, rfl⟩
    rw [Hm.out]
    go_wp2_with fail
    refine (awake_any _).mono ?_
    rintro e w3 ⟨rfl, hb3⟩
    go_wp2
    go_ret
    exact ⟨rfl, hb1.trans (hb3.mono hb1.size)⟩
  | true =>
    have Hm := Lib.hid hm
    go_enter Try.func3, Try.ntmps3
    go_wp2_with fail
    refine (encode_good r Hm.out _).mono ?_
    rintro e w1 ⟨rfl, hb1⟩
    go_wp2_with fail
    refine (May_any _ _).mono ?_
    rintro e w2 ⟨rfl, rfl⟩
    rw [Hm.out]
    go_wp2_with fail
    refine (Bytes_any r Hm.out _).mono ?_
    rintro e w2 ⟨rfl, rfl⟩
    have hcv := conv_of (w1.alloc (.cells ((encV r).map (Value.int .u8)).toArray 5)) w1.heap.size (encV r).length (encV r) rfl (MapKept.heap_alloc w1 _).1
    rw [strOfNums_enc r Hm.out] at hcv
    generalize (encV r).length = n at *
    go_wp2_with fail
    refine (awake_any _).mono ?_
    rintro e w3 ⟨rfl, hb3⟩
    clear hcv
    go_wp2
    go_ret
    exact ⟨rfl, (hb1.alloc hb1.size _).trans (hb3.mono (by simp; have := hb1.size; omega))⟩

end Go.Proofs.Ytkfpgbhafeikiaa
