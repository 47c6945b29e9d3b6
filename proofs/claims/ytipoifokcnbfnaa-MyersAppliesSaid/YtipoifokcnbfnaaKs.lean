/- awake of chapter 16. -/
import Derived.Test.YtipoifokcnbfnaaKo
import Derived.Test.YtipoifokcnbfnaaKr
namespace Go.Proofs.Ytipoifokcnbfnaa
open Go.RowKit
set_option linter.unusedVariables false

theorem aw_chk : chkE (⟨#[97, 98, 99]⟩ : ByteArray).data.toList = 0 ∧ chkE (⟨#[97, 120, 99]⟩ : ByteArray).data.toList = 0 ∧ chkE (⟨#[97, 97, 98]⟩ : ByteArray).data.toList = 0 ∧ chkE (⟨#[97, 98]⟩ : ByteArray).data.toList = 0 := by decide +kernel
theorem aw_run : runesL (⟨#[97, 98, 99]⟩ : ByteArray).data.toList = [97, 98, 99] ∧ runesL (⟨#[97, 120, 99]⟩ : ByteArray).data.toList = [97, 120, 99] ∧ runesL (⟨#[97, 97, 98]⟩ : ByteArray).data.toList = [97, 97, 98] ∧ runesL (⟨#[97, 98]⟩ : ByteArray).data.toList = [97, 98] := by decide +kernel
theorem aw_s1 : script [97, 98, 99] [97, 120, 99] = [1, 2, 3, 1] := by
  have c1 : cst [99] [120, 99] = 1 := by rw [cst_ne _ _ _ _ (by decide), cst_nil, cst_eq, cst_nil]; rfl
  have c2 : cst [98, 99] [99] = 1 := by rw [cst_ne _ _ _ _ (by decide), cst_eq, cst_nil, cst_nil']; rfl
  have c3 : cst [] [120, 99] = 2 := by rw [cst_nil]; rfl
  have c4 : cst [99] [99] = 0 := by rw [cst_eq, cst_nil]; rfl
  rw [script_keep, script_ne _ _ _ _ (by decide), c1, c2, if_pos (by decide), script_ne _ _ _ _ (by decide), c3, c4, if_neg (by decide), script_keep, script_nil]
theorem aw_s2 : script [97, 97, 98] [97, 98] = [1, 2, 1] := by
  have c1 : cst [98] [98] = 0 := by rw [cst_eq, cst_nil]; rfl
  have c2 : cst [97, 98] [] = 2 := by rw [cst_nil']; rfl
  rw [script_keep, script_ne _ _ _ _ (by decide), c1, c2, if_pos (by decide), script_keep, script_nil]
theorem aw_e1 : edits [97, 98, 99] [97, 120, 99] = [(1, 1, [120]), (1, 0, [])] := by unfold edits; rw [aw_s1]; decide +kernel
theorem aw_e2 : edits [97, 97, 98] [97, 98] = [(1, 1, []), (1, 0, [])] := by unfold edits; rw [aw_s2]; decide +kernel
theorem aw_c : costE [(1, 1, [120]), (1, 0, [])] = 2 := by decide +kernel

set_option maxHeartbeats 4000000 in
set_option maxRecDepth 100000 in
theorem awake_any (w : World) : Calls Try.prog 12 #[] w fun e w' => e = .returned (.bool true) ∧ Below w.heap.size w w' := by
  have H1 := Lib.hid (fun w => diff_any ⟨#[97, 98, 99]⟩ ⟨#[97, 120, 99]⟩ (by decide) (by decide) w aw_chk.1 aw_chk.2.1)
  have H2 := Lib.hid (fun w => diff_any ⟨#[97, 97, 98]⟩ ⟨#[97, 98]⟩ (by decide) (by decide) w aw_chk.2.2.1 aw_chk.2.2.2)
  simp only [aw_run.1, aw_run.2.1, aw_run.2.2.1, aw_run.2.2.2, aw_e1, aw_e2] at H1 H2
  have HCC := Lib.hid aw_c
  obtain ⟨L1, hL1⟩ : ∃ L1 : List Ed, L1 = [(1, 1, [120]), (1, 0, [])] := ⟨_, rfl⟩
  obtain ⟨L2, hL2⟩ : ∃ L2 : List Ed, L2 = [(1, 1, []), (1, 0, [])] := ⟨_, rfl⟩
  rw [← hL1] at H1 HCC
  rw [← hL2] at H2
  have HL1 := Lib.hid hL1
  have HL2 := Lib.hid hL2
  have hn1 : L1.length = 2 := by rw [hL1]; rfl
  have hn2 : L2.length = 2 := by rw [hL2]; rfl
  have HLI := Lib.hid (show Light L1 from by rw [hL1]; exact ⟨by decide, by decide⟩)
  clear hL1 hL2
  go_enter Try.func12, Try.ntmps12
  go_wp2_with fail
  refine (H1.out _).mono ?_
  rintro e w1 ⟨v1, rfl, hr1, hb1⟩
  obtain ⟨a1, c1, rfl, _, _, hin1, _⟩ := hr1.sl
  have HI1 := Lib.hid hin1
  have HB1 := Lib.hid hb1
  clear hr1 hb1 hin1
  go_wp2_with fail
  refine (H2.out _).mono ?_
  rintro e w2 ⟨v2, rfl, hr2, hb2⟩
  obtain ⟨a2, c2, rfl, _, _, hin2, _⟩ := hr2.sl
  have HI2 := Lib.hid hin2
  have HI1' := Lib.hid (HI1.out.below hb2)
  have HB2 := Lib.hid (HB1.out.trans (hb2.mono HB1.out.size))
  clear hr2 hb2 hin2 HI1
  have hbn := (Below.refl w2.heap.size w2).alloc (Nat.le_refl _) (.cells #[.int .i64 1, .int .i64 1, .string ⟨#[120]⟩, .int .i64 1, .int .i64 0, .string ⟨#[]⟩] 42)
  have hnew : edR.In (w2.alloc (.cells #[.int .i64 1, .int .i64 1, .string ⟨#[120]⟩, .int .i64 1, .int .i64 0, .string ⟨#[]⟩] 42)) (some ⟨w2.heap.size, 0, none⟩) L1 := by
    rw [HL1.out]; exact Rec.In.new (R := edR) w2 42 [(1, 1, [120]), (1, 0, [])] (fun _ _ => trivial)
  have hs1 := same_any a1 (some ⟨w2.heap.size, 0, none⟩) c1 2 L1 L1 _ (by omega) (by omega) (HI1'.out.below hbn) hnew
  rw [hn1, show (L1 == L1) = true from beq_self_eq_true _] at hs1
  have HS1 := Lib.hid hs1
  have HBN := Lib.hid (HB2.out.trans (hbn.mono HB2.out.size))
  have HI1n := Lib.hid (HI1'.out.below hbn)
  have HI2n := Lib.hid (HI2.out.below hbn)
  clear hbn hnew hs1
  rw [hn2]
  go_wp2_with fail
  refine HS1.out.mono ?_
  rintro e w3 ⟨rfl, hb3⟩
  have HI1o := Lib.hid (HI1n.out.below hb3)
  have HI2o := Lib.hid (HI2n.out.below hb3)
  have HB3 := Lib.hid (HBN.out.trans (hb3.mono HBN.out.size))
  have hbn := (Below.refl w3.heap.size w3).alloc (Nat.le_refl _) (.cells #[.int .i64 1, .int .i64 1, .string ⟨#[]⟩, .int .i64 1, .int .i64 0, .string ⟨#[]⟩] 42)
  have hnew : edR.In (w3.alloc (.cells #[.int .i64 1, .int .i64 1, .string ⟨#[]⟩, .int .i64 1, .int .i64 0, .string ⟨#[]⟩] 42)) (some ⟨w3.heap.size, 0, none⟩) L2 := by
    rw [HL2.out]; exact Rec.In.new (R := edR) w3 42 [(1, 1, []), (1, 0, [])] (fun _ _ => trivial)
  have hs1 := same_any a2 (some ⟨w3.heap.size, 0, none⟩) c2 2 L2 L2 _ (by omega) (by omega) (HI2o.out.below hbn) hnew
  rw [hn2, show (L2 == L2) = true from beq_self_eq_true _] at hs1
  have HS2 := Lib.hid hs1
  have HBN3 := Lib.hid (HB3.out.trans (hbn.mono HB3.out.size))
  have HI1p := Lib.hid (HI1o.out.below hbn)
  clear hb3 hbn hnew hs1
  go_wp2_with fail
  refine HS2.out.mono ?_
  rintro e w4 ⟨rfl, hb4⟩
  have HB4 := Lib.hid (HBN3.out.trans (hb4.mono HBN3.out.size))
  have hc5 := costE_any a1 c1 L1 w4 HLI.out (HI1p.out.below hb4)
  rw [hn1, HCC.out] at hc5
  have HC5 := Lib.hid hc5
  clear hb4 hc5
  go_wp2_with fail
  refine HC5.out.mono ?_
  rintro e w5 ⟨rfl, hb5⟩
  have HB5 := Lib.hid (HB4.out.trans (hb5.mono HB4.out.size))
  clear hb5
  go_wp2
  go_ret
  exact ⟨rfl, HB5.out⟩
end Go.Proofs.Ytipoifokcnbfnaa
