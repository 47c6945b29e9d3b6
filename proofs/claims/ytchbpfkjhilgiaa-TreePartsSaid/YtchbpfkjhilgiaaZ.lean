/- Walks of the functions that write runes: utf.Encode and its closure, variorumref03.Bytes. -/
import Derived.Test.YtchbpfkjhilgiaaY
import Derived.RegionCalls
import Derived.Deep.RegionWith
import Derived.StillTailTactics
namespace Go.Proofs.Ytchbpfkjhilgiaa
open Go.RowKit
set_option linter.unusedVariables false

theorem ret_iU3 {k : IntKind} {a a' : Int} (h1 : a = a') : Ending.returned (.int k a) = .returned (.int k a') := by rw [h1]

set_option maxHeartbeats 400000 in
theorem tail_0 (r : Int) (b : Nat) (hr0 : 0 ≤ r) (hr1 : r ≤ 1114111) (w : World) (hc : w.cell? ⟨b, 0, none⟩ = some (.int .i32 r)) :
    Calls Try.prog 36 #[.int .i64 0, .pointer (some ⟨b, 0, none⟩)] w fun e w' => e = .returned (.int .u8 (128 + r % 64)) ∧ w = w' := by
  go_enter Try.func36, Try.ntmps36
  go_wp2
  go_ret
  exact ⟨rfl, rfl⟩
set_option maxHeartbeats 400000 in
theorem tail_6 (r : Int) (b : Nat) (hr0 : 0 ≤ r) (hr1 : r ≤ 1114111) (w : World) (hc : w.cell? ⟨b, 0, none⟩ = some (.int .i32 r)) :
    Calls Try.prog 36 #[.int .i64 6, .pointer (some ⟨b, 0, none⟩)] w fun e w' => e = .returned (.int .u8 (128 + r / 64 % 64)) ∧ w = w' := by
  go_enter Try.func36, Try.ntmps36
  go_wp2
  go_ret
  exact ⟨rfl, rfl⟩
set_option maxHeartbeats 400000 in
theorem tail_12 (r : Int) (b : Nat) (hr0 : 0 ≤ r) (hr1 : r ≤ 1114111) (w : World) (hc : w.cell? ⟨b, 0, none⟩ = some (.int .i32 r)) :
    Calls Try.prog 36 #[.int .i64 12, .pointer (some ⟨b, 0, none⟩)] w fun e w' => e = .returned (.int .u8 (128 + r / 4096 % 64)) ∧ w = w' := by
  go_enter Try.func36, Try.ntmps36
  go_wp2
  go_ret
  exact ⟨rfl, rfl⟩

/-- A rune's bytes as numbers. -/
def encV (r : Int) : List Int :=
  if r < 128 then [r] else if r < 2048 then [192 + r / 64, 128 + r % 64]
  else if r < 65536 then [224 + r / 4096, 128 + r / 64 % 64, 128 + r % 64]
  else [240 + r / 262144, 128 + r / 4096 % 64, 128 + r / 64 % 64, 128 + r % 64]

theorem encV_enc (r : Int) (hr : may r = true) : (encV r).map (fun n => UInt8.ofNat n.toNat) = enc r := by
  have hm := (may_iff r).1 hr
  unfold encV enc
  by_cases h1 : r < 128
  · simp [h1]
  by_cases h2 : r < 2048
  · simp only [h1, h2, if_true, if_false, List.map_cons, List.map_nil]
    rw [show (192 + r / 64).toNat = 192 + r.toNat / 64 by omega, show (128 + r % 64).toNat = 128 + r.toNat % 64 by omega]
  by_cases h3 : r < 65536
  · simp only [h1, h2, h3, if_true, if_false, List.map_cons, List.map_nil]
    rw [show (224 + r / 4096).toNat = 224 + r.toNat / 4096 by omega, show (128 + r / 64 % 64).toNat = 128 + r.toNat / 64 % 64 by omega, show (128 + r % 64).toNat = 128 + r.toNat % 64 by omega]
  · simp only [h1, h2, h3, if_false, List.map_cons, List.map_nil]
    rw [show (240 + r / 262144).toNat = 240 + r.toNat / 262144 by omega, show (128 + r / 4096 % 64).toNat = 128 + r.toNat / 4096 % 64 by omega, show (128 + r / 64 % 64).toNat = 128 + r.toNat / 64 % 64 by omega, show (128 + r % 64).toNat = 128 + r.toNat % 64 by omega]
theorem encV_len (r : Int) : (encV r).length = (enc r).length := by unfold encV enc; (repeat' split) <;> simp

theorem strOfNums_enc (r : Int) (hr : may r = true) : strOfNums (encV r) = ⟨(enc r).toArray⟩ := by unfold strOfNums; rw [encV_enc r hr]

set_option maxHeartbeats 400000 in
set_option maxRecDepth 100000 in
theorem Bytes_any (r : Int) (hr : may r = true) (w : World) :
    Calls Try.prog 29 #[.int .i32 r] w fun e w' => e = .returned (.slice (some ⟨w.heap.size, 0, none⟩) (encV r).length (encV r).length) ∧ w.alloc (.cells ((encV r).map (Value.int .u8)).toArray 5) = w' := by
  have hm := (may_iff r).1 hr
  unfold encV
  clear hr
  by_cases h1 : r < 128
  · rw [if_pos h1]
    go_enter Try.func29, Try.ntmps29
    go_wp2
    go_ret
    exact ⟨rfl, by simp⟩
  · rw [if_neg h1]
    by_cases h2 : r < 2048
    · rw [if_pos h2]
      go_enter Try.func29, Try.ntmps29
      go_wp2
      go_ret
      exact ⟨rfl, by simp⟩
    · rw [if_neg h2]
      by_cases h3 : r < 65536
      · rw [if_pos h3]
        go_enter Try.func29, Try.ntmps29
        go_wp2
        go_ret
        exact ⟨rfl, by simp⟩
      · rw [if_neg h3]
        go_enter Try.func29, Try.ntmps29
        go_wp2
        go_ret
        exact ⟨rfl, by simp⟩


theorem ret_s {s s' : ByteArray} (h1 : s = s') : Ending.returned (.string s) = .returned (.string s') := by rw [h1]

set_option maxHeartbeats 1000000 in
set_option maxRecDepth 100000 in
theorem encode_bad (r : Int) (hr : may r = false) (w : World) :
    Calls Try.prog 23 #[.int .i32 r] w fun e w' => e = .returned (.tuple #[.string ⟨#[]⟩, .int .i64 5]) ∧ Below w.heap.size w w' := by
  have Hr := Lib.hid hr
  clear hr
  go_enter Try.func23, Try.ntmps23
  go_wp2_with fail
  refine (may_any _ _).mono ?_
  rintro e w1 ⟨rfl, rfl⟩
  rw [Hr.out]
  go_wp2
  go_ret2
  exact ⟨rfl, (Below.refl _ _).alloc (Nat.le_refl _) _⟩

theorem conv_of (X : World) (b n : Nat) (xs : List Int) (hlen : xs.length = n) (hX : X.heap[b]? = some (.cells (xs.map (Value.int .u8)).toArray 5)) :
    (convert 65 9 (.slice (some ⟨b, 0, none⟩) n n)).run Try.prog X = .ok (.string (strOfNums xs)) X := by
  refine run_convert_bytes_arg X 65 5 Try.underlying65 Try.underlying5 b 0 n n xs hlen (fun i hi => ?_) 9 Try.underlying9
  subst hlen
  simp [World.cell?, hX, hi]

theorem heap_new2 (w : World) (o o' : Obj) : (((w.alloc o).alloc o').drew).heap[w.heap.size + 1]? = some o' := by
  show ((w.heap.push o).push o')[w.heap.size + 1]? = some o'
  rw [Array.getElem?_push, if_pos (by simp)]
theorem heap_new2' (w : World) (o o' : Obj) : (((w.alloc o).alloc o')).heap[w.heap.size + 1]? = some o' := by
  show ((w.heap.push o).push o')[w.heap.size + 1]? = some o'
  rw [Array.getElem?_push, if_pos (by simp)]

theorem below_2 (w : World) (o o' : Obj) : Below w.heap.size w ((w.alloc o).alloc o') := ((Below.refl _ _).alloc (Nat.le_refl _) o).alloc (by simp) o'

set_option maxHeartbeats 1000000 in
set_option maxRecDepth 100000 in
theorem encode_1 (r : Int) (hr : may r = true) (h1 : r < 128) (w : World) :
    Calls Try.prog 23 #[.int .i32 r] w fun e w' => e = .returned (.tuple #[.string ⟨(enc r).toArray⟩, .int .i64 0]) ∧ Below w.heap.size w w' := by
  have hm := (may_iff r).1 hr
  have hs := strOfNums_enc r hr
  have he : encV r = [r] := by unfold encV; rw [if_pos h1]
  rw [he] at hs
  have Hr := Lib.hid hr
  clear hr he
  have hmf : ∀ (fn : Fn) (first cap : Array Value) (w : World), (Instr.makeFunc fn first cap).run Try.prog w = .ok (.func fn first cap) w := fun _ _ _ _ => rfl
  have hcv := Lib.hid (conv_of ((w.alloc (.cells #[.int .i32 r] 21)).alloc (.cells #[.int .u8 r] 5)) (w.heap.size + 1) 1 [r] rfl (heap_new2' _ _ _))
  rw [hs] at hcv
  clear hs
  go_enter Try.func23, Try.ntmps23
  go_wp2_with fail
  refine (may_any _ _).mono ?_
  rintro e w1 ⟨rfl, rfl⟩
  rw [Hr.out]
  have hcv' := hcv.out
  clear hcv
  go_wp2
  go_ret2
  exact ⟨rfl, below_2 _ _ _⟩

set_option maxHeartbeats 1000000 in
set_option maxRecDepth 100000 in
theorem encode_2 (r : Int) (hr : may r = true) (h1 : ¬ r < 128) (h2 : r < 2048) (w : World) :
    Calls Try.prog 23 #[.int .i32 r] w fun e w' => e = .returned (.tuple #[.string ⟨(enc r).toArray⟩, .int .i64 0]) ∧ Below w.heap.size w w' := by
  have hm := (may_iff r).1 hr
  have hs := strOfNums_enc r hr
  have he : encV r = [192 + r / 64, 128 + r % 64] := by unfold encV; rw [if_neg h1, if_pos h2]
  rw [he] at hs
  have Hr := Lib.hid hr
  clear hr he
  have hmf : ∀ (fn : Fn) (first cap : Array Value) (w : World), (Instr.makeFunc fn first cap).run Try.prog w = .ok (.func fn first cap) w := fun _ _ _ _ => rfl
  have hcv := Lib.hid (conv_of (((w.alloc (.cells #[.int .i32 r] 21)).alloc (.cells #[.int .u8 (192 + r / 64), .int .u8 (128 + r % 64)] 5)).drew) (w.heap.size + 1) 2 [192 + r / 64, 128 + r % 64] rfl (heap_new2 _ _ _))
  rw [hs] at hcv
  clear hs
  have HT := Lib.hid (fun (W : World) (hc : W.cell? ⟨w.heap.size, 0, none⟩ = some (.int .i32 r)) => tail_0 r w.heap.size (by omega) (by omega) W hc)
  go_enter Try.func23, Try.ntmps23
  go_wp2_with fail
  refine (may_any _ _).mono ?_
  rintro e w1 ⟨rfl, rfl⟩
  rw [Hr.out]
  go_wp2_with fail
  go_region_with ((go_at_call 36; refine (HT.out _ (by simp)).mono ?_; rintro e w' ⟨rfl, rfl⟩))
  all_goals
    have hcv' := hcv.out
    clear hcv
    go_wp2
    go_ret2
    exact ⟨rfl, (below_2 _ _ _).drew⟩

set_option maxHeartbeats 2000000 in
set_option maxRecDepth 100000 in
theorem encode_3 (r : Int) (hr : may r = true) (h1 : ¬ r < 2048) (h2 : r < 65536) (w : World) :
    Calls Try.prog 23 #[.int .i32 r] w fun e w' => e = .returned (.tuple #[.string ⟨(enc r).toArray⟩, .int .i64 0]) ∧ Below w.heap.size w w' := by
  have hm := (may_iff r).1 hr
  have hs := strOfNums_enc r hr
  have he : encV r = [224 + r / 4096, 128 + r / 64 % 64, 128 + r % 64] := by unfold encV; rw [if_neg (by omega), if_neg h1, if_pos h2]
  rw [he] at hs
  have Hr := Lib.hid hr
  clear hr he
  have hmf : ∀ (fn : Fn) (first cap : Array Value) (w : World), (Instr.makeFunc fn first cap).run Try.prog w = .ok (.func fn first cap) w := fun _ _ _ _ => rfl
  have hcv := Lib.hid (conv_of (((w.alloc (.cells #[.int .i32 r] 21)).alloc (.cells #[.int .u8 (224 + r / 4096), .int .u8 (128 + r / 64 % 64), .int .u8 (128 + r % 64)] 5)).drew) (w.heap.size + 1) 3 [224 + r / 4096, 128 + r / 64 % 64, 128 + r % 64] rfl (heap_new2 _ _ _))
  rw [hs] at hcv
  clear hs
  have HT := Lib.hid (fun (W : World) (hc : W.cell? ⟨w.heap.size, 0, none⟩ = some (.int .i32 r)) => tail_0 r w.heap.size (by omega) (by omega) W hc)
  have HT6 := Lib.hid (fun (W : World) (hc : W.cell? ⟨w.heap.size, 0, none⟩ = some (.int .i32 r)) => tail_6 r w.heap.size (by omega) (by omega) W hc)
  go_enter Try.func23, Try.ntmps23
  go_wp2_with fail
  refine (may_any _ _).mono ?_
  rintro e w1 ⟨rfl, rfl⟩
  rw [Hr.out]
  go_wp2_with fail
  go_region_with (first | ((go_at_call 36; (with_reducible refine (HT.out _ (by simp)).mono ?_); rintro e w' ⟨rfl, rfl⟩)) | ((go_at_call 36; (with_reducible refine (HT6.out _ (by simp)).mono ?_); rintro e w' ⟨rfl, rfl⟩)))
  all_goals
    have hcv' := hcv.out
    clear hcv
    go_wp2
    go_ret2
    exact ⟨rfl, (below_2 _ _ _).drew⟩

set_option maxHeartbeats 8000000 in
set_option maxRecDepth 100000 in
theorem encode_4 (r : Int) (hr : may r = true) (h1 : ¬ r < 65536) (w : World) :
    Calls Try.prog 23 #[.int .i32 r] w fun e w' => e = .returned (.tuple #[.string ⟨(enc r).toArray⟩, .int .i64 0]) ∧ Below w.heap.size w w' := by
  have hm := (may_iff r).1 hr
  have hs := strOfNums_enc r hr
  have he : encV r = [240 + r / 262144, 128 + r / 4096 % 64, 128 + r / 64 % 64, 128 + r % 64] := by unfold encV; rw [if_neg (by omega), if_neg (by omega), if_neg h1]
  rw [he] at hs
  have Hr := Lib.hid hr
  clear hr he
  have hmf : ∀ (fn : Fn) (first cap : Array Value) (w : World), (Instr.makeFunc fn first cap).run Try.prog w = .ok (.func fn first cap) w := fun _ _ _ _ => rfl
  have hcv := Lib.hid (conv_of (((w.alloc (.cells #[.int .i32 r] 21)).alloc (.cells #[.int .u8 (240 + r / 262144), .int .u8 (128 + r / 4096 % 64), .int .u8 (128 + r / 64 % 64), .int .u8 (128 + r % 64)] 5)).drew) (w.heap.size + 1) 4 [240 + r / 262144, 128 + r / 4096 % 64, 128 + r / 64 % 64, 128 + r % 64] rfl (heap_new2 _ _ _))
  rw [hs] at hcv
  clear hs
  have HT := Lib.hid (fun (W : World) (hc : W.cell? ⟨w.heap.size, 0, none⟩ = some (.int .i32 r)) => tail_0 r w.heap.size (by omega) (by omega) W hc)
  have HT6 := Lib.hid (fun (W : World) (hc : W.cell? ⟨w.heap.size, 0, none⟩ = some (.int .i32 r)) => tail_6 r w.heap.size (by omega) (by omega) W hc)
  have HT12 := Lib.hid (fun (W : World) (hc : W.cell? ⟨w.heap.size, 0, none⟩ = some (.int .i32 r)) => tail_12 r w.heap.size (by omega) (by omega) W hc)
  go_enter Try.func23, Try.ntmps23
  go_wp2_with fail
  refine (may_any _ _).mono ?_
  rintro e w1 ⟨rfl, rfl⟩
  rw [Hr.out]
  go_wp2_with fail
  go_region_with (first | ((go_at_call 36; (with_reducible refine (HT.out _ (by simp)).mono ?_); rintro e w' ⟨rfl, rfl⟩)) | ((go_at_call 36; (with_reducible refine (HT6.out _ (by simp)).mono ?_); rintro e w' ⟨rfl, rfl⟩)) | ((go_at_call 36; (with_reducible refine (HT12.out _ (by simp)).mono ?_); rintro e w' ⟨rfl, rfl⟩)))
  all_goals
    have hcv' := hcv.out
    clear hcv
    go_wp2
    go_ret2
    exact ⟨rfl, (below_2 _ _ _).drew⟩

theorem encode_good (r : Int) (hr : may r = true) (w : World) :
    Calls Try.prog 23 #[.int .i32 r] w fun e w' => e = .returned (.tuple #[.string ⟨(enc r).toArray⟩, .int .i64 0]) ∧ Below w.heap.size w w' := by
  by_cases h1 : r < 128
  · exact encode_1 r hr h1 w
  by_cases h2 : r < 2048
  · exact encode_2 r hr h1 h2 w
  by_cases h3 : r < 65536
  · exact encode_3 r hr h2 h3 w
  · exact encode_4 r hr h3 w

end Go.Proofs.Ytchbpfkjhilgiaa
