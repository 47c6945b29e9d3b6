/- Walks of the functions that write runes: utf.Encode and its closure, variorumref03.Bytes. -/
import Derived.Test.YtcgioboiebanpaaY
import Derived.RegionCalls
import Derived.Deep.RegionWith
import Derived.StillTailTactics
import Derived.Deep.QuietTactic
import Derived.BigQuiet
import Derived.Deep.LoopGhost
import Derived.Deep.DeepCutAuto
import Derived.Deep.CutBlock
namespace Go.Proofs.Ytcgioboiebanpaa
open Go.RowKit
set_option linter.unusedVariables false

theorem ret_i {k : IntKind} {a a' : Int} (h1 : a = a') : Ending.returned (.int k a) = .returned (.int k a') := by rw [h1]

set_option maxHeartbeats 400000 in
theorem tail_0 (r : Int) (b : Nat) (hr0 : 0 ≤ r) (hr1 : r ≤ 1114111) (w : World) (hc : w.cell? ⟨b, 0, none⟩ = some (.int .i32 r)) :
    Calls Try.prog 62 #[.int .i64 0, .pointer (some ⟨b, 0, none⟩)] w fun e w' => e = .returned (.int .u8 (128 + r % 64)) ∧ w = w' := by
  go_enter Try.func62, Try.ntmps62
  go_wp2
  go_ret
  exact ⟨rfl, rfl⟩
set_option maxHeartbeats 400000 in
theorem tail_6 (r : Int) (b : Nat) (hr0 : 0 ≤ r) (hr1 : r ≤ 1114111) (w : World) (hc : w.cell? ⟨b, 0, none⟩ = some (.int .i32 r)) :
    Calls Try.prog 62 #[.int .i64 6, .pointer (some ⟨b, 0, none⟩)] w fun e w' => e = .returned (.int .u8 (128 + r / 64 % 64)) ∧ w = w' := by
  go_enter Try.func62, Try.ntmps62
  go_wp2
  go_ret
  exact ⟨rfl, rfl⟩
set_option maxHeartbeats 400000 in
theorem tail_12 (r : Int) (b : Nat) (hr0 : 0 ≤ r) (hr1 : r ≤ 1114111) (w : World) (hc : w.cell? ⟨b, 0, none⟩ = some (.int .i32 r)) :
    Calls Try.prog 62 #[.int .i64 12, .pointer (some ⟨b, 0, none⟩)] w fun e w' => e = .returned (.int .u8 (128 + r / 4096 % 64)) ∧ w = w' := by
  go_enter Try.func62, Try.ntmps62
  go_wp2
  go_ret
  exact ⟨rfl, rfl⟩

/-- A rune's bytes as numbers. -/
def encV (r : Int) : List Int :=
  if r < 128 then [r] else if r < 2048 then [192 + r / 64, 128 + r % 64]
  else if r < 65536 then [224 + r / 4096, 128 + r / 64 % 64, 128 + r % 64]
  else [240 + r / 262144, 128 + r / 4096 % 64, 128 + r / 64 % 64, 128 + r % 64]

theorem encV_enc (r : Int) (hr : may r = true) : (encV r).map (fun n => UInt8.ofNat n.toNat) = enc r := by
  have hm := (may_iff r).1 hr
  unfold encV enc
  by_cases h1 : r < 128
  · simp [h1]
  by_cases h2 : r < 2048
  · simp only [h1, h2, if_true, if_false, List.map_cons, List.map_nil]
    rw [show (192 + r / 64).toNat = 192 + r.toNat / 64 by omega, show (128 + r % 64).toNat = 128 + r.toNat % 64 by omega]
  by_cases h3 : r < 65536
  · simp only [h1, h2, h3, if_true, if_false, List.map_cons, List.map_nil]
    rw [show (224 + r / 4096).toNat = 224 + r.toNat / 4096 by omega, show (128 + r / 64 % 64).toNat = 128 + r.toNat / 64 % 64 by omega, show (128 + r % 64).toNat = 128 + r.toNat % 64 by omega]
  · simp only [h1, h2, h3, if_false, List.map_cons, List.map_nil]
    rw [show (240 + r / 262144).toNat = 240 + r.toNat / 262144 by omega, show (128 + r / 4096 % 64).toNat = 128 + r.toNat / 4096 % 64 by omega, show (128 + r / 64 % 64).toNat = 128 + r.toNat / 64 % 64 by omega, show (128 + r % 64).toNat = 128 + r.toNat % 64 by omega]
theorem encV_len (r : Int) : (encV r).length = (enc r).length := by unfold encV enc; (repeat' split) <;> simp

theorem strOfNums_enc (r : Int) (hr : may r = true) : strOfNums (encV r) = ⟨(enc r).toArray⟩ := by unfold strOfNums; rw [encV_enc r hr]

set_option maxHeartbeats 400000 in
set_option maxRecDepth 100000 in
theorem Bytes_any (r : Int) (hr : may r = true) (w : World) :
    Calls Try.prog 56 #[.int .i32 r] w fun e w' => e = .returned (.slice (some ⟨w.heap.size, 0, none⟩) (encV r).length (encV r).length) ∧ w.alloc (.cells ((encV r).map (Value.int .u8)).toArray 5) = w' := by
  have hm := (may_iff r).1 hr
  unfold encV
  clear hr
  by_cases h1 : r < 128
  · rw [if_pos h1]
    go_enter Try.func56, Try.ntmps56
    go_wp2
    go_ret
    exact ⟨rfl, by simp⟩
  · rw [if_neg h1]
    by_cases h2 : r < 2048
    · rw [if_pos h2]
      go_enter Try.func56, Try.ntmps56
      go_wp2
      go_ret
      exact ⟨rfl, by simp⟩
    · rw [if_neg h2]
      by_cases h3 : r < 65536
      · rw [if_pos h3]
        go_enter Try.func56, Try.ntmps56
        go_wp2
        go_ret
        exact ⟨rfl, by simp⟩
      · rw [if_neg h3]
        go_enter Try.func56, Try.ntmps56
        go_wp2
        go_ret
        exact ⟨rfl, by simp⟩


theorem ret_s {s s' : ByteArray} (h1 : s = s') : Ending.returned (.string s) = .returned (.string s') := by rw [h1]

set_option maxHeartbeats 1000000 in
set_option maxRecDepth 100000 in
theorem encode_bad (r : Int) (hr : may r = false) (w : World) :
    Calls Try.prog 49 #[.int .i32 r] w fun e w' => e = .returned (.tuple #[.string ⟨#[]⟩, .int .i64 5]) ∧ Below w.heap.size w w' := by
  have Hr := Lib.hid hr
  clear hr
  go_enter Try.func49, Try.ntmps49
  go_wp2_with fail
  refine (may_any _ _).mono ?_
  rintro e w1 ⟨rfl, rfl⟩
  rw [Hr.out]
  go_wp2
  go_ret2
  exact ⟨rfl, (Below.refl _ _).alloc (Nat.le_refl _) _⟩

theorem conv_of (X : World) (b n : Nat) (xs : List Int) (hlen : xs.length = n) (hX : X.heap[b]? = some (.cells (xs.map (Value.int .u8)).toArray 5)) :
    (convert 74 9 (.slice (some ⟨b, 0, none⟩) n n)).run Try.prog X = .ok (.string (strOfNums xs)) X := by
  refine run_convert_bytes_arg X 74 5 Try.underlying74 Try.underlying5 b 0 n n xs hlen (fun i hi => ?_) 9 Try.underlying9
  subst hlen
  simp [World.cell?, hX, hi]

theorem heap_new2 (w : World) (o o' : Obj) : (((w.alloc o).alloc o').drew).heap[w.heap.size + 1]? = some o' := by
  show ((w.heap.push o).push o')[w.heap.size + 1]? = some o'
  rw [Array.getElem?_push, if_pos (by simp)]
theorem heap_new2' (w : World) (o o' : Obj) : (((w.alloc o).alloc o')).heap[w.heap.size + 1]? = some o' := by
  show ((w.heap.push o).push o')[w.heap.size + 1]? = some o'
  rw [Array.getElem?_push, if_pos (by simp)]

theorem below_2 (w : World) (o o' : Obj) : Below w.heap.size w ((w.alloc o).alloc o') := ((Below.refl _ _).alloc (Nat.le_refl _) o).alloc (by simp) o'

set_option maxHeartbeats 1000000 in
set_option maxRecDepth 100000 in
theorem encode_1 (r : Int) (hr : may r = true) (h1 : r < 128) (w : World) :
    Calls Try.prog 49 #[.int .i32 r] w fun e w' => e = .returned (.tuple #[.string ⟨(enc r).toArray⟩, .int .i64 0]) ∧ Below w.heap.size w w' := by
  have hm := (may_iff r).1 hr
  have hs := strOfNums_enc r hr
  have he : encV r = [r] := by unfold encV; rw [if_pos h1]
  rw [he] at hs
  have Hr := Lib.hid hr
  clear hr he
  have hmf : ∀ (fn : Fn) (first cap : Array Value) (w : World), (Instr.makeFunc fn first cap).run Try.prog w = .ok (.func fn first cap) w := fun _ _ _ _ => rfl
  have hcv := Lib.hid (conv_of ((w.alloc (.cells #[.int .i32 r] 21)).alloc (.cells #[.int .u8 r] 5)) (w.heap.size + 1) 1 [r] rfl (heap_new2' _ _ _))
  rw [hs] at hcv
  clear hs
  go_enter Try.func49, Try.ntmps49
  go_wp2_with fail
  refine (may_any _ _).mono ?_
  rintro e w1 ⟨rfl, rfl⟩
  rw [Hr.out]
  have hcv' := hcv.out
  clear hcv
  go_wp2
  go_ret2
  exact ⟨rfl, below_2 _ _ _⟩

set_option maxHeartbeats 1000000 in
set_option maxRecDepth 100000 in
theorem encode_2 (r : Int) (hr : may r = true) (h1 : ¬ r < 128) (h2 : r < 2048) (w : World) :
    Calls Try.prog 49 #[.int .i32 r] w fun e w' => e = .returned (.tuple #[.string ⟨(enc r).toArray⟩, .int .i64 0]) ∧ Below w.heap.size w w' := by
  have hm := (may_iff r).1 hr
  have hs := strOfNums_enc r hr
  have he : encV r = [192 + r / 64, 128 + r % 64] := by unfold encV; rw [if_neg h1, if_pos h2]
  rw [he] at hs
  have Hr := Lib.hid hr
  clear hr he
  have hmf : ∀ (fn : Fn) (first cap : Array Value) (w : World), (Instr.makeFunc fn first cap).run Try.prog w = .ok (.func fn first cap) w := fun _ _ _ _ => rfl
  have hcv := Lib.hid (conv_of (((w.alloc (.cells #[.int .i32 r] 21)).alloc (.cells #[.int .u8 (192 + r / 64), .int .u8 (128 + r % 64)] 5)).drew) (w.heap.size + 1) 2 [192 + r / 64, 128 + r % 64] rfl (heap_new2 _ _ _))
  rw [hs] at hcv
  clear hs
  have HT := Lib.hid (fun (W : World) (hc : W.cell? ⟨w.heap.size, 0, none⟩ = some (.int .i32 r)) => tail_0 r w.heap.size (by omega) (by omega) W hc)
  go_enter Try.func49, Try.ntmps49
  go_wp2_with fail
  refine (may_any _ _).mono ?_
  rintro e w1 ⟨rfl, rfl⟩
  rw [Hr.out]
  go_wp2_with fail
  go_region_with ((go_at_call 62; refine (HT.out _ (by simp)).mono ?_; rintro e w' ⟨rfl, rfl⟩))
  all_goals
    have hcv' := hcv.out
    clear hcv
    go_wp2
    go_ret2
    exact ⟨rfl, (below_2 _ _ _).drew⟩

set_option maxHeartbeats 2000000 in
set_option maxRecDepth 100000 in
theorem encode_3 (r : Int) (hr : may r = true) (h1 : ¬ r < 2048) (h2 : r < 65536) (w : World) :
    Calls Try.prog 49 #[.int .i32 r] w fun e w' => e = .returned (.tuple #[.string ⟨(enc r).toArray⟩, .int .i64 0]) ∧ Below w.heap.size w w' := by
  have hm := (may_iff r).1 hr
  have hs := strOfNums_enc r hr
  have he : encV r = [224 + r / 4096, 128 + r / 64 % 64, 128 + r % 64] := by unfold encV; rw [if_neg (by omega), if_neg h1, if_pos h2]
  rw [he] at hs
  have Hr := Lib.hid hr
  clear hr he
  have hmf : ∀ (fn : Fn) (first cap : Array Value) (w : World), (Instr.makeFunc fn first cap).run Try.prog w = .ok (.func fn first cap) w := fun _ _ _ _ => rfl
  have hcv := Lib.hid (conv_of (((w.alloc (.cells #[.int .i32 r] 21)).alloc (.cells #[.int .u8 (224 + r / 4096), .int .u8 (128 + r / 64 % 64), .int .u8 (128 + r % 64)] 5)).drew) (w.heap.size + 1) 3 [224 + r / 4096, 128 + r / 64 % 64, 128 + r % 64] rfl (heap_new2 _ _ _))
  rw [hs] at hcv
  clear hs
  have HT := Lib.hid (fun (W : World) (hc : W.cell? ⟨w.heap.size, 0, none⟩ = some (.int .i32 r)) => tail_0 r w.heap.size (by omega) (by omega) W hc)
  have HT6 := Lib.hid (fun (W : World) (hc : W.cell? ⟨w.heap.size, 0, none⟩ = some (.int .i32 r)) => tail_6 r w.heap.size (by omega) (by omega) W hc)
  go_enter Try.func49, Try.ntmps49
  go_wp2_with fail
  refine (may_any _ _).mono ?_
  rintro e w1 ⟨rfl, rfl⟩
  rw [Hr.out]
  go_wp2_with fail
  go_region_with (first | ((go_at_call 62; (with_reducible refine (HT.out _ (by simp)).mono ?_); rintro e w' ⟨rfl, rfl⟩)) | ((go_at_call 62; (with_reducible refine (HT6.out _ (by simp)).mono ?_); rintro e w' ⟨rfl, rfl⟩)))
  all_goals
    have hcv' := hcv.out
    clear hcv
    go_wp2
    go_ret2
    exact ⟨rfl, (below_2 _ _ _).drew⟩

set_option maxHeartbeats 8000000 in
set_option maxRecDepth 100000 in
theorem encode_4 (r : Int) (hr : may r = true) (h1 : ¬ r < 65536) (w : World) :
    Calls Try.prog 49 #[.int .i32 r] w fun e w' => e = .returned (.tuple #[.string ⟨(enc r).toArray⟩, .int .i64 0]) ∧ Below w.heap.size w w' := by
  have hm := (may_iff r).1 hr
  have hs := strOfNums_enc r hr
  have he : encV r = [240 + r / 262144, 128 + r / 4096 % 64, 128 + r / 64 % 64, 128 + r % 64] := by unfold encV; rw [if_neg (by omega), if_neg (by omega), if_neg h1]
  rw [he] at hs
  have Hr := Lib.hid hr
  clear hr he
  have hmf : ∀ (fn : Fn) (first cap : Array Value) (w : World), (Instr.makeFunc fn first cap).run Try.prog w = .ok (.func fn first cap) w := fun _ _ _ _ => rfl
  have hcv := Lib.hid (conv_of (((w.alloc (.cells #[.int .i32 r] 21)).alloc (.cells #[.int .u8 (240 + r / 262144), .int .u8 (128 + r / 4096 % 64), .int .u8 (128 + r / 64 % 64), .int .u8 (128 + r % 64)] 5)).drew) (w.heap.size + 1) 4 [240 + r / 262144, 128 + r / 4096 % 64, 128 + r / 64 % 64, 128 + r % 64] rfl (heap_new2 _ _ _))
  rw [hs] at hcv
  clear hs
  have HT := Lib.hid (fun (W : World) (hc : W.cell? ⟨w.heap.size, 0, none⟩ = some (.int .i32 r)) => tail_0 r w.heap.size (by omega) (by omega) W hc)
  have HT6 := Lib.hid (fun (W : World) (hc : W.cell? ⟨w.heap.size, 0, none⟩ = some (.int .i32 r)) => tail_6 r w.heap.size (by omega) (by omega) W hc)
  have HT12 := Lib.hid (fun (W : World) (hc : W.cell? ⟨w.heap.size, 0, none⟩ = some (.int .i32 r)) => tail_12 r w.heap.size (by omega) (by omega) W hc)
  go_enter Try.func49, Try.ntmps49
  go_wp2_with fail
  refine (may_any _ _).mono ?_
  rintro e w1 ⟨rfl, rfl⟩
  rw [Hr.out]
  go_wp2_with fail
  go_region_with (first | ((go_at_call 62; (with_reducible refine (HT.out _ (by simp)).mono ?_); rintro e w' ⟨rfl, rfl⟩)) | ((go_at_call 62; (with_reducible refine (HT6.out _ (by simp)).mono ?_); rintro e w' ⟨rfl, rfl⟩)) | ((go_at_call 62; (with_reducible refine (HT12.out _ (by simp)).mono ?_); rintro e w' ⟨rfl, rfl⟩)))
  all_goals
    have hcv' := hcv.out
    clear hcv
    go_wp2
    go_ret2
    exact ⟨rfl, (below_2 _ _ _).drew⟩

theorem encode_good (r : Int) (hr : may r = true) (w : World) :
    Calls Try.prog 49 #[.int .i32 r] w fun e w' => e = .returned (.tuple #[.string ⟨(enc r).toArray⟩, .int .i64 0]) ∧ Below w.heap.size w w' := by
  by_cases h1 : r < 128
  · exact encode_1 r hr h1 w
  by_cases h2 : r < 2048
  · exact encode_2 r hr h1 h2 w
  by_cases h3 : r < 65536
  · exact encode_3 r hr h2 h3 w
  · exact encode_4 r hr h3 w

end Go.Proofs.Ytcgioboiebanpaa

namespace Go.Proofs.Ytcgioboiebanpaa
open Go.RowKit
set_option linter.unusedVariables false

/-- The number that One reckons of n bytes. -/
def oneV (n : Nat) (l : List UInt8) : Int :=
  match n, l with
  | 1, a :: _ => (a.toNat : Int)
  | 2, a :: b :: _ => ((a.toNat : Int) - 192) * 64 + b.toNat - 128
  | 3, a :: b :: c :: _ => ((a.toNat : Int) - 224) * 4096 + ((b.toNat : Int) - 128) * 64 + c.toNat - 128
  | 4, a :: b :: c :: d :: _ => ((a.toNat : Int) - 240) * 262144 + ((b.toNat : Int) - 128) * 4096 + ((c.toNat : Int) - 128) * 64 + d.toNat - 128
  | _, _ => 0

theorem one_hit {l : List UInt8} {n : Nat} {v : Int} (hm : may v = true) (h : enc v = l.take n) (hn : n ≤ l.length) : dec1 l = some (v, n) := by
  have e : l = enc v ++ l.drop n := by rw [h, List.take_append_drop]
  have hl : (enc v).length = n := by rw [h]; simp; omega
  rw [e, dec1_enc v _ hm, hl]

theorem one_conv {l : List UInt8} {n : Nat} {r : Int} (h : dec1 l = some (r, n)) : may r = true ∧ enc r = l.take n ∧ oneV n l = r ∧ 1 ≤ n ∧ n ≤ 4 ∧ n ≤ l.length := by
  obtain ⟨hm, t, rfl, rfl⟩ := dec1_some h
  have hm' := (may_iff r).1 hm
  refine ⟨hm, by simp, ?_, (enc_ne r).1, (enc_ne r).2, by simp⟩
  unfold enc
  by_cases h1 : r < 128
  · rw [if_pos h1]
    have e0 := toNat_of r.toNat (by omega)
    simp only [List.length_cons, List.length_nil, List.cons_append, List.nil_append, oneV, e0]
    omega
  rw [if_neg h1]
  by_cases h2 : r < 2048
  · rw [if_pos h2]
    have e0 := toNat_of (192 + r.toNat / 64) (by omega)
    have e1 := toNat_of (128 + r.toNat % 64) (by omega)
    simp only [List.length_cons, List.length_nil, List.cons_append, List.nil_append, oneV, e0, e1]
    omega
  rw [if_neg h2]
  by_cases h3 : r < 65536
  · rw [if_pos h3]
    have e0 := toNat_of (224 + r.toNat / 4096) (by omega)
    have e1 := toNat_of (128 + r.toNat / 64 % 64) (by omega)
    have e2 := toNat_of (128 + r.toNat % 64) (by omega)
    simp only [List.length_cons, List.length_nil, List.cons_append, List.nil_append, oneV, e0, e1, e2]
    omega
  · rw [if_neg h3]
    have e0 := toNat_of (240 + r.toNat / 262144) (by omega)
    have e3 := toNat_of (128 + r.toNat / 4096 % 64) (by omega)
    have e1 := toNat_of (128 + r.toNat / 64 % 64) (by omega)
    have e2 := toNat_of (128 + r.toNat % 64) (by omega)
    simp only [List.length_cons, List.length_nil, List.cons_append, List.nil_append, oneV, e0, e1, e2, e3]
    omega

theorem oneV_bd (n : Nat) (l : List UInt8) : -100000000 ≤ oneV n l ∧ oneV n l ≤ 100000000 := by
  unfold oneV
  split
  · rename_i a _; have := a.toNat_lt; omega
  · rename_i a b _; have := a.toNat_lt; have := b.toNat_lt; omega
  · rename_i a b c _; have := a.toNat_lt; have := b.toNat_lt; have := c.toNat_lt; omega
  · rename_i a b c d _; have := a.toNat_lt; have := b.toNat_lt; have := c.toNat_lt; have := d.toNat_lt; omega
  · omega

/-- What One hands back. -/
def oneOf (l : List UInt8) : Int × Int := match dec1 l with | some (r, k) => (r, (k : Int)) | none => (0, 0)

theorem oneV_at (s : ByteArray) (p k : Nat) (h1 : 1 ≤ k) (h4 : k ≤ 4) (hks : p + k ≤ s.size) :
    oneV k (s.data.toList.drop p) = if h : k = 1 then (s[p].toNat : Int) else if h : k = 2 then ((s[p].toNat : Int) - 192) * 64 + s[p + 1].toNat - 128
      else if h : k = 3 then ((s[p].toNat : Int) - 224) * 4096 + ((s[p + 1].toNat : Int) - 128) * 64 + s[p + 2].toNat - 128
      else if h : k = 4 then ((s[p].toNat : Int) - 240) * 262144 + ((s[p + 1].toNat : Int) - 128) * 4096 + ((s[p + 2].toNat : Int) - 128) * 64 + s[p + 3].toNat - 128 else 0 := by
  rw [drop_at s p (by omega)]
  rcases (show k = 1 ∨ k = 2 ∨ k = 3 ∨ k = 4 by omega) with rfl | rfl | rfl | rfl
  · simp [oneV]
  · rw [drop_at s (p + 1) (by omega)]; simp [oneV]
  · rw [drop_at s (p + 1) (by omega), drop_at s (p + 2) (by omega)]; simp [oneV]
  · rw [drop_at s (p + 1) (by omega), drop_at s (p + 2) (by omega), drop_at s (p + 3) (by omega)]; simp [oneV]

set_option maxHeartbeats 2000000 in
set_option maxRecDepth 100000 in
theorem one_any (s : ByteArray) (p : Nat) (hp : p < s.size) (hs : s.size ≤ maxLen) (w : World) :
    Calls Try.prog 64 #[.string s, .int .i64 p] w fun e w' => e = .returned (.tuple #[.int .i32 (oneOf (s.data.toList.drop p)).1, .int .i64 (oneOf (s.data.toList.drop p)).2]) ∧ Below w.heap.size w w' := by
  have hS := Lib.hid hs
  unfold maxLen at hs
  go_enter Try.func64, Try.ntmps64
  go_wp2
  go_loopg [6] 5 (fun g n wr => ∃ k : Nat, 1 ≤ k ∧ g + k = 6 ∧ n = .int .i64 k ∧ (∀ j r, j < k → dec1 (s.data.toList.drop p) ≠ some (r, j)) ∧ Below w.heap.size w wr)
  case atStart => exact ⟨1, by omega, by omega, rfl, fun j r hj h => by have := (one_conv h).2.2.2.1; omega, Below.refl _ _⟩
  case round =>
    obtain ⟨k, hk1, hk5, rfl, hno, hbw⟩ := hrel
    have HN := Lib.hid hno
    have HK := Lib.hid hk5
    have hk5' : k ≤ 6 := by omega
    clear hno hk5
    by_cases hin : k ≤ 4 ∧ (k : Int) ≤ s.size - p
    · obtain ⟨hk4, hks⟩ := hin
      have hsz := hbw.size
      have HV := Lib.hid (oneV_at s p k hk1 hk4 (by omega))
      go_upto_block 2 with fail
      go_cut [7] (fun v wx => v = .int .i64 (oneV k (s.data.toList.drop p)) ∧ ∃ n, wx = wr.drewN n)
      case first =>
        rcases (show k = 1 ∨ k = 2 ∨ k = 3 ∨ k = 4 by omega) with rfl | rfl | rfl | rfl
        · have hb0 : (s[p].toNat : Int) ≤ 255 := by have := s[p].toNat_lt; omega
          have f0 : IntKind.i64.wrap ((s[p].toNat : Int)) = (s[p].toNat : Int) := IntWalk.i64_in _ (by omega)
          go_wp2_with fail
          go_meet
          exact ⟨by rw [HV.out]; rfl, 0, rfl⟩
        · have hb0 : (s[p].toNat : Int) ≤ 255 := by have := s[p].toNat_lt; omega
          have hb1 : (s[p + 1].toNat : Int) ≤ 255 := by have := s[p + 1].toNat_lt; omega
          have q1 : 0 ≤ (p : Int) + 1 := by omega
          have z1 : (p : Int) + 1 < s.size := by omega
          have r1 : ((p : Int) + 1).toNat = p + 1 := by omega
          have f0 : IntKind.i64.wrap ((s[p].toNat : Int)) = (s[p].toNat : Int) := IntWalk.i64_in _ (by omega)
          have f1 : IntKind.i64.wrap ((s[p].toNat : Int) - 192) = (s[p].toNat : Int) - 192 := IntWalk.i64_in _ (by omega)
          have f2 : IntKind.i64.wrap (((s[p].toNat : Int) - 192) * 64) = ((s[p].toNat : Int) - 192) * 64 := IntWalk.i64_in _ (by omega)
          have f3 : IntKind.i64.wrap ((p : Int) + 1) = (p : Int) + 1 := IntWalk.i64_in _ (by omega)
          have f4 : IntKind.i64.wrap ((s[p + 1].toNat : Int)) = (s[p + 1].toNat : Int) := IntWalk.i64_in _ (by omega)
          have f5 : IntKind.i64.wrap (((s[p].toNat : Int) - 192) * 64 + (s[p + 1].toNat : Int)) = ((s[p].toNat : Int) - 192) * 64 + (s[p + 1].toNat : Int) := IntWalk.i64_in _ (by omega)
          have f6 : IntKind.i64.wrap (((s[p].toNat : Int) - 192) * 64 + (s[p + 1].toNat : Int) - 128) = ((s[p].toNat : Int) - 192) * 64 + (s[p + 1].toNat : Int) - 128 := IntWalk.i64_in _ (by omega)
          go_wp2_with fail
          go_quiet (fail)
          go_wp2_with fail
          go_meet
          exact ⟨by rw [HV.out]; rfl, _, rfl⟩
        · have hb0 : (s[p].toNat : Int) ≤ 255 := by have := s[p].toNat_lt; omega
          have hb1 : (s[p + 1].toNat : Int) ≤ 255 := by have := s[p + 1].toNat_lt; omega
          have hb2 : (s[p + 2].toNat : Int) ≤ 255 := by have := s[p + 2].toNat_lt; omega
          have q1 : 0 ≤ (p : Int) + 1 := by omega
          have z1 : (p : Int) + 1 < s.size := by omega
          have r1 : ((p : Int) + 1).toNat = p + 1 := by omega
          have q2 : 0 ≤ (p : Int) + 2 := by omega
          have z2 : (p : Int) + 2 < s.size := by omega
          have r2 : ((p : Int) + 2).toNat = p + 2 := by omega
          have f0 : IntKind.i64.wrap ((s[p].toNat : Int)) = (s[p].toNat : Int) := IntWalk.i64_in _ (by omega)
          have f1 : IntKind.i64.wrap ((s[p].toNat : Int) - 224) = (s[p].toNat : Int) - 224 := IntWalk.i64_in _ (by omega)
          have f2 : IntKind.i64.wrap (((s[p].toNat : Int) - 224) * 4096) = ((s[p].toNat : Int) - 224) * 4096 := IntWalk.i64_in _ (by omega)
          have f3 : IntKind.i64.wrap ((p : Int) + 1) = (p : Int) + 1 := IntWalk.i64_in _ (by omega)
          have f4 : IntKind.i64.wrap ((s[p + 1].toNat : Int)) = (s[p + 1].toNat : Int) := IntWalk.i64_in _ (by omega)
          have f5 : IntKind.i64.wrap ((s[p + 1].toNat : Int) - 128) = (s[p + 1].toNat : Int) - 128 := IntWalk.i64_in _ (by omega)
          have f6 : IntKind.i64.wrap (((s[p + 1].toNat : Int) - 128) * 64) = ((s[p + 1].toNat : Int) - 128) * 64 := IntWalk.i64_in _ (by omega)
          have f7 : IntKind.i64.wrap (((s[p].toNat : Int) - 224) * 4096 + ((s[p + 1].toNat : Int) - 128) * 64) = ((s[p].toNat : Int) - 224) * 4096 + ((s[p + 1].toNat : Int) - 128) * 64 := IntWalk.i64_in _ (by omega)
          have f8 : IntKind.i64.wrap ((p : Int) + 2) = (p : Int) + 2 := IntWalk.i64_in _ (by omega)
          have f9 : IntKind.i64.wrap ((s[p + 2].toNat : Int)) = (s[p + 2].toNat : Int) := IntWalk.i64_in _ (by omega)
          have f10 : IntKind.i64.wrap (((s[p].toNat : Int) - 224) * 4096 + ((s[p + 1].toNat : Int) - 128) * 64 + (s[p + 2].toNat : Int)) = ((s[p].toNat : Int) - 224) * 4096 + ((s[p + 1].toNat : Int) - 128) * 64 + (s[p + 2].toNat : Int) := IntWalk.i64_in _ (by omega)
          have f11 : IntKind.i64.wrap (((s[p].toNat : Int) - 224) * 4096 + ((s[p + 1].toNat : Int) - 128) * 64 + (s[p + 2].toNat : Int) - 128) = ((s[p].toNat : Int) - 224) * 4096 + ((s[p + 1].toNat : Int) - 128) * 64 + (s[p + 2].toNat : Int) - 128 := IntWalk.i64_in _ (by omega)
          go_wp2_with fail
          go_quiet (fail)
          go_wp2_with fail
          go_meet
          exact ⟨by rw [HV.out]; rfl, _, rfl⟩
        · have hb0 : (s[p].toNat : Int) ≤ 255 := by have := s[p].toNat_lt; omega
          have hb1 : (s[p + 1].toNat : Int) ≤ 255 := by have := s[p + 1].toNat_lt; omega
          have hb2 : (s[p + 2].toNat : Int) ≤ 255 := by have := s[p + 2].toNat_lt; omega
          have hb3 : (s[p + 3].toNat : Int) ≤ 255 := by have := s[p + 3].toNat_lt; omega
          have q1 : 0 ≤ (p : Int) + 1 := by omega
          have z1 : (p : Int) + 1 < s.size := by omega
          have r1 : ((p : Int) + 1).toNat = p + 1 := by omega
          have q2 : 0 ≤ (p : Int) + 2 := by omega
          have z2 : (p : Int) + 2 < s.size := by omega
          have r2 : ((p : Int) + 2).toNat = p + 2 := by omega
          have q3 : 0 ≤ (p : Int) + 3 := by omega
          have z3 : (p : Int) + 3 < s.size := by omega
          have r3 : ((p : Int) + 3).toNat = p + 3 := by omega
          have f0 : IntKind.i64.wrap ((s[p].toNat : Int)) = (s[p].toNat : Int) := IntWalk.i64_in _ (by omega)
          have f1 : IntKind.i64.wrap ((s[p].toNat : Int) - 240) = (s[p].toNat : Int) - 240 := IntWalk.i64_in _ (by omega)
          have f2 : IntKind.i64.wrap (((s[p].toNat : Int) - 240) * 262144) = ((s[p].toNat : Int) - 240) * 262144 := IntWalk.i64_in _ (by omega)
          have f3 : IntKind.i64.wrap ((p : Int) + 1) = (p : Int) + 1 := IntWalk.i64_in _ (by omega)
          have f4 : IntKind.i64.wrap ((s[p + 1].toNat : Int)) = (s[p + 1].toNat : Int) := IntWalk.i64_in _ (by omega)
          have f5 : IntKind.i64.wrap ((s[p + 1].toNat : Int) - 128) = (s[p + 1].toNat : Int) - 128 := IntWalk.i64_in _ (by omega)
          have f6 : IntKind.i64.wrap (((s[p + 1].toNat : Int) - 128) * 4096) = ((s[p + 1].toNat : Int) - 128) * 4096 := IntWalk.i64_in _ (by omega)
          have f7 : IntKind.i64.wrap (((s[p].toNat : Int) - 240) * 262144 + ((s[p + 1].toNat : Int) - 128) * 4096) = ((s[p].toNat : Int) - 240) * 262144 + ((s[p + 1].toNat : Int) - 128) * 4096 := IntWalk.i64_in _ (by omega)
          have f8 : IntKind.i64.wrap ((p : Int) + 2) = (p : Int) + 2 := IntWalk.i64_in _ (by omega)
          have f9 : IntKind.i64.wrap ((s[p + 2].toNat : Int)) = (s[p + 2].toNat : Int) := IntWalk.i64_in _ (by omega)
          have f10 : IntKind.i64.wrap ((s[p + 2].toNat : Int) - 128) = (s[p + 2].toNat : Int) - 128 := IntWalk.i64_in _ (by omega)
          have f11 : IntKind.i64.wrap (((s[p + 2].toNat : Int) - 128) * 64) = ((s[p + 2].toNat : Int) - 128) * 64 := IntWalk.i64_in _ (by omega)
          have f12 : IntKind.i64.wrap (((s[p].toNat : Int) - 240) * 262144 + ((s[p + 1].toNat : Int) - 128) * 4096 + ((s[p + 2].toNat : Int) - 128) * 64) = ((s[p].toNat : Int) - 240) * 262144 + ((s[p + 1].toNat : Int) - 128) * 4096 + ((s[p + 2].toNat : Int) - 128) * 64 := IntWalk.i64_in _ (by omega)
          have f13 : IntKind.i64.wrap ((p : Int) + 3) = (p : Int) + 3 := IntWalk.i64_in _ (by omega)
          have f14 : IntKind.i64.wrap ((s[p + 3].toNat : Int)) = (s[p + 3].toNat : Int) := IntWalk.i64_in _ (by omega)
          have f15 : IntKind.i64.wrap (((s[p].toNat : Int) - 240) * 262144 + ((s[p + 1].toNat : Int) - 128) * 4096 + ((s[p + 2].toNat : Int) - 128) * 64 + (s[p + 3].toNat : Int)) = ((s[p].toNat : Int) - 240) * 262144 + ((s[p + 1].toNat : Int) - 128) * 4096 + ((s[p + 2].toNat : Int) - 128) * 64 + (s[p + 3].toNat : Int) := IntWalk.i64_in _ (by omega)
          have f16 : IntKind.i64.wrap (((s[p].toNat : Int) - 240) * 262144 + ((s[p + 1].toNat : Int) - 128) * 4096 + ((s[p + 2].toNat : Int) - 128) * 64 + (s[p + 3].toNat : Int) - 128) = ((s[p].toNat : Int) - 240) * 262144 + ((s[p + 1].toNat : Int) - 128) * 4096 + ((s[p + 2].toNat : Int) - 128) * 64 + (s[p + 3].toNat : Int) - 128 := IntWalk.i64_in _ (by omega)
          go_wp2_with fail
          go_quiet (fail)
          go_wp2_with fail
          go_meet
          exact ⟨by rw [HV.out]; rfl, _, rfl⟩
      case rest =>
        obtain ⟨rfl, nd, rfl⟩ := hcut
        clear HV
        have hbd := (show -100000000 ≤ oneV k (s.data.toList.drop p) ∧ oneV k (s.data.toList.drop p) ≤ 100000000 from oneV_bd k _)
        have HH := Lib.hid (fun hm h => @one_hit (s.data.toList.drop p) k (oneV k (s.data.toList.drop p)) hm h (by simp; omega))
        have HC := Lib.hid (fun r => @one_conv (s.data.toList.drop p) k r)
        generalize oneV k (s.data.toList.drop p) = v at *
        obtain ⟨hbd0, hbd1⟩ := hbd
        cases hm : may v with
        | true =>
          have hv := (may_iff _).1 hm
          have hv0 : 0 ≤ v := by omega
          have hv1 : v ≤ 1114111 := by omega
          have HM := Lib.hid hm
          clear hm hv
          have hcv : ∀ m : Nat, (convert 74 9 (.slice (some ⟨wr.heap.size, 0, none⟩) (encV v).length (encV v).length)).run Try.prog ((wr.drewN m).alloc (.cells ((encV v).map (Value.int .u8)).toArray 5)) = .ok (.string ⟨(enc v).toArray⟩) ((wr.drewN m).alloc (.cells ((encV v).map (Value.int .u8)).toArray 5)) := fun m => by
            rw [← strOfNums_enc v HM.out]
            exact conv_of _ wr.heap.size _ (encV v) rfl (MapKept.heap_alloc (wr.drewN m) _).1
          have HCV := Lib.hid hcv
          clear hcv
          go_wp2_with fail
          refine (May_any _ _).mono ?_
          rintro e w1 ⟨rfl, rfl⟩
          rw [HM.out]
          go_upto_region 15 with fail
          have hpk : (p : Int) + k ≤ s.size := by omega
          go_cut [118] (fun b wx => (∃ b0, b = .bool b0 ∧ b0 = ((enc v) == (s.data.toList.drop p).take k)) ∧ Below w.heap.size w wx)
          case first =>
            have f1 : IntKind.i32.wrap v = v := by rw [IntKind.wrap_i32]; omega
            have f2 : IntKind.i64.wrap ((p : Int) + k) = p + k := IntWalk.i64_in _ (by omega)
            have hcv := HCV.out
            clear HCV
            go_region_with ((go_at_call 56; refine (Bytes_any _ HM.out _).mono ?_; rintro e w1 ⟨rfl, rfl⟩))
            all_goals (go_wp2_with fail; go_meet)
            all_goals exact ⟨⟨_, rfl, by rw [ByteArray.toList_eq]; congr 1; simp [List.take_drop]⟩, (hbw.trans (below_drewN (Below.refl _ _) _)).alloc hsz _⟩
          case rest =>
            obtain ⟨⟨b0, rfl, hb0⟩, hbx⟩ := hcut
            have HB := Lib.hid hb0
            clear HCV hb0
            cases b0 with
            | true =>
              go_wp2
              go_ret2
              refine ⟨?_, hbx⟩
              have := HH.out HM.out (by simpa using HB.out.symm)
              simp only [oneOf, this]
              rfl
            | false =>
              go_wp2
              go_roundg (gk - 1)
              case measure => have := HK.out; omega
              case rel =>
                refine ⟨k + 1, by omega, by have := HK.out; omega, by go_num, fun j r hj hd => ?_, hbx⟩
                rcases Nat.lt_or_ge j k with hjk | hjk
                · exact HN.out j r hjk hd
                · obtain rfl : j = k := by omega
                  obtain ⟨c1, c2, c3, _⟩ := HC.out r hd
                  have := HB.out
                  rw [c3, c2] at this
                  simp at this
        | false =>
          have HM := Lib.hid hm
          have hbx := hbw.trans (below_drewN (Below.refl _ _) nd)
          clear hm
          have hno : ∀ j r, j < k + 1 → dec1 (s.data.toList.drop p) ≠ some (r, j) := fun j r hj hd => by
            rcases Nat.lt_or_ge j k with hjk | hjk
            · exact HN.out j r hjk hd
            · obtain rfl : j = k := by omega
              obtain ⟨c1, c2, c3, _⟩ := HC.out r hd
              have := HM.out
              rw [c3] at this
              rw [this] at c1
              simp at c1
          have HNO := Lib.hid hno
          clear hno
          by_cases v0 : v < 0
          · go_wp2
            go_roundg (gk - 1)
            case measure => have := HK.out; omega
            case rel => exact ⟨k + 1, by omega, by have := HK.out; omega, by go_num, HNO.out, hbx⟩
          · by_cases v1 : 1114111 < v
            · go_wp2
              go_roundg (gk - 1)
              case measure => have := HK.out; omega
              case rel => exact ⟨k + 1, by omega, by have := HK.out; omega, by go_num, HNO.out, hbx⟩
            · go_wp2_with fail
              refine (May_any _ _).mono ?_
              rintro e w1 ⟨rfl, rfl⟩
              rw [HM.out]
              go_wp2
              go_roundg (gk - 1)
              case measure => have := HK.out; omega
              case rel => exact ⟨k + 1, by omega, by have := HK.out; omega, by go_num, HNO.out, hbx⟩
    · have hnone : dec1 (s.data.toList.drop p) = none := by
        cases hd : dec1 (s.data.toList.drop p) with
        | none => rfl
        | some rk =>
          obtain ⟨r, j⟩ := rk
          obtain ⟨_, _, _, c1, c2, c3⟩ := one_conv hd
          simp at c3
          exact absurd hd (HN.out j r (by omega))
      have HZ := Lib.hid (show oneOf (s.data.toList.drop p) = (0, 0) by simp only [oneOf, hnone])
      clear hnone
      by_cases h4 : k ≤ 4
      · have h5 : (s.size : Int) - p < k := by omega
        clear hin
        go_wp2
        go_ret2
        rw [HZ.out]
        exact ⟨rfl, hbw⟩
      · clear hin
        go_wp2
        go_ret2
        rw [HZ.out]
        exact ⟨rfl, hbw⟩

end Go.Proofs.Ytcgioboiebanpaa
