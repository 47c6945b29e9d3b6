/- Walks of the reference of chapter 3: One, Decode. -/
import Derived.Test.YtipoifokcnbfnaaZ
import Derived.Deep.QuietTactic
import Derived.BigQuiet
import Derived.Deep.LoopGhost
import Derived.Deep.DeepCutAuto
import Derived.Deep.CutBlock
namespace Go.Proofs.Ytipoifokcnbfnaa
open Go.RowKit
set_option linter.unusedVariables false

/-- The number that One reckons of n bytes. -/
def oneV (n : Nat) (l : List UInt8) : Int :=
  match n, l with
  | 1, a :: _ => (a.toNat : Int)
  | 2, a :: b :: _ => ((a.toNat : Int) - 192) * 64 + b.toNat - 128
  | 3, a :: b :: c :: _ => ((a.toNat : Int) - 224) * 4096 + ((b.toNat : Int) - 128) * 64 + c.toNat - 128
  | 4, a :: b :: c :: d :: _ => ((a.toNat : Int) - 240) * 262144 + ((b.toNat : Int) - 128) * 4096 + ((c.toNat : Int) - 128) * 64 + d.toNat - 128
  | _, _ => 0

theorem one_hit {l : List UInt8} {n : Nat} {v : Int} (hm : may v = true) (h : enc v = l.take n) (hn : n ≤ l.length) : dec1 l = some (v, n) := by
  have e : l = enc v ++ l.drop n := by rw [h, List.take_append_drop]
  have hl : (enc v).length = n := by rw [h]; simp; omega
  rw [e, dec1_enc v _ hm, hl]

theorem one_conv {l : List UInt8} {n : Nat} {r : Int} (h : dec1 l = some (r, n)) : may r = true ∧ enc r = l.take n ∧ oneV n l = r ∧ 1 ≤ n ∧ n ≤ 4 ∧ n ≤ l.length := by
  obtain ⟨hm, t, rfl, rfl⟩ := dec1_some h
  have hm' := (may_iff r).1 hm
  refine ⟨hm, by simp, ?_, (enc_ne r).1, (enc_ne r).2, by simp⟩
  unfold enc
  by_cases h1 : r < 128
  · rw [if_pos h1]
    have e0 := toNat_of r.toNat (by omega)
    simp only [List.length_cons, List.length_nil, List.cons_append, List.nil_append, oneV, e0]
    omega
  rw [if_neg h1]
  by_cases h2 : r < 2048
  · rw [if_pos h2]
    have e0 := toNat_of (192 + r.toNat / 64) (by omega)
    have e1 := toNat_of (128 + r.toNat % 64) (by omega)
    simp only [List.length_cons, List.length_nil, List.cons_append, List.nil_append, oneV, e0, e1]
    omega
  rw [if_neg h2]
  by_cases h3 : r < 65536
  · rw [if_pos h3]
    have e0 := toNat_of (224 + r.toNat / 4096) (by omega)
    have e1 := toNat_of (128 + r.toNat / 64 % 64) (by omega)
    have e2 := toNat_of (128 + r.toNat % 64) (by omega)
    simp only [List.length_cons, List.length_nil, List.cons_append, List.nil_append, oneV, e0, e1, e2]
    omega
  · rw [if_neg h3]
    have e0 := toNat_of (240 + r.toNat / 262144) (by omega)
    have e3 := toNat_of (128 + r.toNat / 4096 % 64) (by omega)
    have e1 := toNat_of (128 + r.toNat / 64 % 64) (by omega)
    have e2 := toNat_of (128 + r.toNat % 64) (by omega)
    simp only [List.length_cons, List.length_nil, List.cons_append, List.nil_append, oneV, e0, e1, e2, e3]
    omega

theorem oneV_bd (n : Nat) (l : List UInt8) : -100000000 ≤ oneV n l ∧ oneV n l ≤ 100000000 := by
  unfold oneV
  split
  · rename_i a _; have := a.toNat_lt; omega
  · rename_i a b _; have := a.toNat_lt; have := b.toNat_lt; omega
  · rename_i a b c _; have := a.toNat_lt; have := b.toNat_lt; have := c.toNat_lt; omega
  · rename_i a b c d _; have := a.toNat_lt; have := b.toNat_lt; have := c.toNat_lt; have := d.toNat_lt; omega
  · omega

/-- What One hands back. -/
def oneOf (l : List UInt8) : Int × Int := match dec1 l with | some (r, k) => (r, (k : Int)) | none => (0, 0)

theorem oneV_at (s : ByteArray) (p k : Nat) (h1 : 1 ≤ k) (h4 : k ≤ 4) (hks : p + k ≤ s.size) :
    oneV k (s.data.toList.drop p) = if h : k = 1 then (s[p].toNat : Int) else if h : k = 2 then ((s[p].toNat : Int) - 192) * 64 + s[p + 1].toNat - 128
      else if h : k = 3 then ((s[p].toNat : Int) - 224) * 4096 + ((s[p + 1].toNat : Int) - 128) * 64 + s[p + 2].toNat - 128
      else if h : k = 4 then ((s[p].toNat : Int) - 240) * 262144 + ((s[p + 1].toNat : Int) - 128) * 4096 + ((s[p + 2].toNat : Int) - 128) * 64 + s[p + 3].toNat - 128 else 0 := by
  rw [drop_at s p (by omega)]
  rcases (show k = 1 ∨ k = 2 ∨ k = 3 ∨ k = 4 by omega) with rfl | rfl | rfl | rfl
  · simp [oneV]
  · rw [drop_at s (p + 1) (by omega)]; simp [oneV]
  · rw [drop_at s (p + 1) (by omega), drop_at s (p + 2) (by omega)]; simp [oneV]
  · rw [drop_at s (p + 1) (by omega), drop_at s (p + 2) (by omega), drop_at s (p + 3) (by omega)]; simp [oneV]

set_option maxHeartbeats 2000000 in
set_option maxRecDepth 100000 in
theorem one_any (s : ByteArray) (p : Nat) (hp : p < s.size) (hs : s.size ≤ maxLen) (w : World) :
    Calls Try.prog 32 #[.string s, .int .i64 p] w fun e w' => e = .returned (.tuple #[.int .i32 (oneOf (s.data.toList.drop p)).1, .int .i64 (oneOf (s.data.toList.drop p)).2]) ∧ Below w.heap.size w w' := by
  have hS := Lib.hid hs
  unfold maxLen at hs
  go_enter Try.func32, Try.ntmps32
  go_wp2
  go_loopg [6] 5 (fun g n wr => ∃ k : Nat, 1 ≤ k ∧ g + k = 6 ∧ n = .int .i64 k ∧ (∀ j r, j < k → dec1 (s.data.toList.drop p) ≠ some (r, j)) ∧ Below w.heap.size w wr)
  case atStart => exact ⟨1, by omega, by omega, rfl, fun j r hj h => by have := (one_conv h).2.2.2.1; omega, Below.refl _ _⟩
  case round =>
    obtain ⟨k, hk1, hk5, rfl, hno, hbw⟩ := hrel
    have HN := Lib.hid hno
    have HK := Lib.hid hk5
    have hk5' : k ≤ 6 := by omega
    clear hno hk5
    by_cases hin : k ≤ 4 ∧ (k : Int) ≤ s.size - p
    · obtain ⟨hk4, hks⟩ := hin
      have hsz := hbw.size
      have HV := Lib.hid (oneV_at s p k hk1 hk4 (by omega))
      go_upto_block 2 with fail
      go_cut [7] (fun v wx => v = .int .i64 (oneV k (s.data.toList.drop p)) ∧ ∃ n, wx = wr.drewN n)
      case first =>
        rcases (show k = 1 ∨ k = 2 ∨ k = 3 ∨ k = 4 by omega) with rfl | rfl | rfl | rfl
        · have hb0 : (s[p].toNat : Int) ≤ 255 := by have := s[p].toNat_lt; omega
          have f0 : IntKind.i64.wrap ((s[p].toNat : Int)) = (s[p].toNat : Int) := IntWalk.i64_in _ (by omega)
          go_wp2_with fail
          go_meet
          exact ⟨by rw [HV.out]; rfl, 0, rfl⟩
        · have hb0 : (s[p].toNat : Int) ≤ 255 := by have := s[p].toNat_lt; omega
          have hb1 : (s[p + 1].toNat : Int) ≤ 255 := by have := s[p + 1].toNat_lt; omega
          have q1 : 0 ≤ (p : Int) + 1 := by omega
          have z1 : (p : Int) + 1 < s.size := by omega
          have r1 : ((p : Int) + 1).toNat = p + 1 := by omega
          have f0 : IntKind.i64.wrap ((s[p].toNat : Int)) = (s[p].toNat : Int) := IntWalk.i64_in _ (by omega)
          have f1 : IntKind.i64.wrap ((s[p].toNat : Int) - 192) = (s[p].toNat : Int) - 192 := IntWalk.i64_in _ (by omega)
          have f2 : IntKind.i64.wrap (((s[p].toNat : Int) - 192) * 64) = ((s[p].toNat : Int) - 192) * 64 := IntWalk.i64_in _ (by omega)
          have f3 : IntKind.i64.wrap ((p : Int) + 1) = (p : Int) + 1 := IntWalk.i64_in _ (by omega)
          have f4 : IntKind.i64.wrap ((s[p + 1].toNat : Int)) = (s[p + 1].toNat : Int) := IntWalk.i64_in _ (by omega)
          have f5 : IntKind.i64.wrap (((s[p].toNat : Int) - 192) * 64 + (s[p + 1].toNat : Int)) = ((s[p].toNat : Int) - 192) * 64 + (s[p + 1].toNat : Int) := IntWalk.i64_in _ (by omega)
          have f6 : IntKind.i64.wrap (((s[p].toNat : Int) - 192) * 64 + (s[p + 1].toNat : Int) - 128) = ((s[p].toNat : Int) - 192) * 64 + (s[p + 1].toNat : Int) - 128 := IntWalk.i64_in _ (by omega)
          go_wp2_with fail
          go_quiet (fail)
          go_wp2_with fail
          go_meet
          exact ⟨by rw [HV.out]; rfl, _, rfl⟩
        · have hb0 : (s[p].toNat : Int) ≤ 255 := by have := s[p].toNat_lt; omega
          have hb1 : (s[p + 1].toNat : Int) ≤ 255 := by have := s[p + 1].toNat_lt; omega
          have hb2 : (s[p + 2].toNat : Int) ≤ 255 := by have := s[p + 2].toNat_lt; omega
          have q1 : 0 ≤ (p : Int) + 1 := by omega
          have z1 : (p : Int) + 1 < s.size := by omega
          have r1 : ((p : Int) + 1).toNat = p + 1 := by omega
          have q2 : 0 ≤ (p : Int) + 2 := by omega
          have z2 : (p : Int) + 2 < s.size := by omega
          have r2 : ((p : Int) + 2).toNat = p + 2 := by omega
          have f0 : IntKind.i64.wrap ((s[p].toNat : Int)) = (s[p].toNat : Int) := IntWalk.i64_in _ (by omega)
          have f1 : IntKind.i64.wrap ((s[p].toNat : Int) - 224) = (s[p].toNat : Int) - 224 := IntWalk.i64_in _ (by omega)
          have f2 : IntKind.i64.wrap (((s[p].toNat : Int) - 224) * 4096) = ((s[p].toNat : Int) - 224) * 4096 := IntWalk.i64_in _ (by omega)
          have f3 : IntKind.i64.wrap ((p : Int) + 1) = (p : Int) + 1 := IntWalk.i64_in _ (by omega)
          have f4 : IntKind.i64.wrap ((s[p + 1].toNat : Int)) = (s[p + 1].toNat : Int) := IntWalk.i64_in _ (by omega)
          have f5 : IntKind.i64.wrap ((s[p + 1].toNat : Int) - 128) = (s[p + 1].toNat : Int) - 128 := IntWalk.i64_in _ (by omega)
          have f6 : IntKind.i64.wrap (((s[p + 1].toNat : Int) - 128) * 64) = ((s[p + 1].toNat : Int) - 128) * 64 := IntWalk.i64_in _ (by omega)
          have f7 : IntKind.i64.wrap (((s[p].toNat : Int) - 224) * 4096 + ((s[p + 1].toNat : Int) - 128) * 64) = ((s[p].toNat : Int) - 224) * 4096 + ((s[p + 1].toNat : Int) - 128) * 64 := IntWalk.i64_in _ (by omega)
          have f8 : IntKind.i64.wrap ((p : Int) + 2) = (p : Int) + 2 := IntWalk.i64_in _ (by omega)
          have f9 : IntKind.i64.wrap ((s[p + 2].toNat : Int)) = (s[p + 2].toNat : Int) := IntWalk.i64_in _ (by omega)
          have f10 : IntKind.i64.wrap (((s[p].toNat : Int) - 224) * 4096 + ((s[p + 1].toNat : Int) - 128) * 64 + (s[p + 2].toNat : Int)) = ((s[p].toNat : Int) - 224) * 4096 + ((s[p + 1].toNat : Int) - 128) * 64 + (s[p + 2].toNat : Int) := IntWalk.i64_in _ (by omega)
          have f11 : IntKind.i64.wrap (((s[p].toNat : Int) - 224) * 4096 + ((s[p + 1].toNat : Int) - 128) * 64 + (s[p + 2].toNat : Int) - 128) = ((s[p].toNat : Int) - 224) * 4096 + ((s[p + 1].toNat : Int) - 128) * 64 + (s[p + 2].toNat : Int) - 128 := IntWalk.i64_in _ (by omega)
          go_wp2_with fail
          go_quiet (fail)
          go_wp2_with fail
          go_meet
          exact ⟨by rw [HV.out]; rfl, _, rfl⟩
        · have hb0 : (s[p].toNat : Int) ≤ 255 := by have := s[p].toNat_lt; omega
          have hb1 : (s[p + 1].toNat : Int) ≤ 255 := by have := s[p + 1].toNat_lt; omega
          have hb2 : (s[p + 2].toNat : Int) ≤ 255 := by have := s[p + 2].toNat_lt; omega
          have hb3 : (s[p + 3].toNat : Int) ≤ 255 := by have := s[p + 3].toNat_lt; omega
          have q1 : 0 ≤ (p : Int) + 1 := by omega
          have z1 : (p : Int) + 1 < s.size := by omega
          have r1 : ((p : Int) + 1).toNat = p + 1 := by omega
          have q2 : 0 ≤ (p : Int) + 2 := by omega
          have z2 : (p : Int) + 2 < s.size := by omega
          have r2 : ((p : Int) + 2).toNat = p + 2 := by omega
          have q3 : 0 ≤ (p : Int) + 3 := by omega
          have z3 : (p : Int) + 3 < s.size := by omega
          have r3 : ((p : Int) + 3).toNat = p + 3 := by omega
          have f0 : IntKind.i64.wrap ((s[p].toNat : Int)) = (s[p].toNat : Int) := IntWalk.i64_in _ (by omega)
          have f1 : IntKind.i64.wrap ((s[p].toNat : Int) - 240) = (s[p].toNat : Int) - 240 := IntWalk.i64_in _ (by omega)
          have f2 : IntKind.i64.wrap (((s[p].toNat : Int) - 240) * 262144) = ((s[p].toNat : Int) - 240) * 262144 := IntWalk.i64_in _ (by omega)
          have f3 : IntKind.i64.wrap ((p : Int) + 1) = (p : Int) + 1 := IntWalk.i64_in _ (by omega)
          have f4 : IntKind.i64.wrap ((s[p + 1].toNat : Int)) = (s[p + 1].toNat : Int) := IntWalk.i64_in _ (by omega)
          have f5 : IntKind.i64.wrap ((s[p + 1].toNat : Int) - 128) = (s[p + 1].toNat : Int) - 128 := IntWalk.i64_in _ (by omega)
          have f6 : IntKind.i64.wrap (((s[p + 1].toNat : Int) - 128) * 4096) = ((s[p + 1].toNat : Int) - 128) * 4096 := IntWalk.i64_in _ (by omega)
          have f7 : IntKind.i64.wrap (((s[p].toNat : Int) - 240) * 262144 + ((s[p + 1].toNat : Int) - 128) * 4096) = ((s[p].toNat : Int) - 240) * 262144 + ((s[p + 1].toNat : Int) - 128) * 4096 := IntWalk.i64_in _ (by omega)
          have f8 : IntKind.i64.wrap ((p : Int) + 2) = (p : Int) + 2 := IntWalk.i64_in _ (by omega)
          have f9 : IntKind.i64.wrap ((s[p + 2].toNat : Int)) = (s[p + 2].toNat : Int) := IntWalk.i64_in _ (by omega)
          have f10 : IntKind.i64.wrap ((s[p + 2].toNat : Int) - 128) = (s[p + 2].toNat : Int) - 128 := IntWalk.i64_in _ (by omega)
          have f11 : IntKind.i64.wrap (((s[p + 2].toNat : Int) - 128) * 64) = ((s[p + 2].toNat : Int) - 128) * 64 := IntWalk.i64_in _ (by omega)
          have f12 : IntKind.i64.wrap (((s[p].toNat : Int) - 240) * 262144 + ((s[p + 1].toNat : Int) - 128) * 4096 + ((s[p + 2].toNat : Int) - 128) * 64) = ((s[p].toNat : Int) - 240) * 262144 + ((s[p + 1].toNat : Int) - 128) * 4096 + ((s[p + 2].toNat : Int) - 128) * 64 := IntWalk.i64_in _ (by omega)
          have f13 : IntKind.i64.wrap ((p : Int) + 3) = (p : Int) + 3 := IntWalk.i64_in _ (by omega)
          have f14 : IntKind.i64.wrap ((s[p + 3].toNat : Int)) = (s[p + 3].toNat : Int) := IntWalk.i64_in _ (by omega)
          have f15 : IntKind.i64.wrap (((s[p].toNat : Int) - 240) * 262144 + ((s[p + 1].toNat : Int) - 128) * 4096 + ((s[p + 2].toNat : Int) - 128) * 64 + (s[p + 3].toNat : Int)) = ((s[p].toNat : Int) - 240) * 262144 + ((s[p + 1].toNat : Int) - 128) * 4096 + ((s[p + 2].toNat : Int) - 128) * 64 + (s[p + 3].toNat : Int) := IntWalk.i64_in _ (by omega)
          have f16 : IntKind.i64.wrap (((s[p].toNat : Int) - 240) * 262144 + ((s[p + 1].toNat : Int) - 128) * 4096 + ((s[p + 2].toNat : Int) - 128) * 64 + (s[p + 3].toNat : Int) - 128) = ((s[p].toNat : Int) - 240) * 262144 + ((s[p + 1].toNat : Int) - 128) * 4096 + ((s[p + 2].toNat : Int) - 128) * 64 + (s[p + 3].toNat : Int) - 128 := IntWalk.i64_in _ (by omega)
          go_wp2_with fail
          go_quiet (fail)
          go_wp2_with fail
          go_meet
          exact ⟨by rw [HV.out]; rfl, _, rfl⟩
      case rest =>
        obtain ⟨rfl, nd, rfl⟩ := hcut
        clear HV
        have hbd := (show -100000000 ≤ oneV k (s.data.toList.drop p) ∧ oneV k (s.data.toList.drop p) ≤ 100000000 from oneV_bd k _)
        have HH := Lib.hid (fun hm h => @one_hit (s.data.toList.drop p) k (oneV k (s.data.toList.drop p)) hm h (by simp; omega))
        have HC := Lib.hid (fun r => @one_conv (s.data.toList.drop p) k r)
        generalize oneV k (s.data.toList.drop p) = v at *
        obtain ⟨hbd0, hbd1⟩ := hbd
        cases hm : may v with
        | true =>
          have hv := (may_iff _).1 hm
          have hv0 : 0 ≤ v := by omega
          have hv1 : v ≤ 1114111 := by omega
          have HM := Lib.hid hm
          clear hm hv
          have hcv : ∀ m : Nat, (convert 23 9 (.slice (some ⟨wr.heap.size, 0, none⟩) (encV v).length (encV v).length)).run Try.prog ((wr.drewN m).alloc (.cells ((encV v).map (Value.int .u8)).toArray 5)) = .ok (.string ⟨(enc v).toArray⟩) ((wr.drewN m).alloc (.cells ((encV v).map (Value.int .u8)).toArray 5)) := fun m => by
            rw [← strOfNums_enc v HM.out]
            exact conv_of _ wr.heap.size _ (encV v) rfl (MapKept.heap_alloc (wr.drewN m) _).1
          have HCV := Lib.hid hcv
          clear hcv
          go_wp2_with fail
          refine (May_any _ _).mono ?_
          rintro e w1 ⟨rfl, rfl⟩
          rw [HM.out]
          go_upto_region 15 with fail
          have hpk : (p : Int) + k ≤ s.size := by omega
          go_cut [118] (fun b wx => (∃ b0, b = .bool b0 ∧ b0 = ((enc v) == (s.data.toList.drop p).take k)) ∧ Below w.heap.size w wx)
          case first =>
            have f1 : IntKind.i32.wrap v = v := by rw [IntKind.wrap_i32]; omega
            have f2 : IntKind.i64.wrap ((p : Int) + k) = p + k := IntWalk.i64_in _ (by omega)
            have hcv := HCV.out
            clear HCV
            go_region_with ((go_at_call 27; refine (Bytes_any _ HM.out _).mono ?_; rintro e w1 ⟨rfl, rfl⟩))
            all_goals (go_wp2_with fail; go_meet)
            all_goals exact ⟨⟨_, rfl, by rw [ByteArray.toList_eq]; congr 1; simp [List.take_drop]⟩, (hbw.trans (below_drewN (Below.refl _ _) _)).alloc hsz _⟩
          case rest =>
            obtain ⟨⟨b0, rfl, hb0⟩, hbx⟩ := hcut
            have HB := Lib.hid hb0
            clear HCV hb0
            cases b0 with
            | true =>
              go_wp2
              go_ret2
              refine ⟨?_, hbx⟩
              have := HH.out HM.out (by simpa using HB.out.symm)
              simp only [oneOf, this]
              rfl
            | false =>
              go_wp2
              go_roundg (gk - 1)
              case measure => have := HK.out; omega
              case rel =>
                refine ⟨k + 1, by omega, by have := HK.out; omega, by go_num, fun j r hj hd => ?_, hbx⟩
                rcases Nat.lt_or_ge j k with hjk | hjk
                · exact HN.out j r hjk hd
                · obtain rfl : j = k := by omega
                  obtain ⟨c1, c2, c3, _⟩ := HC.out r hd
                  have := HB.out
                  rw [c3, c2] at this
                  simp at this
        | false =>
          have HM := Lib.hid hm
          have hbx := hbw.trans (below_drewN (Below.refl _ _) nd)
          clear hm
          have hno : ∀ j r, j < k + 1 → dec1 (s.data.toList.drop p) ≠ some (r, j) := fun j r hj hd => by
            rcases Nat.lt_or_ge j k with hjk | hjk
            · exact HN.out j r hjk hd
            · obtain rfl : j = k := by omega
              obtain ⟨c1, c2, c3, _⟩ := HC.out r hd
              have := HM.out
              rw [c3] at this
              rw [this] at c1
              simp at c1
          have HNO := Lib.hid hno
          clear hno
          by_cases v0 : v < 0
          · go_wp2
            go_roundg (gk - 1)
            case measure => have := HK.out; omega
            case rel => exact ⟨k + 1, by omega, by have := HK.out; omega, by go_num, HNO.out, hbx⟩
          · by_cases v1 : 1114111 < v
            · go_wp2
              go_roundg (gk - 1)
              case measure => have := HK.out; omega
              case rel => exact ⟨k + 1, by omega, by have := HK.out; omega, by go_num, HNO.out, hbx⟩
            · go_wp2_with fail
              refine (May_any _ _).mono ?_
              rintro e w1 ⟨rfl, rfl⟩
              rw [HM.out]
              go_wp2
              go_roundg (gk - 1)
              case measure => have := HK.out; omega
              case rel => exact ⟨k + 1, by omega, by have := HK.out; omega, by go_num, HNO.out, hbx⟩
    · have hnone : dec1 (s.data.toList.drop p) = none := by
        cases hd : dec1 (s.data.toList.drop p) with
        | none => rfl
        | some rk =>
          obtain ⟨r, j⟩ := rk
          obtain ⟨_, _, _, c1, c2, c3⟩ := one_conv hd
          simp at c3
          exact absurd hd (HN.out j r (by omega))
      have HZ := Lib.hid (show oneOf (s.data.toList.drop p) = (0, 0) by simp only [oneOf, hnone])
      clear hnone
      by_cases h4 : k ≤ 4
      · have h5 : (s.size : Int) - p < k := by omega
        clear hin
        go_wp2
        go_ret2
        rw [HZ.out]
        exact ⟨rfl, hbw⟩
      · clear hin
        go_wp2
        go_ret2
        rw [HZ.out]
        exact ⟨rfl, hbw⟩

end Go.Proofs.Ytipoifokcnbfnaa
