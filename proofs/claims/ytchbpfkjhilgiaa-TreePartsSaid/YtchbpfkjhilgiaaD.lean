/- The reference's Compare; keys: cmp.Compare, cmp.Or, both Keys. -/
import Derived.Test.YtchbpfkjhilgiaaC
namespace Go.Proofs.Ytchbpfkjhilgiaa
open Go.RowKit
set_option linter.unusedVariables false

theorem ret_i {k : IntKind} {a a' : Int} (h1 : a = a') : Ending.returned (.int k a) = .returned (.int k a') := by rw [h1]
theorem ret_bool {a b : Bool} (h : a = b) : Ending.returned (.bool a) = .returned (.bool b) := by rw [h]

theorem cmp_eq_take : ∀ (x y : List UInt8) (k : Nat), x.take k = y.take k → Lib.compareBytes x y = Lib.compareBytes (x.drop k) (y.drop k)
  | x, y, 0, _ => by simp
  | [], [], k + 1, _ => by simp
  | [], b :: y, k + 1, h => by simp at h
  | a :: x, [], k + 1, h => by simp at h
  | a :: x, b :: y, k + 1, h => by
    simp only [List.take_succ_cons, List.cons.injEq] at h
    obtain ⟨rfl, h⟩ := h
    rw [List.drop_succ_cons, List.drop_succ_cons, ← cmp_eq_take x y k h, Lib.compareBytes, if_neg (by simp), if_neg (by simp)]

theorem cmp_at {x y : List UInt8} {k : Nat} (h : x.take k = y.take k) (hx : k < x.length) (hy : k < y.length) :
    (x.getD k 0 < y.getD k 0 → Lib.compareBytes x y = -1) ∧ (y.getD k 0 < x.getD k 0 → Lib.compareBytes x y = 1) := by
  rw [cmp_eq_take x y k h, List.drop_eq_getElem_cons hx, List.drop_eq_getElem_cons hy, Lib.compareBytes]
  have e1 : x.getD k 0 = x[k] := by simp [hx]
  have e2 : y.getD k 0 = y[k] := by simp [hy]
  rw [e1, e2]
  refine ⟨fun h => by rw [if_pos h], fun h => ?_⟩
  rw [if_neg (by have := h; simp only [UInt8.lt_iff_toNat_lt] at *; omega), if_pos h]

theorem cmp_refl (x : List UInt8) : Lib.compareBytes x x = 0 := by
  induction x with
  | nil => rfl
  | cons a x ih => rw [Lib.compareBytes, if_neg (by simp), if_neg (by simp), ih]

theorem take_snoc {α : Type} (d : α) (xs : List α) (k : Nat) (h : k < xs.length) : xs.take (k + 1) = xs.take k ++ [xs.getD k d] := by
  rw [List.take_succ_eq_append_getElem h]; simp [h]

set_option maxHeartbeats 1000000 in
set_option maxRecDepth 100000 in
theorem rcompare_any (x y : List UInt8) (hx : x.length = 32) (hy : y.length = 32) (w : World) :
    Calls Try.prog 34 #[.agg (idB x), .agg (idB y)] w fun e w' => e = .returned (.int .i64 (Lib.compareBytes x y)) ∧ Below w.heap.size w w' := by
  have HGX := Lib.hid (fun k (h : k < 32) => idB_get x k (by omega))
  have HGY := Lib.hid (fun k (h : k < 32) => idB_get y k (by omega))
  have HX := Lib.hid hx
  have HY := Lib.hid hy
  have hb0 := Lib.hid (((Below.refl w.heap.size w).alloc (Nat.le_refl _) (.cells (idB x) 36)).alloc (by simp) (.cells (idB y) 36))
  clear hx hy
  go_enter Try.func34, Try.ntmps34
  go_wp2_with fail
  go_loopg [5] 32 (fun g i wr => ∃ k : Nat, g + k = 32 ∧ i = .int .i64 k ∧ x.take k = y.take k ∧ ∃ n, wr = ((w.alloc (.cells (idB x) 36)).alloc (.cells (idB y) 36)).drewN n)
  case atStart => exact ⟨0, by omega, rfl, by simp, 0, rfl⟩
  case round =>
    obtain ⟨k, hg, rfl, hall, nd, rfl⟩ := hrel
    have HG := Lib.hid hg
    have HA := Lib.hid hall
    have hkle : k ≤ 32 := by omega
    clear hg hall
    by_cases hk : k < 32
    · have hgx := HGX.out k hk
      have hgy := HGY.out k hk
      have hki : (k : Int) < 32 := by omega
      have HC := Lib.hid (cmp_at HA.out (by rw [HX.out]; exact hk) (by rw [HY.out]; exact hk))
      have HT1 := Lib.hid (take_snoc 0 x k (by rw [HX.out]; exact hk))
      have HT2 := Lib.hid (take_snoc 0 y k (by rw [HY.out]; exact hk))
      have HR := Lib.hid (fun (h : x.getD k 0 = y.getD k 0) => h)
      generalize x.getD k 0 = a at *
      generalize y.getD k 0 = b at *
      have hlt : (a < b) ↔ (a.toNat : Int) < b.toNat := by rw [UInt8.lt_iff_toNat_lt]; omega
      have hgt : (b < a) ↔ (b.toNat : Int) < a.toNat := by rw [UInt8.lt_iff_toNat_lt]; omega
      have heq : a = b ↔ (a.toNat : Int) = b.toNat := by rw [← UInt8.toNat_inj]; omega
      have HLT := Lib.hid hlt
      have HGT := Lib.hid hgt
      have HEQ := Lib.hid heq
      clear hlt hgt heq
      generalize (a.toNat : Int) = p at *
      generalize (b.toNat : Int) = q at *
      by_cases h1 : p < q
      · go_wp2_with fail
        go_quiet (fail)
        go_wp2
        go_ret
        exact ⟨ret_i (HC.out.1 (HLT.out.2 h1)).symm, below_drewN (below_drewN hb0.out _) _⟩
      · by_cases h2 : q < p
        · go_wp2_with fail
          go_quiet (fail)
          go_wp2_with fail
          go_quiet (fail)
          go_wp2
          go_ret
          exact ⟨ret_i (HC.out.2 (HGT.out.2 h2)).symm, below_drewN (below_drewN (below_drewN hb0.out _) _) _⟩
        · go_wp2_with fail
          go_quiet (fail)
          go_wp2_with fail
          go_quiet (fail)
          go_wp2
          go_roundg (gk - 1)
          case measure => have := HG.out; omega
          case rel =>
            have e : a = b := HEQ.out.2 (by omega)
            exact ⟨k + 1, by have := HG.out; omega, by go_num, by rw [HT1.out, HT2.out, HA.out, e], _, rfl⟩
    · have HZ := Lib.hid (show k = 32 by omega)
      go_wp2
      go_ret
      have ha := HA.out
      rw [HZ.out, List.take_of_length_le (by rw [HX.out]; omega), List.take_of_length_le (by rw [HY.out]; omega)] at ha
      exact ⟨ret_i (by rw [ha, cmp_refl]), below_drewN hb0.out _⟩


def cmpInt (a b : Int) : Int := if a < b then -1 else if b < a then 1 else 0

theorem isNaN_int (a : Int) (w : World) : Calls Try.prog 43 #[.int .i64 a] w fun e w' => e = .returned (.bool false) ∧ w = w' := by
  go_enter Try.func43, Try.ntmps43
  go_wp2
  go_ret
  exact ⟨ret_bool (by simp), rfl⟩

set_option maxHeartbeats 400000 in
theorem cmpCompare (a b : Int) (w : World) : Calls Try.prog 31 #[.int .i64 a, .int .i64 b] w fun e w' => e = .returned (.int .i64 (cmpInt a b)) ∧ w = w' := by
  unfold cmpInt
  by_cases h1 : a < b
  · rw [if_pos h1]
    go_enter Try.func31, Try.ntmps31
    go_wp2_with fail
    refine (isNaN_int a _).mono ?_
    rintro e w1 ⟨rfl, rfl⟩
    go_wp2_with fail
    refine (isNaN_int b _).mono ?_
    rintro e w1 ⟨rfl, rfl⟩
    go_wp2
    go_ret
    exact ⟨rfl, rfl⟩
  · rw [if_neg h1]
    by_cases h2 : b < a
    · rw [if_pos h2]
      go_enter Try.func31, Try.ntmps31
      go_wp2_with fail
      refine (isNaN_int a _).mono ?_
      rintro e w1 ⟨rfl, rfl⟩
      go_wp2_with fail
      refine (isNaN_int b _).mono ?_
      rintro e w1 ⟨rfl, rfl⟩
      go_wp2
      go_ret
      exact ⟨rfl, rfl⟩
    · rw [if_neg h2]
      go_enter Try.func31, Try.ntmps31
      go_wp2_with fail
      refine (isNaN_int a _).mono ?_
      rintro e w1 ⟨rfl, rfl⟩
      go_wp2_with fail
      refine (isNaN_int b _).mono ?_
      rintro e w1 ⟨rfl, rfl⟩
      go_wp2
      go_ret
      exact ⟨rfl, rfl⟩

def or3 (a b c : Int) : Int := if a ≠ 0 then a else if b ≠ 0 then b else c

set_option maxHeartbeats 1000000 in
set_option maxRecDepth 100000 in
theorem cmpOr3 (a b c : Int) (g : Nat) (w : World) (h0 : w.cell? ⟨g, 0, none⟩ = some (.int .i64 a)) (h1 : w.cell? ⟨g, 1, none⟩ = some (.int .i64 b)) (h2 : w.cell? ⟨g, 2, none⟩ = some (.int .i64 c)) :
    Calls Try.prog 30 #[.slice (some ⟨g, 0, none⟩) 3 3] w fun e w' => e = .returned (.int .i64 (or3 a b c)) ∧ w = w' := by
  unfold or3
  by_cases ha : a = 0
  · have da : (a != 0) = false := by simp [ha]
    rw [if_neg (by simp [ha])]
    clear ha
    by_cases hb : b = 0
    · have db : (b != 0) = false := by simp [hb]
      rw [if_neg (by simp [hb])]
      clear hb
      by_cases hc : c = 0
      · have dc : (c != 0) = false := by simp [hc]
        have HC := Lib.hid hc
        clear hc
        go_enter Try.func30, Try.ntmps30
        go_wp2_with fail
        refine wp_loop_rounds 4 ?_
        rw [rounds_succ]
        go_wp2_with fail
        rw [rounds_succ]
        go_wp2_with fail
        rw [rounds_succ]
        go_wp2_with fail
        rw [rounds_succ]
        go_wp2_with fail
        go_ret
        exact ⟨ret_i HC.out.symm, rfl⟩
      · have dc : (c != 0) = true := by simp [hc]
        clear hc
        go_enter Try.func30, Try.ntmps30
        go_wp2_with fail
        refine wp_loop_rounds 4 ?_
        rw [rounds_succ]
        go_wp2_with fail
        rw [rounds_succ]
        go_wp2_with fail
        rw [rounds_succ]
        go_wp2_with fail
        go_ret
        exact ⟨rfl, rfl⟩
    · have db : (b != 0) = true := by simp [hb]
      rw [if_pos hb]
      clear hb
      go_enter Try.func30, Try.ntmps30
      go_wp2_with fail
      refine wp_loop_rounds 4 ?_
      rw [rounds_succ]
      go_wp2_with fail
      rw [rounds_succ]
      go_wp2_with fail
      go_ret
      exact ⟨rfl, rfl⟩
  · have da : (a != 0) = true := by simp [ha]
    rw [if_pos ha]
    clear ha
    go_enter Try.func30, Try.ntmps30
    go_wp2_with fail
    refine wp_loop_rounds 4 ?_
    rw [rounds_succ]
    go_wp2_with fail
    go_ret
    exact ⟨rfl, rfl⟩

end Go.Proofs.Ytchbpfkjhilgiaa
