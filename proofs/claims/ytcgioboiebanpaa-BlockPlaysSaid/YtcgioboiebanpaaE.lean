/- The reference's Compare; keys: cmp.Compare, cmp.Or, both Keys. -/
import Derived.Test.YtcgioboiebanpaaC
import Derived.Test.YtcgioboiebanpaaU
import Derived.Test.YtcgioboiebanpaaK
namespace Go.Proofs.Ytcgioboiebanpaa
open Go.RowKit
set_option linter.unusedVariables false


theorem cmp_eq_take : ∀ (x y : List UInt8) (k : Nat), x.take k = y.take k → Lib.compareBytes x y = Lib.compareBytes (x.drop k) (y.drop k)
  | x, y, 0, _ => by simp
  | [], [], k + 1, _ => by simp
  | [], b :: y, k + 1, h => by simp at h
  | a :: x, [], k + 1, h => by simp at h
  | a :: x, b :: y, k + 1, h => by
    simp only [List.take_succ_cons, List.cons.injEq] at h
    obtain ⟨rfl, h⟩ := h
    rw [List.drop_succ_cons, List.drop_succ_cons, ← cmp_eq_take x y k h, Lib.compareBytes, if_neg (by simp), if_neg (by simp)]

theorem cmp_at {x y : List UInt8} {k : Nat} (h : x.take k = y.take k) (hx : k < x.length) (hy : k < y.length) :
    (x.getD k 0 < y.getD k 0 → Lib.compareBytes x y = -1) ∧ (y.getD k 0 < x.getD k 0 → Lib.compareBytes x y = 1) := by
  rw [cmp_eq_take x y k h, List.drop_eq_getElem_cons hx, List.drop_eq_getElem_cons hy, Lib.compareBytes]
  have e1 : x.getD k 0 = x[k] := by simp [hx]
  have e2 : y.getD k 0 = y[k] := by simp [hy]
  rw [e1, e2]
  refine ⟨fun h => by rw [if_pos h], fun h => ?_⟩
  rw [if_neg (by have := h; simp only [UInt8.lt_iff_toNat_lt] at *; omega), if_pos h]

theorem cmp_refl (x : List UInt8) : Lib.compareBytes x x = 0 := by
  induction x with
  | nil => rfl
  | cons a x ih => rw [Lib.compareBytes, if_neg (by simp), if_neg (by simp), ih]

theorem take_snoc {α : Type} (d : α) (xs : List α) (k : Nat) (h : k < xs.length) : xs.take (k + 1) = xs.take k ++ [xs.getD k d] := by
  rw [List.take_succ_eq_append_getElem h]; simp [h]

set_option maxHeartbeats 1000000 in
set_option maxRecDepth 100000 in
theorem rcompare_any (x y : List UInt8) (hx : x.length = 32) (hy : y.length = 32) (w : World) :
    Calls Try.prog 65 #[.agg (idB x), .agg (idB y)] w fun e w' => e = .returned (.int .i64 (Lib.compareBytes x y)) ∧ Below w.heap.size w w' := by
  have HGX := Lib.hid (fun k (h : k < 32) => idB_get x k (by omega))
  have HGY := Lib.hid (fun k (h : k < 32) => idB_get y k (by omega))
  have HX := Lib.hid hx
  have HY := Lib.hid hy
  have hb0 := Lib.hid (((Below.refl w.heap.size w).alloc (Nat.le_refl _) (.cells (idB x) 24)).alloc (by simp) (.cells (idB y) 24))
  clear hx hy
  go_enter Try.func65, Try.ntmps65
  go_wp2_with fail
  go_loopg [5] 32 (fun g i wr => ∃ k : Nat, g + k = 32 ∧ i = .int .i64 k ∧ x.take k = y.take k ∧ ∃ n, wr = ((w.alloc (.cells (idB x) 24)).alloc (.cells (idB y) 24)).drewN n)
  case atStart => exact ⟨0, by omega, rfl, by simp, 0, rfl⟩
  case round =>
    obtain ⟨k, hg, rfl, hall, nd, rfl⟩ := hrel
    have HG := Lib.hid hg
    have HA := Lib.hid hall
    have hkle : k ≤ 32 := by omega
    clear hg hall
    by_cases hk : k < 32
    · have hgx := HGX.out k hk
      have hgy := HGY.out k hk
      have hki : (k : Int) < 32 := by omega
      have HC := Lib.hid (cmp_at HA.out (by rw [HX.out]; exact hk) (by rw [HY.out]; exact hk))
      have HT1 := Lib.hid (take_snoc 0 x k (by rw [HX.out]; exact hk))
      have HT2 := Lib.hid (take_snoc 0 y k (by rw [HY.out]; exact hk))
      have HR := Lib.hid (fun (h : x.getD k 0 = y.getD k 0) => h)
      generalize x.getD k 0 = a at *
      generalize y.getD k 0 = b at *
      have hlt : (a < b) ↔ (a.toNat : Int) < b.toNat := by rw [UInt8.lt_iff_toNat_lt]; omega
      have hgt : (b < a) ↔ (b.toNat : Int) < a.toNat := by rw [UInt8.lt_iff_toNat_lt]; omega
      have heq : a = b ↔ (a.toNat : Int) = b.toNat := by rw [← UInt8.toNat_inj]; omega
      have HLT := Lib.hid hlt
      have HGT := Lib.hid hgt
      have HEQ := Lib.hid heq
      clear hlt hgt heq
      generalize (a.toNat : Int) = p at *
      generalize (b.toNat : Int) = q at *
      by_cases h1 : p < q
      · go_wp2_with fail
        go_quiet (fail)
        go_wp2
        go_ret
        exact ⟨ret_i (HC.out.1 (HLT.out.2 h1)).symm, below_drewN (below_drewN hb0.out _) _⟩
      · by_cases h2 : q < p
        · go_wp2_with fail
          go_quiet (fail)
          go_wp2_with fail
          go_quiet (fail)
          go_wp2
          go_ret
          exact ⟨ret_i (HC.out.2 (HGT.out.2 h2)).symm, below_drewN (below_drewN (below_drewN hb0.out _) _) _⟩
        · go_wp2_with fail
          go_quiet (fail)
          go_wp2_with fail
          go_quiet (fail)
          go_wp2
          go_roundg (gk - 1)
          case measure => have := HG.out; omega
          case rel =>
            have e : a = b := HEQ.out.2 (by omega)
            exact ⟨k + 1, by have := HG.out; omega, by go_num, by rw [HT1.out, HT2.out, HA.out, e], _, rfl⟩
    · have HZ := Lib.hid (show k = 32 by omega)
      go_wp2
      go_ret
      have ha := HA.out
      rw [HZ.out, List.take_of_length_le (by rw [HX.out]; omega), List.take_of_length_le (by rw [HY.out]; omega)] at ha
      exact ⟨ret_i (by rw [ha, cmp_refl]), below_drewN hb0.out _⟩


def cmpInt (a b : Int) : Int := if a < b then -1 else if b < a then 1 else 0

theorem isNaN_int (a : Int) (w : World) : Calls Try.prog 67 #[.int .i64 a] w fun e w' => e = .returned (.bool false) ∧ w = w' := by
  go_enter Try.func67, Try.ntmps67
  go_wp2
  go_ret
  exact ⟨ret_bool (by simp), rfl⟩

set_option maxHeartbeats 400000 in
theorem cmpCompare (a b : Int) (w : World) : Calls Try.prog 58 #[.int .i64 a, .int .i64 b] w fun e w' => e = .returned (.int .i64 (cmpInt a b)) ∧ w = w' := by
  unfold cmpInt
  by_cases h1 : a < b
  · rw [if_pos h1]
    go_enter Try.func58, Try.ntmps58
    go_wp2_with fail
    refine (isNaN_int a _).mono ?_
    rintro e w1 ⟨rfl, rfl⟩
    go_wp2_with fail
    refine (isNaN_int b _).mono ?_
    rintro e w1 ⟨rfl, rfl⟩
    go_wp2
    go_ret
    exact ⟨rfl, rfl⟩
  · rw [if_neg h1]
    by_cases h2 : b < a
    · rw [if_pos h2]
      go_enter Try.func58, Try.ntmps58
      go_wp2_with fail
      refine (isNaN_int a _).mono ?_
      rintro e w1 ⟨rfl, rfl⟩
      go_wp2_with fail
      refine (isNaN_int b _).mono ?_
      rintro e w1 ⟨rfl, rfl⟩
      go_wp2
      go_ret
      exact ⟨rfl, rfl⟩
    · rw [if_neg h2]
      go_enter Try.func58, Try.ntmps58
      go_wp2_with fail
      refine (isNaN_int a _).mono ?_
      rintro e w1 ⟨rfl, rfl⟩
      go_wp2_with fail
      refine (isNaN_int b _).mono ?_
      rintro e w1 ⟨rfl, rfl⟩
      go_wp2
      go_ret
      exact ⟨rfl, rfl⟩

def or3 (a b c : Int) : Int := if a ≠ 0 then a else if b ≠ 0 then b else c

set_option maxHeartbeats 1000000 in
set_option maxRecDepth 100000 in
theorem cmpOr3 (a b c : Int) (g : Nat) (w : World) (h0 : w.cell? ⟨g, 0, none⟩ = some (.int .i64 a)) (h1 : w.cell? ⟨g, 1, none⟩ = some (.int .i64 b)) (h2 : w.cell? ⟨g, 2, none⟩ = some (.int .i64 c)) :
    Calls Try.prog 57 #[.slice (some ⟨g, 0, none⟩) 3 3] w fun e w' => e = .returned (.int .i64 (or3 a b c)) ∧ w = w' := by
  unfold or3
  by_cases ha : a = 0
  · have da : (a != 0) = false := by simp [ha]
    rw [if_neg (by simp [ha])]
    clear ha
    by_cases hb : b = 0
    · have db : (b != 0) = false := by simp [hb]
      rw [if_neg (by simp [hb])]
      clear hb
      by_cases hc : c = 0
      · have dc : (c != 0) = false := by simp [hc]
        have HC := Lib.hid hc
        clear hc
        go_enter Try.func57, Try.ntmps57
        go_wp2_with fail
        refine wp_loop_rounds 4 ?_
        rw [rounds_succ]
        go_wp2_with fail
        rw [rounds_succ]
        go_wp2_with fail
        rw [rounds_succ]
        go_wp2_with fail
        rw [rounds_succ]
        go_wp2_with fail
        go_ret
        exact ⟨ret_i HC.out.symm, rfl⟩
      · have dc : (c != 0) = true := by simp [hc]
        clear hc
        go_enter Try.func57, Try.ntmps57
        go_wp2_with fail
        refine wp_loop_rounds 4 ?_
        rw [rounds_succ]
        go_wp2_with fail
        rw [rounds_succ]
        go_wp2_with fail
        rw [rounds_succ]
        go_wp2_with fail
        go_ret
        exact ⟨rfl, rfl⟩
    · have db : (b != 0) = true := by simp [hb]
      rw [if_pos hb]
      clear hb
      go_enter Try.func57, Try.ntmps57
      go_wp2_with fail
      refine wp_loop_rounds 4 ?_
      rw [rounds_succ]
      go_wp2_with fail
      rw [rounds_succ]
      go_wp2_with fail
      go_ret
      exact ⟨rfl, rfl⟩
  · have da : (a != 0) = true := by simp [ha]
    rw [if_pos ha]
    clear ha
    go_enter Try.func57, Try.ntmps57
    go_wp2_with fail
    refine wp_loop_rounds 4 ?_
    rw [rounds_succ]
    go_wp2_with fail
    go_ret
    exact ⟨rfl, rfl⟩

end Go.Proofs.Ytcgioboiebanpaa

namespace Go.Proofs.Ytcgioboiebanpaa
open Go.RowKit
set_option linter.unusedVariables false

/-- The cells of a key. -/
def keyB (t : Int) (c : List UInt8) (i : Int) : Array Value := #[.int .i64 t] ++ idB c ++ #[.int .i64 i]
theorem keyB_size (t : Int) (c : List UInt8) (i : Int) : (keyB t c i).size = c.length + 2 := by simp [keyB, idB_size]; omega
theorem keyB_list (t : Int) (c : List UInt8) (i : Int) : keyB t c i = ([Value.int .i64 t] ++ Lib.byteCells c ++ [Value.int .i64 i]).toArray := by simp [keyB, idB]
theorem keyB_0 (t : Int) (c : List UInt8) (i : Int) : (keyB t c i)[0]? = some (.int .i64 t) := by rw [keyB_list]; simp
theorem keyB_33 (t : Int) (c : List UInt8) (i : Int) (h : c.length = 32) : (keyB t c i)[33]? = some (.int .i64 i) := by
  have hl : (Lib.byteCells c).length = 32 := by rw [Lib.byteCells_length, h]
  rw [keyB_list]; simp [hl]
theorem keyB_id (t : Int) (c : List UInt8) (i : Int) (h : c.length = 32) : (keyB t c i).extract 1 33 = idB c := by
  have hl : (Lib.byteCells c).length = 32 := by rw [Lib.byteCells_length, h]
  rw [keyB_list, idB]
  simp [hl]

def keysCmp (t : Int) (c : List UInt8) (i : Int) (t' : Int) (c' : List UInt8) (i' : Int) : Int := or3 (cmpInt t t') (Lib.compareBytes c c') (cmpInt i i')

/-- What is known of the two boxed keys, in every later world. -/
def KeyAt (w : World) (b : Nat) (t : Int) (c : List UInt8) (i : Int) : Prop := w.heap[b]? = some (.cells (keyB t c i) 26)
theorem KeyAt.c0 {w : World} {b : Nat} {t : Int} {c : List UInt8} {i : Int} (h : KeyAt w b t c i) : w.cell? ⟨b, 0, none⟩ = some (.int .i64 t) := by
  rw [Lib.cell_of_heap h, keyB_0]
theorem KeyAt.c33 {w : World} {b : Nat} {t : Int} {c : List UInt8} {i : Int} (h : KeyAt w b t c i) (hc : c.length = 32) : w.cell? ⟨b, 33, none⟩ = some (.int .i64 i) := by
  rw [Lib.cell_of_heap h, keyB_33 _ _ _ hc]
theorem KeyAt.fits {w : World} {b : Nat} {t : Int} {c : List UInt8} {i : Int} (h : KeyAt w b t c i) (hc : c.length = 32) : fits w ⟨b, 1, none⟩ 32 :=
  ⟨rfl, _, _, _, h, by rw [keyB_size]; simp; omega⟩
theorem KeyAt.agg {w : World} {b : Nat} {t : Int} {c : List UInt8} {i : Int} (h : KeyAt w b t c i) (hc : c.length = 32) : aggAt w ⟨b, 1, none⟩ 32 = idB c := by
  unfold aggAt; rw [show w.heap[(⟨b, 1, none⟩ : Addr).block]? = some (.cells (keyB t c i) 26) from h]
  exact keyB_id t c i hc
theorem KeyAt.below {w w' : World} {b : Nat} {t : Int} {c : List UInt8} {i : Int} (h : KeyAt w b t c i) (hb : Below w.heap.size w w') : KeyAt w' b t c i :=
  (hb.block b (Array.getElem?_eq_some_iff.1 h).1).trans h


/-- A new slice of three numbers. -/
def row3 (a b c : Int) : Value → World → Prop := fun v w => ∃ g, v = .slice (some ⟨g, 0, none⟩) 3 3 ∧ w.heap[g]? = some (.cells #[.int .i64 a, .int .i64 b, .int .i64 c] 3)
theorem row3_st (a b c : Int) : ∀ v w w', row3 a b c v w → Below w.heap.size w w' → row3 a b c v w' :=
  fun _ _ _ ⟨g, hv, hg⟩ hb => ⟨g, hv, (hb.block g (Array.getElem?_eq_some_iff.1 hg).1).trans hg⟩

theorem bcell {W w1 : World} (hb : Below W.heap.size W w1) : (∀ b o, b < W.heap.size → w1.cell? ⟨b, o, none⟩ = W.cell? ⟨b, o, none⟩) :=
  fun b o h => hb.cell (p := ⟨b, o, none⟩) h

set_option maxHeartbeats 2000000 in
set_option maxRecDepth 100000 in
theorem keys_any (t : Int) (c : List UInt8) (i : Int) (t' : Int) (c' : List UInt8) (i' : Int) (hc : c.length = 32) (hc' : c'.length = 32) (w : World) :
    Calls Try.prog 42 #[.agg (keyB t c i), .agg (keyB t' c' i')] w fun e w' => e = .returned (.int .i64 (keysCmp t c i t' c' i')) ∧ Below w.heap.size w w' := by
  have k1 : KeyAt ((w.alloc (.cells (keyB t c i) 26)).alloc (.cells (keyB t' c' i') 26)) w.heap.size t c i :=
    (Below.heap_alloc _ _ _ (by simp)).trans (MapKept.heap_alloc w _).1
  have k2 : KeyAt ((w.alloc (.cells (keyB t c i) 26)).alloc (.cells (keyB t' c' i') 26)) (w.heap.size + 1) t' c' i' := by
    have := (MapKept.heap_alloc (w.alloc (.cells (keyB t c i) 26)) (.cells (keyB t' c' i') 26)).1
    simp only [World.size_alloc] at this
    exact this
  have hb0 := ((Below.refl w.heap.size w).alloc (Nat.le_refl _) (.cells (keyB t c i) 26)).alloc (by simp) (.cells (keyB t' c' i') 26)
  go_enter Try.func42, Try.ntmps42
  go_wp2_with fail
  obtain ⟨W, hW⟩ : ∃ W, W = (w.alloc (.cells (keyB t c i) 26)).alloc (.cells (keyB t' c' i') 26) := ⟨_, rfl⟩
  rw [← hW] at k1 k2 hb0 ⊢
  have HW := Lib.hid (show W.heap.size = w.heap.size + 2 by rw [hW]; simp)
  clear hW
  refine wp_region_specs [[], [0], [], [2], [1, 3], [], [5], [], [7], [6, 8], [], [10], [], [12], [11, 13], [4, 9, 14], [15], [16]] [some 5, some 6, some 7, some 8, some 9, some 10, some 11, some 12, some 13, some 14, some 15, some 16, some 17, some 18, some 19, some 20, some 21, some 4] [0, 1, 2, 3, 4, 5, 6, 7, 8, 9, 10, 11, 12, 13, 14, 15, 16, 17]
    (fun a b => Below a.heap.size a b)
    (fun k => [eqv (.pointer (some ⟨w.heap.size, 0, none⟩)), eqv (.int .i64 t), eqv (.pointer (some ⟨w.heap.size + 1, 0, none⟩)), eqv (.int .i64 t'), eqv (.int .i64 (cmpInt t t')),
      eqv (.pointer (some ⟨w.heap.size, 1, none⟩)), eqv (.agg (idB c)), eqv (.pointer (some ⟨w.heap.size + 1, 1, none⟩)), eqv (.agg (idB c')), eqv (.int .i64 (Lib.compareBytes c c')),
      eqv (.pointer (some ⟨w.heap.size, 33, none⟩)), eqv (.int .i64 i), eqv (.pointer (some ⟨w.heap.size + 1, 33, none⟩)), eqv (.int .i64 i'), eqv (.int .i64 (cmpInt i i')),
      row3 (cmpInt t t') (Lib.compareBytes c c') (cmpInt i i'), eqv (.int .i64 (keysCmp t c i t' c' i')), eqv (.int .i64 (keysCmp t c i t' c' i'))].getD k anyv)
    (by kernel_rfl) (by kernel_rfl) (below_drewN (Below.refl _ _) 1) (fun a b c h1 h2 => h1.trans (h2.mono h1.size)) ?_ ?_ ?_
  · exact Stables.get (by exact ⟨eqv_st _ _, eqv_st _ _, eqv_st _ _, eqv_st _ _, eqv_st _ _, eqv_st _ _, eqv_st _ _, eqv_st _ _, eqv_st _ _, eqv_st _ _, eqv_st _ _, eqv_st _ _, eqv_st _ _, eqv_st _ _, eqv_st _ _, row3_st _ _ _, eqv_st _ _, eqv_st _ _, trivial⟩)
  · refine ⟨?_, ?_, ?_, ?_, ?_, ?_, ?_, ?_, ?_, ?_, ?_, ?_, ?_, ?_, ?_, ?_, ?_, ?_, trivial⟩
    · intro vs w1 hr _ hd
      simp only [putL]
      clear hd 
      go_wp2
      exact ⟨rfl, rfl, Below.refl _ _, rfl⟩
    · intro vs w1 hr _ hd
      have h0 := hd.get 0 rfl
      change vs 0 = _ at h0
      have e1 := (k1.below hr).c0
      simp only [putL, h0]
      clear hd h0
      go_wp2
      exact ⟨rfl, rfl, Below.refl _ _, rfl⟩
    · intro vs w1 hr _ hd
      simp only [putL]
      clear hd 
      go_wp2
      exact ⟨rfl, rfl, Below.refl _ _, rfl⟩
    · intro vs w1 hr _ hd
      have h2 := hd.get 2 rfl
      change vs 2 = _ at h2
      have e1 := (k2.below hr).c0
      simp only [putL, h2]
      clear hd h2
      go_wp2
      exact ⟨rfl, rfl, Below.refl _ _, rfl⟩
    · intro vs w1 hr _ hd
      have h1 := hd.get 1 rfl
      change vs 1 = _ at h1
      have h3 := hd.get 3 rfl
      change vs 3 = _ at h3
      simp only [putL, h1, h3]
      clear hd h1 h3
      go_wp2_with fail
      refine (cmpCompare t t' _).mono ?_
      rintro e w2 ⟨rfl, rfl⟩
      go_wp2
      exact ⟨rfl, rfl, Below.refl _ _, rfl⟩
    · intro vs w1 hr _ hd
      simp only [putL]
      clear hd 
      go_wp2
      exact ⟨rfl, rfl, Below.refl _ _, rfl⟩
    · intro vs w1 hr _ hd
      have h5 := hd.get 5 rfl
      change vs 5 = _ at h5
      have e1 := (k1.below hr).fits hc
      have e2 := (k1.below hr).agg hc
      simp only [putL, h5]
      clear hd h5
      go_wp2
      exact ⟨rfl, rfl, Below.refl _ _, rfl⟩
    · intro vs w1 hr _ hd
      simp only [putL]
      clear hd 
      go_wp2
      exact ⟨rfl, rfl, Below.refl _ _, rfl⟩
    · intro vs w1 hr _ hd
      have h7 := hd.get 7 rfl
      change vs 7 = _ at h7
      have e1 := (k2.below hr).fits hc'
      have e2 := (k2.below hr).agg hc'
      simp only [putL, h7]
      clear hd h7
      go_wp2
      exact ⟨rfl, rfl, Below.refl _ _, rfl⟩
    · intro vs w1 hr _ hd
      have h6 := hd.get 6 rfl
      change vs 6 = _ at h6
      have h8 := hd.get 8 rfl
      change vs 8 = _ at h8
      simp only [putL, h6, h8]
      clear hd h6 h8
      go_wp2_with fail
      refine (compare_any c c' hc hc' _).mono ?_
      rintro e w2 ⟨rfl, hb2⟩
      go_wp2
      exact ⟨rfl, rfl, hb2, rfl⟩
    · intro vs w1 hr _ hd
      simp only [putL]
      clear hd 
      go_wp2
      exact ⟨rfl, rfl, Below.refl _ _, rfl⟩
    · intro vs w1 hr _ hd
      have h10 := hd.get 10 rfl
      change vs 10 = _ at h10
      have e1 := (k1.below hr).c33 hc
      simp only [putL, h10]
      clear hd h10
      go_wp2
      exact ⟨rfl, rfl, Below.refl _ _, rfl⟩
    · intro vs w1 hr _ hd
      simp only [putL]
      clear hd 
      go_wp2
      exact ⟨rfl, rfl, Below.refl _ _, rfl⟩
    · intro vs w1 hr _ hd
      have h12 := hd.get 12 rfl
      change vs 12 = _ at h12
      have e1 := (k2.below hr).c33 hc'
      simp only [putL, h12]
      clear hd h12
      go_wp2
      exact ⟨rfl, rfl, Below.refl _ _, rfl⟩
    · intro vs w1 hr _ hd
      have h11 := hd.get 11 rfl
      change vs 11 = _ at h11
      have h13 := hd.get 13 rfl
      change vs 13 = _ at h13
      simp only [putL, h11, h13]
      clear hd h11 h13
      go_wp2_with fail
      refine (cmpCompare i i' _).mono ?_
      rintro e w2 ⟨rfl, rfl⟩
      go_wp2
      exact ⟨rfl, rfl, Below.refl _ _, rfl⟩
    · intro vs w1 hr _ hd
      have h4 := hd.get 4 rfl
      change vs 4 = _ at h4
      have h9 := hd.get 9 rfl
      change vs 9 = _ at h9
      have h14 := hd.get 14 rfl
      change vs 14 = _ at h14
      simp only [putL, h4, h9, h14]
      clear hd h4 h9 h14
      go_wp2
      exact ⟨rfl, rfl, (Below.refl _ _).alloc (Nat.le_refl _) _, _, rfl, (MapKept.heap_alloc w1 _).1⟩
    · intro vs w1 hr _ hd
      obtain ⟨g, h0, hg⟩ := hd.get 15 rfl
      simp only [putL, h0]
      clear h0 hd
      go_wp2_with fail
      refine (cmpOr3 _ _ _ g _ (by rw [Lib.cell_of_heap hg]; rfl) (by rw [Lib.cell_of_heap hg]; rfl) (by rw [Lib.cell_of_heap hg]; rfl)).mono ?_
      rintro e w2 ⟨rfl, rfl⟩
      go_wp2
      exact ⟨rfl, rfl, Below.refl _ _, rfl⟩
    · intro vs w1 hr _ hd
      have h16 := hd.get 16 rfl
      change vs 16 = _ at h16
      simp only [putL, h16]
      clear hd h16
      go_wp2
      exact ⟨rfl, rfl, Below.refl _ _, rfl⟩
  · intro vs w1 hr hd
    have h17 := hd.get 17 rfl
    change vs 17 = _ at h17
    simp only [putL, List.getD_cons_zero, List.getD_cons_succ, Act.put, List.setIfInBounds_toArray, List.set_cons_zero, List.set_cons_succ, h17]
    clear h17 hd
    have hfin := Lib.hid (hb0.trans (hr.mono (show w.heap.size ≤ W.heap.size by rw [HW.out]; omega)))
    clear hb0 k1 k2 hr
    go_wp2
    go_ret
    exact ⟨rfl, hfin.out⟩

end Go.Proofs.Ytcgioboiebanpaa
